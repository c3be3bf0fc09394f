/- DaemonBusy's runs, joined. -/
import Derived.Test.YtnieadkafeohlaaGreatDoorBusy0
import Derived.Test.YtnieadkafeohlaaGreatDoorBusy1
import Derived.Test.YtnieadkafeohlaaGreatDoorBusy2
import Derived.Test.YtnieadkafeohlaaGreatDoorBusy3
set_option linter.unusedVariables false
namespace Go.Proofs.YtnieadkafeohlaaGreatDoor.daemonBusy
open Go Go.Proofs
theorem busy_run (n s : Int) (hn : 0 ≤ n) : X.isT (X.runV (T (sigB n s) (fxB (n.tmod 12) (decide (200 < s))) (fxB_ok n s)) N1 100000 5 [.isym .u8 0, .isym .u8 1]) = true := by
  have h := fxB_ok n s
  have hr : 0 ≤ n.tmod 12 ∧ n.tmod 12 < 12 := ⟨Int.tmod_nonneg _ hn, Int.tmod_lt_of_pos _ (by decide)⟩
  have key : ∀ (r : Int) (b : Bool), 0 ≤ r → r < 12 → ∀ h : (fxB r b).Ok (sigB n s), X.isT (X.runV (T (sigB n s) (fxB r b) h) N1 100000 5 [.isym .u8 0, .isym .u8 1]) = true := by
    intro r b h0 h1 h
    have : r = 0 ∨ r = 1 ∨ r = 2 ∨ r = 3 ∨ r = 4 ∨ r = 5 ∨ r = 6 ∨ r = 7 ∨ r = 8 ∨ r = 9 ∨ r = 10 ∨ r = 11 := by omega
    rcases this with rfl | rfl | rfl | rfl | rfl | rfl | rfl | rfl | rfl | rfl | rfl | rfl <;> cases b
    · exact run_0_false n s h
    · exact run_0_true n s h
    · exact run_1_false n s h
    · exact run_1_true n s h
    · exact run_2_false n s h
    · exact run_2_true n s h
    · exact run_3_false n s h
    · exact run_3_true n s h
    · exact run_4_false n s h
    · exact run_4_true n s h
    · exact run_5_false n s h
    · exact run_5_true n s h
    · exact run_6_false n s h
    · exact run_6_true n s h
    · exact run_7_false n s h
    · exact run_7_true n s h
    · exact run_8_false n s h
    · exact run_8_true n s h
    · exact run_9_false n s h
    · exact run_9_true n s h
    · exact run_10_false n s h
    · exact run_10_true n s h
    · exact run_11_false n s h
    · exact run_11_true n s h
  exact key _ _ hr.1 hr.2 _
end Go.Proofs.YtnieadkafeohlaaGreatDoor.daemonBusy

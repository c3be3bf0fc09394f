/- pack.Read's deferred closure at this dump. -/
import Derived.Test.YtnieadkafeohlaaGreatDoorGoxRec
import Derived.Test.YtnieadkafeohlaaGreatDoorProg
import Derived.WalkKit
import Derived.KernelRfl
set_option linter.unusedVariables false
set_option linter.unusedSimpArgs false
set_option maxRecDepth 100000
namespace Go.Proofs
open Go.RowKit

theorem Tryz.recIdle (u v : Value) (w : World) : CallsD Tryz.prog 255 #[u, v] .returning w fun e u' w' => (∃ x, e = .returned x) ∧ u' = .returning ∧ w' = w := by
  refine callsD_of_wpS Tryz.func255 rfl fun c₀ cs hu => ?_
  apply wpS_seq
  apply wpS_region
  simp [wpOpsS, go_sem, recoverD, hu, Tryz.ntmps255, Exit.thenS]
  apply X.wpS_block
  apply wpS_seq
  apply wpS_region
  simp [wpOpsS, go_sem, Exit.thenS]
  refine wpS_cond (t := true) (by simp [Act.eval, Array.replicate]) ?_
  simp only [if_true]
  apply wpS_region
  simp [wpOpsS, go_sem, Exit.thenS, Exit.inBlock, bodyPostS, results, Tryz.results255]
  cases c₀
  simp_all

theorem Tryz.recAssert (w : World) : (Instr.typeAssert (.iface 308 (.agg #[])) 20 308 true).run Tryz.prog w = .ok (.tuple #[.agg #[], .bool true]) w := by kernel_rfl

theorem Tryz.recCaught (u v : Value) (w : World) (Q : World → Prop)
    (h : ∀ a : Act, a.defers = [] → a.tmps.size = 12 → a.tmps.getD 0 undef = u → a.tmps.getD 1 undef = v → a.tmps.getD 10 undef = .agg #[] → (X.rcOf Tryz.prog 255).wp Tryz.prog (fun e a w' => e = .normal ∧ a.defers = [] ∧ Q w') a w) :
    CallsD Tryz.prog 255 #[u, v] (.panicking [{ v := .iface 308 (.agg #[]), recovered := false }]) w fun e u' w' => (∃ x, e = .returned x) ∧ u' = .panicking [{ v := .iface 308 (.agg #[]), recovered := true }] ∧ Q w' := by
  refine callsD_of_wpS Tryz.func255 rfl fun c₀ cs hu => ?_
  apply wpS_seq
  apply wpS_region
  simp [wpOpsS, go_sem, recoverD, hu, Tryz.ntmps255, Exit.thenS]
  apply X.wpS_block
  apply wpS_seq
  apply wpS_region
  simp [wpOpsS, go_sem, Exit.thenS]
  refine wpS_cond (t := false) (by simp [Act.eval, Array.replicate]) ?_
  simp only [Bool.false_eq_true, if_false]
  apply wpS_seq
  apply wpS_region
  simp [wpOpsS, go_sem, Exit.thenS, Tryz.recAssert]
  refine wpS_cond (t := true) (by simp [Act.eval, Array.replicate]) ?_
  simp only [if_true]
  have hrc : X.rcOf Tryz.prog 255 = X.rcOf1 Tryz.f255 := by unfold X.rcOf; rw [Tryz.func255]
  rw [hrc] at h
  simp only [X.rcOf1, Tryz.f255] at h
  refine wpS_of_wp (wp_mono (h _ ?_ ?_ ?_ ?_ ?_) ?_)
  · rfl
  · simp
  · simp
  · simp
  · simp [Array.replicate]
  rintro e a w' ⟨rfl, hd, hq⟩
  simp [bodyPostS, results, Tryz.results255, hd, hq]
theorem Tryz.recG : X.RecG Tryz.prog 255 308 12 10 (X.rcOf Tryz.prog 255) := ⟨Tryz.recIdle, Tryz.recCaught⟩
end Go.Proofs

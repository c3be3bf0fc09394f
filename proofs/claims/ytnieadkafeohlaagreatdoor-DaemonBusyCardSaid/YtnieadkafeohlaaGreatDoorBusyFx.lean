/- DaemonBusy's named numbers: how many requests, by twelves; how many steps, against two hundred. -/
import Derived.Test.YtnieadkafeohlaaGreatDoorEnv
set_option linter.unusedVariables false
namespace Go.Proofs.YtnieadkafeohlaaGreatDoor.daemonBusy
open Go Go.Proofs
def sigB (n s : Int) : Nat → Int
  | 0 => n
  | _ => s
def fxB (r : Int) (b : Bool) : X.Fx where
  rem i c := match i, c with
    | 0, 12 => some r
    | _, _ => none
  lt _ _ := none
  gt i c := match i, c with
    | 1, 200 => some b
    | _, _ => none
  eq _ _ := none
theorem fxB_ok (n s : Int) : (fxB (n.tmod 12) (decide (200 < s))).Ok (sigB n s) where
  rem i c r h := by
    simp only [fxB] at h
    split at h
    · simp only [Option.some.injEq] at h; subst h
      exact ⟨by decide, rfl⟩
    · cases h
  lt i c b h := by simp [fxB] at h
  gt i c b h := by
    simp only [fxB] at h
    split at h
    · simp only [Option.some.injEq] at h; subst h; rfl
    · cases h
  eq i c b h := by simp [fxB] at h
end Go.Proofs.YtnieadkafeohlaaGreatDoor.daemonBusy

/- Small words for a law's runs. -/
import Derived.Test.YtnieadkafeohlaaGreatDoorGoxGlob
import Derived.ProofKit
import Derived.OpenShut
set_option linter.unusedVariables false
namespace Go.X

def isT : Option AV → Bool
  | some (.bool true) => true
  | _ => false
theorem isT_ok {x : Option AV} (h : isT x = true) : x = some (.bool true) := by
  unfold isT at h
  split at h
  · rfl
  · cases h

/-- A slice of which nothing but its length is known. -/
theorem V.len_only {κ : Kap} {w : World} {b off n cap : Nat} (hn : n ≤ cap) (hr : κ.ret b) : V κ w (.sl .any n []) (.slice (some ⟨b, off, none⟩) n cap) :=
  .sl .any n [] b off cap [] (by simp) (by simp) hn hr rfl (by simp) (by simp) (by simp)

/-- What is asked of a run whose argument is a slice of bytes: nothing of its content. -/
def LenOnly (a : AV) : Prop := a = .sl .nil 0 [] ∨ ∃ n, a = .sl .any n []

theorem bytes_arg {sig : Nat → Int} {P : Program} {W : World} {base : Nat} {t e : TypeId} {v : Value} (ht : P.underlying t = some (.slice e))
    (hval : Value.okWide P W .any base t v) : ∃ a, V (kap0 W sig) W a v ∧ LenOnly a := by
  obtain ⟨a0, len, cap, rfl⟩ := WideShapes.okWide_slice ht hval
  simp only [Value.okWide, ht, Cell.okWide, Cell.ok] at hval
  cases a0 with
  | none =>
    cases len <;> cases cap <;> first
      | exact ⟨_, .nil, .inl rfl⟩
      | exact hval.elim
  | some a =>
    obtain ⟨hl, _, _, hs, row, cells, hsh, _⟩ := hval
    obtain ⟨b, off, spot⟩ := a
    simp only at hs; subst hs
    have hb : b < W.heap.size := by
      unfold World.shape? at hsh
      split at hsh
      · rename_i hh; exact lt_of_heap hh
      · simp at hsh
    exact ⟨_, .len_only hl hb, .inr ⟨len, rfl⟩⟩
end Go.X

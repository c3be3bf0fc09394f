/- What the laws' runs share: the listed variables, the functions, the closed example. -/
import Derived.Test.YtnieadkafeohlaaGreatDoorNat
import Derived.Test.YtnieadkafeohlaaGreatDoorRec
import Derived.Test.YtnieadkafeohlaaGreatDoorRows
import Derived.Test.YtnieadkafeohlaaGreatDoorGoxLaw
import Derived.KernelRfl
set_option maxRecDepth 100000
namespace Go.Proofs.YtnieadkafeohlaaGreatDoor
open Go Go.Proofs

def gl : List (Nat × List Lit) := [(1, X.litsOf Rows.laid_godown_request_names), (2, X.litsOf Rows.laid_godown_hash_first), (3, X.litsOf Rows.laid_godown_hash_keys)]
/-- The variables, with whatever named numbers. -/
def ng (sig : Nat → Int) (fx : X.Fx) (ok : fx.Ok sig) : X.Glob := X.globOf gl sig fx ok
section
variable (sig : Nat → Int) (fx : X.Fx) (ok : fx.Ok sig)
theorem ng_flat : X.globFlat (ng sig fx ok) := X.globOf_flat (by kernel_rfl)
def dR : X.RecD := ⟨255, 308, 12, 10, 2, 3, 6⟩
noncomputable def T (f : Nat) : Option X.AFn := bif Nat.beq f 199 then X.cRec Tryz.prog (ng sig fx ok) dR f else X.cFn Tryz.prog (ng sig fx ok) f
theorem T_ok : ∀ f a, T sig fx ok f = some a → X.FnOk Tryz.prog (ng sig fx ok) f a := by
  intro f a h
  unfold T at h
  cases hb : Nat.beq f 199 with
  | true => rw [hb] at h; exact .inr ⟨dR, h, Tryz.recG⟩
  | false => rw [hb] at h; exact .inl h
noncomputable def N0 : X.Nat1 := X.natN Tryz.nats
theorem env0 : X.Env (ng sig fx ok) Tryz.prog (T sig fx ok) N0 := X.env_of (T_ok sig fx ok) Tryz.nats_ok
theorem still_run : X.isT (X.runV (T sig fx ok) N0 100000 13 []) = true := by kernel_rfl
noncomputable def N1 : X.Nat1 := X.natC N0 [(13, .bool true)]
theorem env1 : X.Env (ng sig fx ok) Tryz.prog (T sig fx ok) N1 := X.env_const (ng_flat sig fx ok) (env0 sig fx ok) (by
  intro x hx
  simp only [List.mem_cons, List.not_mem_nil, or_false] at hx
  subst hx
  exact ⟨rfl, X.runV_acalls (env0 sig fx ok) (X.isT_ok (still_run sig fx ok))⟩)
theorem glob_ok {l : List (String × DataW Unit)} {W : World} (h : laidMet Tryz.prog l W) (h1 : ("godown/request.names", Rows.laid_godown_request_names) ∈ l) (h2 : ("godown/hash.first", Rows.laid_godown_hash_first) ∈ l) (h3 : ("godown/hash.keys", Rows.laid_godown_hash_keys) ∈ l) :
    ∀ g cs, ng sig fx ok g = some cs → X.V (X.kap0 W sig) W (.sptr cs 0) (.pointer (some ⟨g, 0, none⟩)) := by
  intro g cs hg
  obtain ⟨ls, hm, rfl⟩ := X.varsOf_mem (l := gl) hg
  simp only [gl, List.mem_cons, Prod.mk.injEq, List.not_mem_nil, or_false] at hm
  rcases hm with ⟨rfl, rfl⟩ | ⟨rfl, rfl⟩ | ⟨rfl, rfl⟩
  · exact X.glob_of_laid (name := "godown/request.names") (t := 225) (e := 9) (n := 13) h h1 (by kernel_rfl) (by kernel_rfl) (by kernel_rfl) (by kernel_rfl) (by kernel_rfl) (by kernel_rfl)
  · exact X.glob_of_laid (name := "godown/hash.first") (t := 319) (e := 299) (n := 8) h h2 (by kernel_rfl) (by kernel_rfl) (by kernel_rfl) (by kernel_rfl) (by kernel_rfl) (by kernel_rfl)
  · exact X.glob_of_laid (name := "godown/hash.keys") (t := 348) (e := 299) (n := 64) h h3 (by kernel_rfl) (by kernel_rfl) (by kernel_rfl) (by kernel_rfl) (by kernel_rfl) (by kernel_rfl)
end
end Go.Proofs.YtnieadkafeohlaaGreatDoor

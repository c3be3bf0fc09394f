/- A closed call that hands back plain values, proved once, serves as a native wherever it is called. -/
import Derived.Test.YtnieadkafeohlaaGreatDoorGoxRow
set_option linter.unusedVariables false
set_option linter.unusedSimpArgs false
namespace Go.X
noncomputable section
open Go.RowKit

/-- A value that leads nowhere. -/
def AV.flat : AV → Bool
  | .int _ _ | .bool _ | .str _ | .f64 _ => true
  | _ => false

theorem V.of_flat {κ κ' : Kap} {w w' : World} {x : AV} {v : Value} (hf : x.flat = true) (h : V κ w x v) : V κ' w' x v := by
  cases h <;> first | (simp [AV.flat] at hf; done) | constructor

def globFlat (ng : Glob) : Prop := ∀ g cs, ng g = some cs → cs.all AV.flat = true

theorem V.sptr_inv {κ : Kap} {w : World} {cs : List AV} {off : Nat} {u : Value} (h : V κ w (.sptr cs off) u) : ∃ (b base : Nat) (vs : List Value), u = .pointer (some ⟨b, base + off, none⟩) ∧ κ.ret b ∧ cs.length = vs.length ∧
    (∀ (i : Nat) (v : Value), vs[i]? = some v → w.cell? ⟨b, base + i, none⟩ = some v) ∧ (∀ (i : Nat) (c : AV) (v : Value), cs[i]? = some c → vs[i]? = some v → V κ w c v) ∧ ∀ c ∈ cs, c.one = true := by
  cases h with
  | sptr cs off b base vs hr hl hc hv ho => exact ⟨b, base, vs, rfl, hr, hl, hc, hv, ho⟩

theorem glob0 {ng : Glob} (hf : globFlat ng) {κ : Kap} {m : Mem} {w : World} (hw : RelW ng κ m w) : ∀ g cs, ng g = some cs → V (kap0 w ng.sig) w (.sptr cs 0) (.pointer (some ⟨g, 0, none⟩)) := by
  intro g cs hg
  have h := hw.glob g cs hg
  have hfl := hf g cs hg
  obtain ⟨b, base, vs, he, hr, hl, hc, hv, ho⟩ := h.sptr_inv
  simp only [Nat.add_zero, Value.pointer.injEq, Option.some.injEq, Addr.mk.injEq, and_true] at he
  obtain ⟨rfl, rfl⟩ := he
  have := V.sptr (κ := kap0 w ng.sig) (w := w) cs 0 g 0 vs (hw.retb g hr) hl (fun i v hi => hc i v hi) (fun i c v hci hvi => (hv i c v hci hvi).of_flat (List.all_eq_true.1 hfl c (List.mem_of_getElem? hci))) ho
  simpa using this

section
variable {ng : Glob} {P : Program}

/-- A closed function's contract. -/
theorem const_acalls (hf : globFlat ng) {f : FuncId} {v : AV} (hv : v.flat = true) (h : ACalls ng P (· ∈ []) f [] em0.mem fun r _ => r = .ret v) (m : Mem) (B : Nat → Prop) (Q : ARet → Mem → Prop) (hq : Q (.ret v) m) :
    ACalls ng P B f [] m Q := by
  refine ⟨h.1, fun κ w vs hw hvs hB => ?_⟩
  obtain rfl := hvs.inv_nil
  refine (h.2 (kap0 w ng.sig) w [] (rel0 (glob0 hf hw)) VL.nil (fun o ho => by simp at ho)).mono ?_
  intro e w' he
  cases e with
  | returned u =>
    obtain ⟨κ', m', av, ev, hw', hvv, _, hr⟩ := he
    simp only [ARet.ret.injEq] at hr; subst hr
    obtain ⟨e2, hw2⟩ := hw.below ev.below
    exact ⟨κ, m, _, e2, hw2, hvv.of_flat hv, fun _ _ => rfl, hq⟩
  | panicked c =>
    obtain ⟨κ', m', ev, hw, _, hq⟩ := he
    cases hq
  | outgrown => exact he.elim

/-- The natives with closed functions beside. -/
def constOf : List (Nat × AV) → Nat → Option AV
  | [], _ => none
  | (f, v) :: l, i => bif Nat.beq f i then some v else constOf l i

def natC (N : Nat1) (tab : List (Nat × AV)) : Nat1 := fun f args m => match constOf tab f with
  | some v => (match args with
    | [] => some (v, m)
    | _ => none)
  | none => N f args m

theorem constOf_mem {tab : List (Nat × AV)} {f : Nat} {e : AV} (h : constOf tab f = some e) : (f, e) ∈ tab := by
  induction tab with
  | nil => simp [constOf] at h
  | cons x l ih =>
    obtain ⟨f', e'⟩ := x
    simp only [constOf] at h
    cases hb : Nat.beq f' f with
    | true =>
      rw [hb] at h; simp at h; subst h
      rw [Nat.eq_of_beq_eq_true hb]; simp
    | false => rw [hb] at h; exact List.mem_cons_of_mem _ (ih h)

theorem env_const {T : Nat → Option AFn} {N : Nat1} (hf : globFlat ng) (hE : Env ng P T N) {tab : List (Nat × AV)} (ht : ∀ x ∈ tab, x.2.flat = true ∧ ACalls ng P (· ∈ []) x.1 [] em0.mem fun r _ => r = .ret x.2) : Env ng P T (natC N tab) := by
  refine ⟨hE.fn, fun f args m v m' h B Q hq => ?_⟩
  unfold natC at h
  split at h
  · rename_i e he
    obtain ⟨h1, h2⟩ := ht _ (constOf_mem he)
    split at h
    · simp only [Option.some.injEq, Prod.mk.injEq] at h; obtain ⟨rfl, rfl⟩ := h
      exact const_acalls hf h1 h2 m.mem B Q hq
    · simp at h
  · exact hE.nat f args m v m' h B Q hq

/-- What a run says, the memory behind it left out. -/
def runV (T : Nat → Option AFn) (N : Nat1) (k f : Nat) (args : List AV) : Option AV := match callX T N (execX T N k) [] f args em0 with
  | some (.ret v, _) => some v
  | _ => none

theorem runV_acalls {T : Nat → Option AFn} {N : Nat1} (hE : Env ng P T N) {k f : Nat} {args : List AV} {v : AV} (h : runV T N k f args = some v) : ACalls ng P (· ∈ []) f args em0.mem fun r _ => r = .ret v := by
  unfold runV at h
  split at h
  · rename_i u m' hr
    simp at h; subst h
    exact callX_ok hE (execX_ok hE k) hr rfl
  · simp at h
end

end
end Go.X

/- From the abstract machine's word on a law to its row: the start, the frame. -/
import Derived.Test.YtnieadkafeohlaaGreatDoorGoxNat2
import Derived.ProofKit
import Derived.Carry
import Derived.OpenShut
set_option linter.unusedVariables false
set_option linter.unusedSimpArgs false
namespace Go.X
noncomputable section
open Go.RowKit Go.ChangeShapes Go.WideShapes

/-- At the start nothing is owned: all that lies is never written. -/
def kap0 (W : World) (sig : Nat → Int) : Kap := ⟨fun _ => none, fun b => b < W.heap.size, sig⟩
def em0 : EM := ⟨.leaf, 0⟩

theorem em0_none (o : Nat) : em0.mem o = none := by
  show Tr.get .leaf o = none
  rfl

theorem rel0 {ng : Glob} {W : World} (hg : ∀ g cs, ng g = some cs → V (kap0 W ng.sig) W (.sptr cs 0) (.pointer (some ⟨g, 0, none⟩))) : RelW ng (kap0 W ng.sig) em0.mem W where
  glob := hg
  obj o x h := by rw [em0_none] at h; simp at h
  inj o o' x x' b base base' h := by rw [em0_none] at h; simp at h
  bound o b base h := by simp [kap0] at h
  retb b h := h
  fresh o h := rfl
  sig := rfl

section
variable {P : Program}

theorem Evo.below {W W' : World} {κ' : Kap} {sig : Nat → Int} (h : Evo (kap0 W sig) W κ' W') : Below W.heap.size W W' :=
  ⟨h.os, h.tape, h.output, h.hs, fun k hk => h.same k hk⟩

/-- What the abstract machine says of a law's call. -/
theorem calls_of_acalls {ng : Glob} {f : FuncId} {W : World} {avs : List AV} {args : Array Value} (hrel : RelW ng (kap0 W ng.sig) em0.mem W) (hv : VL (kap0 W ng.sig) W avs args.toList)
    (h : ACalls ng P (· ∈ []) f avs em0.mem fun r _ => r = .ret (.bool true)) : Calls P f args W fun e W' => e = .returned (.bool true) ∧ Below W.heap.size W W' := by
  have := h.2 (kap0 W ng.sig) W args.toList hrel hv (fun o ho => by simp at ho)
  simp only [Array.toArray_toList] at this
  refine this.mono ?_
  intro e W' he
  cases e with
  | returned v =>
    obtain ⟨κ', m', av, ev, hw, hvv, _, hq⟩ := he
    simp only [ARet.ret.injEq] at hq; subst hq
    rw [hvv.bool_inv]
    exact ⟨rfl, ev.below⟩
  | panicked c =>
    obtain ⟨κ', m', ev, hw, _, hq⟩ := he
    cases hq
  | outgrown => exact he.elim

theorem TrodAll.stays {H : Type} {enc : TypeId × Value → H} {W W' : World} (hl : laidOutB P = true) (hb : Below W.heap.size W W') : ∀ {ts : List TypeId} {vs : List Value} {ds : List (DataW H)} {ps : List MemPlace},
    (∀ t ∈ ts, P.readableRec t = true ∧ t < P.types.size) → DataW.TrodAll enc P W 0 (fun _ => true) true ts vs ds ps → (∀ x ∈ ps, x.block < W.heap.size) → DataW.TrodAll enc P W' 0 (fun b => decide (b < W.heap.size)) true ts vs ds ps
  | [], [], [], ps, _, h, _ => h
  | t :: ts, v :: vs, d :: ds, ps, ht, h, hp => by
    obtain ⟨p, q, h1, h2, rfl⟩ := h
    exact ⟨p, q, Below.trod hl (ht t (by simp)).1 (ht t (by simp)).2 h1 hb (fun x hx => hp x (by simp [hx])), TrodAll.stays hl hb (fun t' h' => ht t' (by simp [h'])) h2 (fun x hx => hp x (by simp [hx])), rfl⟩
  | [], _ :: _, _, _, _, h, _ => h.elim
  | [], [], _ :: _, _, _, h, _ => h.elim
  | _ :: _, [], _, _, _, h, _ => h.elim
  | _ :: _, _ :: _, [], _, _, h, _ => h.elim

theorem Below.keptBut {B : Nat} {W W' : World} (hB : W.heap.size ≤ B) (hb : Below B W W') (may : MemPlace → Prop) : W.keptBut W' may := by
  refine ⟨hb.os, hb.output, fun i hi => ?_⟩
  rw [hb.block i (by omega)]
  cases hx : W.heap[i]? with
  | none => rfl
  | some o => cases o <;> simp

/-- A law's frame: true comes back; what lay is as it lay. -/
theorem law_post {H : Type} {enc : TypeId × Value → H} {f : Func} {s : ChangeSpec} {apart : Bool} {W W' : World} {args : Array Value} {ds gs : List (DataW H)} {before : List MemPlace} {bt : TypeId}
    (hl : laidOutB P = true) (hr : ∀ t ∈ f.params.toList, P.readableRec t = true ∧ t < P.types.size) (hvars : s.vars = []) (hrt : f.resultTypes = #[bt]) (hbt : P.underlying bt = some .bool)
    (hs : s.fn H (ds ++ []) = { results := [.lit (.bool true)], args := ds, vars := [] })
    (hW : DataW.Whole enc P f.params.toList s.vars apart W args.toList ds gs before) (hb : Below W.heap.size W W') :
    s.post enc P f apart true false false W args (.bool true) W' := by
  have hlt := hW.lt
  have hW' := hW
  obtain ⟨p, q, hA, hV, rfl, hfz, hnd⟩ := hW
  rw [hvars] at hV
  obtain ⟨rfl, rfl⟩ := trodVars_none hV
  refine ⟨ds, [], p ++ [], [], p, [], hW', ?_, ?_, ?_, Below.keptBut (Nat.le_refl _) hb _, fun h => by cases h⟩
  · rw [hs, hrt]
    exact trodAll_mk1 (shut_bool hbt true)
  · rw [hs]
    exact TrodAll.stays hl hb hr hA (fun x hx => hlt x (by simp [hx]))
  · rw [hs, hvars]; rfl
end

end
end Go.X

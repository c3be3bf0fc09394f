/- The remaining small operations; what one operation does, as the model runs it. -/
import Derived.Test.YtnieadkafeohlaaGreatDoorGoxComp
set_option linter.unusedVariables false
set_option linter.unusedSimpArgs false
namespace Go.X
section
variable {ng : Glob} {P : Program} {B : Nat → Prop} {κ : Kap} {m : Mem} {w : World}

theorem run_typeInfo' {t : TypeId} {i : TypeInfo} (hi : P.info? t = some i) : (typeInfo t).run P w = .ok i w := by
  simp [typeInfo, hi]

theorem run_zeroOf {t : TypeId} {zero : List AV} (h : zeroOf P t = some zero) :
    ∃ i z, P.info? t = some i ∧ i.zero = some z ∧ z.cells.size = i.size ∧ (∀ w, (zeroValue t).run P w = .ok z w) ∧ (∀ κ w, VL κ w zero z.cells.toList) ∧ ∀ x ∈ zero, x.one = true := by
  unfold zeroOf at h
  split at h
  · rename_i i hi
    split at h
    · rename_i z hz
      split at h
      · rename_i hs
        refine ⟨i, z, hi, hz, hs, fun w => ?_, fun κ w => (cVals_sound h).1, (cVals_sound (κ := ⟨fun _ => none, fun _ => False, fun _ => 0⟩) (w := default) h).2⟩
        simp only [zeroValue, Sem.run_bind, run_typeInfo' hi, Result.andThen_ok, hz, Sem.run_pure]
      · simp at h
    · simp at h
  · simp at h

theorem run_zero1 {t : TypeId} {x : AV} (h : zero1 P t = some x) : ∃ z, (∀ w, (zeroValue t).run P w = .ok z w) ∧ ∀ κ w, V κ w x z := by
  unfold zero1 at h
  split at h
  · rename_i i hi
    split at h
    · rename_i z hz
      refine ⟨z, fun w => ?_, fun κ w => cVal_sound h⟩
      simp only [zeroValue, Sem.run_bind, run_typeInfo' hi, Result.andThen_ok, hz, Sem.run_pure]
    · simp at h
  · simp at h

theorem szOf_some {t : TypeId} {sz : Nat} (h : szOf P t = some sz) : ∃ i, P.info? t = some i ∧ i.size = sz := by
  unfold szOf at h
  cases hi : P.info? t with
  | none => rw [hi] at h; simp at h
  | some i => rw [hi] at h; simp at h; exact ⟨i, rfl, h⟩

theorem keyK_some {t : TypeId} {ik : Option IntKind} (h : keyK P t = some ik) : ∃ d, P.underlying t = some d ∧ keyD ik d = true := by
  unfold keyK at h
  split at h
  · simp at h; subst h; exact ⟨_, ‹_›, rfl⟩
  · simp at h; subst h; exact ⟨_, ‹_›, by simp [keyD]⟩
  · simp at h

theorem opds_sound {n : Nat} {fr : Fr} {a : Act} (hw : RelW ng κ m w) (hf : RelF n κ w fr a) : ∀ {xs : List Operand} {ys : List Opd}, cOpds ng n xs = some ys → VL κ w (ys.map (·.ev fr)) (xs.map a.eval)
  | [], ys, h => by simp [cOpds] at h; subst h; exact VL.nil
  | x :: xs, ys, h => by
    unfold cOpds at h
    split at h
    · rename_i y ys' h1 h2
      simp at h; subst h
      exact VL.cons (opd_sound h1 hw hf) (opds_sound hw hf h2)
    · simp at h

theorem opt_sound {n : Nat} {fr : Fr} {a : Act} (hw : RelW ng κ m w) (hf : RelF n κ w fr a) {x : Option Operand} {y : Option Opd} (h : cOpt ng n x = some y) : VO κ w (y.map (·.ev fr)) (x.map a.eval) := by
  cases x with
  | none => simp [cOpt] at h; subst h; trivial
  | some x =>
    simp only [cOpt] at h
    cases h1 : cOpd ng n x with
    | none => rw [h1] at h; simp at h
    | some z => rw [h1] at h; simp at h; subst h; exact opd_sound h1 hw hf

theorem pick_sound (hw : RelW ng κ m w) {c x y : AV} {vc v u : Value} (hc : V κ w c vc) (hv : V κ w x v) (hu : V κ w y u) {K : AV → Mem → Prop} (h : sPick c x y fun z => K z m) :
    DoesV ng P B κ m w (do pure (if ← asBool vc then v else u)) K := by
  unfold sPick at h
  split at h
  · rename_i t
    have := hc.bool_inv; subst this
    cases t
    · exact DoesV.here hw (v := u) (by simp [asBool]) hu (h.2 rfl)
    · exact DoesV.here hw (v := v) (by simp [asBool]) hv (h.1 rfl)
  · exact h.elim

theorem range_sound (hw : RelW ng κ m w) (hB : Has m B) {t a b : TypeId} (hd : P.underlying t = some (.map a b)) {x : AV} {v : Value} (hv : V κ w x v) {K : AV → Mem → Prop} (h : sRange m x K) : DoesV ng P B κ m w (Instr.range t v) K := by
  unfold sRange at h
  split at h
  · have := hv.val_inv; subst this
    obtain ⟨o, κ', ⟨h1, rfl⟩, _, h2, h3, h4⟩ := hw.new (.mapIter none 0 #[] 0) .iter0 (fun κ' e => ⟨rfl, 0, #[], 0, heap_push_eq _ _⟩)
    refine ⟨.pointer (some ⟨w.heap.size, 0, none⟩), w.alloc (.mapIter none 0 #[] 0), κ', _, _, ?_, h2, h3, V.ptr0 h4, h, agree_set hB h1 _⟩
    simp only [Instr.range, Sem.run_bind, run_underlying' hd, Result.andThen_ok, run_newObj_alloc, Sem.run_pure]
  · rename_i o
    split at h
    · rename_i ik es clk hm
      obtain ⟨b, base, ents, rfl, hr, hb, _, _, _, _, rfl, _⟩ := hw.map_at hv hm
      obtain ⟨i, κ', ⟨h1, rfl⟩, _, h2, h3, h4⟩ := hw.new (.mapIter (some b) clk #[] clk) (.iter o clk [] clk) (fun κ' e => ⟨rfl, b, 0, e.rho _ _ hr, heap_push_eq _ _⟩)
      refine ⟨.pointer (some ⟨w.heap.size, 0, none⟩), w.alloc (.mapIter (some b) clk #[] clk), κ', _, _, ?_, h2, h3, V.ptr0 h4, h, agree_set hB h1 _⟩
      have hg := run_getObj (P := P) hb (by intro c e f; simp)
      simp only [Instr.range, Sem.run_bind, run_underlying' hd, Result.andThen_ok, hg, run_newObj_alloc, Sem.run_pure]
    · exact h.elim
  · exact h.elim

theorem map_parts {a : Act} (parts : Array (Nat × Operand)) : (parts.map fun (j, x) => (j, a.eval x)).toList = parts.toList.map fun (j, x) => (j, a.eval x) := by
  simp

theorem build_struct_sound (hw : RelW ng κ m w) {n : Nat} {fr : Fr} {a : Act} (hf : RelF n κ w fr a) {t : TypeId} {fs : Array Field} (hd : P.underlying t = some (.struct fs)) {zero : List AV} (hz : zeroOf P t = some zero)
    {places : List (Nat × Nat)} (hp : fs.toList.mapM (fun f => (P.info? f.type).map fun i => (f.offset, i.size)) = some places) {parts : Array (Nat × Operand)} {ps : List (Nat × Nat × Opd)}
    (hps : partsAt (places.toArray[·]?) ng n parts.toList = some ps) {K : AV → Mem → Prop} (h : sBuild fr zero ps fun cs => K (.agg cs) m) : DoesV ng P B κ m w (Instr.build t (parts.map fun (j, x) => (j, a.eval x))) K := by
  obtain ⟨i, z, hi, hz0, hzs, hzr, hzv, hzo⟩ := run_zeroOf hz
  obtain ⟨cs, vs, h1, h2, h3, h4⟩ := fill_sound hw hf hps (hzv κ w) hzo h
  refine DoesV.here hw (v := .agg vs.toArray) (run_build w t _ _ ?_) (.agg cs vs h2.1 h2.2) h4
  rw [map_parts]
  simp only [Program.built, hi, hd, hz0, hp]
  simpa using h1

theorem build_array_sound (hw : RelW ng κ m w) {n : Nat} {fr : Fr} {a : Act} (hf : RelF n κ w fr a) {t e : TypeId} {len : Nat} (hd : P.underlying t = some (.array len e)) {zero : List AV} (hz : zeroOf P t = some zero)
    {sz : Nat} (hp : szOf P e = some sz) {parts : Array (Nat × Operand)} {ps : List (Nat × Nat × Opd)}
    (hps : partsAt (fun i => some (i * sz, sz)) ng n parts.toList = some ps) {K : AV → Mem → Prop} (h : sBuild fr zero ps fun cs => K (.agg cs) m) : DoesV ng P B κ m w (Instr.build t (parts.map fun (j, x) => (j, a.eval x))) K := by
  obtain ⟨i, z, hi, hz0, hzs, hzr, hzv, hzo⟩ := run_zeroOf hz
  obtain ⟨ie, hie, rfl⟩ := szOf_some hp
  obtain ⟨cs, vs, h1, h2, h3, h4⟩ := fill_sound hw hf hps (hzv κ w) hzo h
  refine DoesV.here hw (v := .agg vs.toArray) (run_build w t _ _ ?_) (.agg cs vs h2.1 h2.2) h4
  rw [map_parts]
  simp only [Program.built, hi, hd, hz0, hie]
  simpa using h1

end
end Go.X

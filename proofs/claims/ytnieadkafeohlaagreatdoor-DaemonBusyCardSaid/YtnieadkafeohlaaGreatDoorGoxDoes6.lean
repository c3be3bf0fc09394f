/- The operations that make or write memory. -/
import Derived.Test.YtnieadkafeohlaaGreatDoorGoxDoes5
import Derived.Laws.IdiomCopy
import Derived.Laws.CopyRow
set_option linter.unusedVariables false
set_option linter.unusedSimpArgs false
namespace Go.X
section
variable {ng : Glob} {P : Program} {B : Nat → Prop} {κ : Kap} {m : Mem} {w : World}

/-- What is protected is there. -/
def Has (m : Mem) (B : Nat → Prop) : Prop := ∀ o, B o → m o ≠ none

theorem Has.set {m : Mem} (h : Has m B) (o : Nat) (x : AObj) : Has (m.set o x) B := fun i hi => by
  simp only [Mem.set]; split
  · simp
  · exact h i hi

theorem agree_set {m : Mem} (h : Has m B) {o : Nat} (ho : m o = none) (x : AObj) : ∀ i, B i → (m.set o x) i = m i := fun i hi => by
  simp only [Mem.set]; rw [if_neg (by rintro rfl; exact h i hi ho)]
theorem agree_write {m : Mem} {o : Nat} (ho : ¬ B o) (x : AObj) : ∀ i, B i → (m.set o x) i = m i := fun i hi => by
  simp only [Mem.set]; rw [if_neg (by rintro rfl; exact ho hi)]

theorem ObjRel.cells_new {cs : List AV} {vs : List Value} (hv : VL κ w cs vs) (ho : ∀ x ∈ cs, x.one = true) {b : Nat} {e : TypeId} {spare : List Value} {fz : Nat × Nat} (hb : w.heap[b]? = some (.cells (vs ++ spare).toArray e fz)) (hf : fz.1 = fz.2 ∨ (vs ++ spare).length ≤ fz.1) :
    ObjRel κ w (.cells cs) b 0 := by
  refine ⟨_, e, fz, hb, by simpa using hf, by simp [hv.1], vs, hv, fun i v hi => ?_, ho⟩
  have hlt := (List.getElem?_eq_some_iff.1 hi).1
  simp only [Nat.zero_add, List.getElem?_toArray]
  rw [List.getElem?_append_left hlt]; exact hi

/-- A new object in a new block. -/
theorem RelW.new (hw : RelW ng κ m w) (O : Obj) (x : AObj) (hx : ∀ κ', Evo κ w κ' (w.alloc O) → ObjRel κ' (w.alloc O) x w.heap.size 0) :
    ∃ o κ', (m o = none ∧ o = m.nx) ∧ κ.ρ o = none ∧ Evo κ w κ' (w.alloc O) ∧ RelW ng κ' (m.new x) (w.alloc O) ∧ κ'.ρ o = some (w.heap.size, 0) := by
  obtain ⟨N, hNx⟩ : ∃ N, N = m.nx := ⟨_, rfl⟩
  have ho : κ.ρ N = none := hw.fresh N (by omega)
  have e1 := hw.evo_alloc O
  have h1 := hw.alloc O
  have hb : w.heap.size < (w.alloc O).heap.size := by rw [heap_push_size]; omega
  have h2 := h1.put_none (b := w.heap.size) (base := 0) ho hb hNx
  have e2 := e1.put ho w.heap.size 0
  have hr : (κ.put N w.heap.size 0).ρ N = some (w.heap.size, 0) := by simp [Kap.put]
  refine ⟨N, κ.put N w.heap.size 0, ⟨hw.none_of ho, hNx⟩, ho, e2, ?_, hr⟩
  subst hNx
  refine h2.own (m := m.bump) (o := m.nx) (hw.none_of ho) hr (hx _ e2) ?_ ?_
  · intro hret; exact absurd (hw.retb _ hret) (by omega)
  · intro i y base' hi hri
    obtain ⟨b1, base1, hr1, _, _⟩ := hw.obj i y hi
    have hne : i ≠ m.nx := by rintro rfl; rw [ho] at hr1; simp at hr1
    simp only [Kap.put, if_neg hne] at hri
    have := hw.bound i _ _ hri; omega

/-- A new block that is never written again. -/
theorem RelW.newRet (hw : RelW ng κ m w) (O : Obj) : Evo κ w (κ.retire w.heap.size) (w.alloc O) ∧ RelW ng (κ.retire w.heap.size) m (w.alloc O) := by
  refine ⟨(hw.evo_alloc O).retire _, (hw.alloc O).retire (by rw [heap_push_size]; omega) ?_⟩
  intro i y base' hi hri
  have := hw.bound i _ _ hri; omega

theorem run_newRow (e : TypeId) (cs : Array Value) : (newRow e cs).run P w = .ok ⟨w.heap.size, 0, none⟩ (w.alloc (.cells cs e)) := by
  simp [newRow]

theorem V.ptr0 {o b : Nat} (h : κ.ρ o = some (b, 0)) : V κ w (.ptr o 0) (.pointer (some ⟨b, 0, none⟩)) := by
  have := V.ptr (κ := κ) (w := w) o 0 b 0 h
  simpa using this

theorem alloc_sound (hw : RelW ng κ m w) (hB : Has m B) {t : TypeId} {z : Value} {zero : List AV} (hz : (zeroValue t).run P w = .ok z w) (hv : VL κ w zero z.cells.toList) (ho : ∀ x ∈ zero, x.one = true) {K : AV → Mem → Prop}
    (h : K (.ptr m.nx 0) (m.new (.cells zero))) : DoesV ng P B κ m w (Instr.alloc t true (.tuple #[])) K := by
  obtain ⟨o, κ', ⟨h1, rfl⟩, _, h2, h3, h4⟩ := hw.new (.cells z.cells t) (.cells zero) (fun κ' e => by
    refine ObjRel.cells_new (vs := z.cells.toList) (spare := []) (e := t) (fz := (0, 0)) (hv.mono e) ho ?_ (Or.inl rfl)
    rw [heap_push_eq]; simp)
  refine ⟨.pointer (some ⟨w.heap.size, 0, none⟩), w.alloc (.cells z.cells t), κ', _, _, ?_, h2, h3, V.ptr0 h4, h, agree_set hB h1 _⟩
  simp only [Instr.alloc, Sem.run_bind, hz, Result.andThen_ok, newVar, run_newRow, Sem.run_pure]

theorem VL.storable {x : AV} {v : Value} (hv : V κ w x v) (hs : x.storable = true) : VL κ w x.cells v.cells.toList ∧ ∀ y ∈ x.cells, y.one = true := by
  have h1 : ∀ y ∈ x.cells, y.one = true := by simpa [AV.storable, List.all_eq_true] using hs
  refine ⟨hv.cells ?_, h1⟩
  cases x with
  | agg cs => exact Or.inr ⟨cs, rfl⟩
  | tup vs => simp [AV.cells, AV.one] at h1
  | junk => simp [AV.cells, AV.one] at h1
  | val v => exact Or.inl (h1 _ (by simp [AV.cells]))
  | _ => exact Or.inl rfl

theorem box_sound (hw : RelW ng κ m w) (hB : Has m B) (t : TypeId) {x : AV} {v : Value} (hv : V κ w x v) {K : AV → Mem → Prop}
    (hs : x.storable = true) (h : K (.ptr m.nx 0) (m.new (.cells x.cells))) : DoesV ng P B κ m w (Instr.box t v) K := by
  obtain ⟨hvl, ho⟩ := VL.storable hv hs
  obtain ⟨o, κ', ⟨h1, rfl⟩, _, h2, h3, h4⟩ := hw.new (.cells v.cells t) (.cells x.cells) (fun κ' e => by
    refine ObjRel.cells_new (vs := v.cells.toList) (spare := []) (e := t) (fz := (0, 0)) (hvl.mono e) ho ?_ (Or.inl rfl)
    rw [heap_push_eq]; simp)
  refine ⟨.pointer (some ⟨w.heap.size, 0, none⟩), w.alloc (.cells v.cells t), κ', _, _, ?_, h2, h3, V.ptr0 h4, h, agree_set hB h1 _⟩
  simp only [Instr.box, Sem.run_bind, newVar, run_newRow, Result.andThen_ok, Sem.run_pure]

theorem mkmap_sound (hw : RelW ng κ m w) (hB : Has m B) (t : TypeId) (ik : Option IntKind) {K : AV → Mem → Prop}
    (h : K (.mp m.nx) (m.new (.map ik [] 0))) : DoesV ng P B κ m w (Instr.makeMap t none) K := by
  obtain ⟨o, κ', ⟨h1, rfl⟩, _, h2, h3, h4⟩ := hw.new (.map #[] 0) (.map ik [] 0) (fun κ' e => by
    exact ⟨rfl, #[], heap_push_eq _ _, VL.nil, VL.nil, rfl, fun e he => by simp at he⟩)
  refine ⟨.map (some w.heap.size), w.alloc (.map #[] 0), κ', _, _, ?_, h2, h3, .mp _ _ _ h4, h, agree_set hB h1 _⟩
  simp only [Instr.makeMap, Sem.run_bind, run_newObj, Result.andThen_ok, Sem.run_pure]; rfl

/-- Cells stored one by one. -/
theorem run_storeCells_at {b : Nat} : ∀ (vs : List Value) (w : World) (o i : Nat) {c : Array Value} {e : TypeId} {fz : Nat × Nat}, w.heap[b]? = some (.cells c e fz) → (fz.1 = fz.2 ∨ c.size ≤ fz.1) → o + i + vs.length ≤ c.size → (∀ v ∈ vs, oneCell v = true) →
    ∃ w', (storeCells ⟨b, o, none⟩ vs i).run P w = .ok () w' ∧ (∀ j, j ≠ b → w'.heap[j]? = w.heap[j]?) ∧ w'.heap.size = w.heap.size ∧ w'.tape = w.tape ∧ w'.os = w.os ∧ w'.output = w.output ∧ w'.drawn = w.drawn ∧
      ∃ c', w'.heap[b]? = some (.cells c' e fz) ∧ c'.size = c.size ∧ ∀ j, c'[j]? = if o + i ≤ j ∧ j < o + i + vs.length then vs[j - (o + i)]? else c[j]?
  | [], w, o, i, c, e, fz, hb, hf, hl, h1 => by
    refine ⟨w, rfl, fun _ _ => rfl, rfl, rfl, rfl, rfl, rfl, c, hb, rfl, fun j => ?_⟩
    rw [if_neg (by simp)]
  | v :: vs, w, o, i, c, e, fz, hb, hf, hl, h1 => by
    simp at hl
    have hcell : w.cell? ⟨b, o + i, none⟩ = some c[o + i] := by
      simp only [World.cell?, hb]; simp [Array.getElem?_eq_getElem (show o + i < c.size by omega)]
    have hfz : w.frozen? ⟨b, o + i, none⟩ = false := by
      simp only [World.frozen?, hb]
      rcases hf with hf | hf
      · simp [hf]
      · simp; omega
    have hv1 : v.oneCell' = true := by
      have := h1 v (by simp)
      cases v <;> first | rfl | simp [oneCell] at this
    let w1 := w.setCell ⟨b, o + i, none⟩ v
    have hb1 : w1.heap[b]? = some (.cells (c.setIfInBounds (o + i) v) e fz) := by
      simp [w1, World.setCell, Array.getElem?_modify, hb]
    have hother : ∀ j, j ≠ b → w1.heap[j]? = w.heap[j]? := by
      intro j hj
      simp only [w1, World.setCell, Array.getElem?_modify]
      rw [if_neg (by simpa using fun h => hj h.symm)]
    obtain ⟨w', hr, ho', hs', ht', hos', hou', hdr', c', hb', hcs', hc'⟩ := run_storeCells_at vs w1 o (i + 1) hb1 (by simpa using hf) (by simp; omega) (fun v hv => h1 v (by simp [hv]))
    refine ⟨w', ?_, fun j hj => (ho' j hj).trans (hother j hj), hs'.trans (by simp [w1]), ht'.trans rfl, hos'.trans rfl, hou'.trans rfl, hdr'.trans rfl, c', hb', by simpa using hcs', fun j => ?_⟩
    · simp only [storeCells, Sem.run_bind, add_eq]
      rw [run_store P w _ v _ hv1, hcell]
      simp only [hfz, Bool.false_eq_true, if_false, Result.andThen_ok]
      exact hr
    · rw [hc' j]
      by_cases h2 : o + (i + 1) ≤ j ∧ j < o + (i + 1) + vs.length
      · rw [if_pos h2, if_pos (by simp; omega)]
        rw [show j - (o + i) = (j - (o + (i + 1))) + 1 by omega]; simp
      · rw [if_neg h2]
        by_cases h3 : j = o + i
        · subst h3
          rw [if_pos (by simp)]
          simp [Array.getElem?_setIfInBounds]; omega
        · rw [if_neg (by simp; omega)]
          simp only [Array.getElem?_setIfInBounds]
          rw [if_neg (by omega)]

theorem lay_length {cs xs : List AV} {off : Nat} (h : off + xs.length ≤ cs.length) : (lay cs off xs).length = cs.length := by
  simp [lay]; omega
theorem lay_get {cs xs : List AV} {off : Nat} (h : off + xs.length ≤ cs.length) (j : Nat) : (lay cs off xs)[j]? = if off ≤ j ∧ j < off + xs.length then xs[j - off]? else cs[j]? := by
  unfold lay
  by_cases h1 : j < off
  · rw [if_neg (by omega), List.append_assoc, List.getElem?_append_left (by simp; omega), List.getElem?_take, if_pos h1]
  · by_cases h2 : j < off + xs.length
    · rw [if_pos (by omega), List.append_assoc, List.getElem?_append_right (by simp; omega), List.getElem?_append_left (by simp; omega)]
      congr 1; simp; omega
    · rw [if_neg (by omega), List.getElem?_append_right (by simp; omega), List.getElem?_drop]
      congr 1; simp; omega
def layV (cs : List Value) (off : Nat) (xs : List Value) : List Value := cs.take off ++ xs ++ cs.drop (off + xs.length)
theorem layV_get {cs xs : List Value} {off : Nat} (h : off + xs.length ≤ cs.length) (j : Nat) : (layV cs off xs)[j]? = if off ≤ j ∧ j < off + xs.length then xs[j - off]? else cs[j]? := by
  unfold layV
  by_cases h1 : j < off
  · rw [if_neg (by omega), List.append_assoc, List.getElem?_append_left (by simp; omega), List.getElem?_take, if_pos h1]
  · by_cases h2 : j < off + xs.length
    · rw [if_pos (by omega), List.append_assoc, List.getElem?_append_right (by simp; omega), List.getElem?_append_left (by simp; omega)]
      congr 1; simp; omega
    · rw [if_neg (by omega), List.getElem?_append_right (by simp; omega), List.getElem?_drop]
      congr 1; simp; omega
theorem VL.lay {cs xs : List AV} {vs us : List Value} (h : VL κ w cs vs) (h' : VL κ w xs us) (off : Nat) : VL κ w (X.lay cs off xs) (layV vs off us) := by
  unfold X.lay layV
  rw [← h'.1]
  exact ((h.take off).append h').append (h.drop _)

/-- The cells of an owned object are written. -/
theorem RelW.store (hw : RelW ng κ m w) {o b base : Nat} {cs xs : List AV} {us : List Value} (hr : κ.ρ o = some (b, base)) (hm : m o = some (.cells cs)) (off : Nat) (hl : off + xs.length ≤ cs.length) (hx : VL κ w xs us) (ho : ∀ x ∈ xs, x.one = true) :
    ∃ w', (storeCells ⟨b, base + off, none⟩ us).run P w = .ok () w' ∧ Evo κ w κ w' ∧ RelW ng κ (m.set o (.cells (lay cs off xs))) w' := by
  obtain ⟨b1, base1, hr1, hobj, hn⟩ := hw.obj _ _ hm
  rw [hr] at hr1; simp at hr1; obtain ⟨rfl, rfl⟩ := hr1
  obtain ⟨c, e, fz, hc, hfz, hsz, vs, hvl, hcc, hone⟩ := hobj
  have hvl1 := hvl.1
  have hx1 := hx.1
  have honeV : ∀ v ∈ us, oneCell v = true := by
    intro v hv
    obtain ⟨i, hi, he⟩ := List.getElem_of_mem hv
    have h2 : xs[i]? = some xs[i] := List.getElem?_eq_getElem (by omega)
    exact (hx.2 i _ v h2 (by rw [List.getElem?_eq_getElem hi, he])).oneCell (ho _ (List.getElem_mem _))
  obtain ⟨w', hrun, hother, hs, ht, hos, hou, hdr, c', hc', hcs', hget⟩ := run_storeCells_at (P := P) us w (base + off) 0 hc hfz (by omega) honeV
  obtain ⟨ev, hd⟩ := hw.write hm hr hother (fun c0 e0 f0 h0 => by rw [hc] at h0; simp at h0; obtain ⟨rfl, rfl, rfl⟩ := h0; exact ⟨c', e, fz, hc', hcs'⟩) hs ht hos hou
  refine ⟨w', hrun, ev, ?_⟩
  have h4 : RelW ng κ ((m.del o).set o (.cells (lay cs off xs))) w' := by
    refine hd.own (by simp [Mem.del]) hr ?_ hn (hw.free_of hm hr)
    have hvl2 := ((hvl.mono ev).lay (hx.mono ev) off)
    refine ⟨c', e, fz, hc', by rw [hcs']; exact hfz, by rw [hcs', lay_length hl]; exact hsz, layV vs off us, hvl2, fun i v hi => ?_, fun x hx' => ?_⟩
    · rw [layV_get (by omega)] at hi
      rw [hget]
      split at hi
      · rw [if_pos (by omega)]
        rw [show base + i - (base + off + 0) = i - off by omega]; exact hi
      · rw [if_neg (by omega)]; exact hcc i v hi
    · simp only [X.lay, List.mem_append] at hx'
      rcases hx' with (h | h) | h
      · exact hone x (List.mem_of_mem_take h)
      · exact ho x h
      · exact hone x (List.mem_of_mem_drop h)
  have : (m.del o).set o (.cells (lay cs off xs)) = m.set o (.cells (lay cs off xs)) := by
    refine Mem.ext' (fun i => ?_) rfl; simp only [Mem.set, Mem.del]; split <;> rfl
  rwa [this] at h4

theorem store_sound (hw : RelW ng κ m w) {t : TypeId} {i : TypeInfo} (hi : P.info? t = some i) {x y : AV} {v u : Value} (hv : V κ w x v) (hu : V κ w y u) {K : Mem → Prop} (h : sStore B m i.size x y K) : DoesU ng P B κ m w (Instr.storeAt t v u) K := by
  unfold sStore at h
  split at h
  · rename_i o off
    obtain ⟨hb, h⟩ := h
    split at h
    · rename_i cs hm
      obtain ⟨h1, h2, h3, hk⟩ := h
      cases hv with
      | ptr _ _ b base hr =>
        obtain ⟨hvl, ho⟩ := VL.storable hu h2
        obtain ⟨w', hrun, ev, hw'⟩ := hw.store (P := P) hr hm off (by omega) hvl ho
        refine ⟨w', κ, _, ?_, ev, hw', hk, agree_write hb _⟩
        have hsz : u.cells.size = i.size := by have := hvl.1; simp at this; omega
        simp only [Instr.storeAt, Instr.sureAddr, pure_bind, storeVar, Sem.run_bind, run_sizeOf hi, Result.andThen_ok, hsz, ne_eq, not_true, if_false]
        exact hrun
    · exact h.elim
  · exact h.elim
end
end Go.X

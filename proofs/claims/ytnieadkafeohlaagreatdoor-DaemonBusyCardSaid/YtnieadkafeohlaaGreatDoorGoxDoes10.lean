/- Copies, clearings, conversions that make memory, maps written. -/
import Derived.Test.YtnieadkafeohlaaGreatDoorGoxDoes9
set_option linter.unusedVariables false
set_option linter.unusedSimpArgs false
namespace Go.X
section
variable {ng : Glob} {P : Program} {B : Nat → Prop} {κ : Kap} {m : Mem} {w : World}

theorem run_firstCells_le (hw : RelW ng κ m w) {sz : Nat} {x : AV} {v : Value} (hv : V κ w x v) {n : Nat} {cs : List AV} (h : source m sz x = some (n, cs)) {k : Nat} (hk : k ≤ n) :
    ∃ vs, (Builtin.firstCells sz k v).run P w = .ok vs.toArray w ∧ VL κ w (cs.take (k * sz)) vs ∧ vs.length = k * sz := by
  rcases source_sound hw hv h with ⟨l, rfl, rfl, rfl, rfl, rfl⟩ | ⟨A, cap, vs, rfl, hvl, hl, h0, ha⟩
  · have hb := VL.bytes (κ := κ) (w := w) (l.take k)
    refine ⟨(l.take k).map fun b => Value.int .u8 b.toNat, ?_, by simpa [bytesOf] using hb, by simp; omega⟩
    simp only [Builtin.firstCells, Sem.run_pure]
    congr 1
    apply Array.ext'
    simp [ByteArray.data_extract, List.extract_toArray, List.extract_eq_take_drop]
  · have hks : k * sz ≤ n * sz := Nat.mul_le_mul_right _ hk
    refine ⟨vs.take (k * sz), ?_, hvl.take _, by simp; omega⟩
    cases A with
    | none => obtain ⟨rfl, rfl⟩ := h0 rfl; simp [Builtin.firstCells]
    | some a =>
      obtain ⟨hs, hc⟩ := ha a rfl
      obtain ⟨ab, ao, as⟩ := a
      simp at hs; subst hs
      have e1 : (vs.take (k * sz)).length = k * sz := by simp; omega
      simp only [Builtin.firstCells]
      have := run_loadCells_list (P := P) w ⟨ab, ao, none⟩ (vs.take (k * sz)) (fun j u hu => by
        rw [add_eq]
        rw [List.getElem?_take] at hu
        split at hu
        · exact hc j u hu
        · simp at hu)
      rwa [e1] at this

theorem copy_sound (hw : RelW ng κ m w) {dt st e ty : TypeId} {i : TypeInfo} (hd : P.underlying dt = some (.slice e)) (hi : P.info? e = some i) {x y : AV} {v u : Value} (hv : V κ w x v) (hu : V κ w y u) {K : AV → Mem → Prop}
    (h : sCopy B m i.size x y K) : DoesV ng P B κ m w (Builtin.copy_ #[dt, st] ty #[v, u]) K := by
  unfold sCopy at h
  split at h
  · rename_i k xs o sz' off n hsrc
    obtain ⟨hsz, hBo, h⟩ := h
    subst hsz
    split at h
    · rename_i cs hm
      obtain ⟨hfit, hk⟩ := h
      obtain ⟨_, _, _, hul0, hlen⟩ := run_firstCells (P := P) hw hu hsrc
      obtain ⟨us, hfc, hvl, hul⟩ := run_firstCells_le (P := P) hw hu hsrc (Nat.min_le_left k n)
      have hone := source_one hw hu hsrc
      have hmn : min k n * i.size ≤ n * i.size := Nat.mul_le_mul_right _ (Nat.min_le_right _ _)
      cases hv with
      | osl _ _ _ _ b base off2 cap c el fz hr hc ho hs hn =>
        by_cases hn0 : 0 < n
        · obtain rfl := ho hn0
          obtain ⟨w', hst, ev, hrel⟩ := hw.store (P := P) hr hm off2 (by rw [hvl.1, hul]; omega) hvl (fun q hq => hone q (List.mem_of_mem_take hq))
          refine ⟨.int .i64 (min k n : Nat), w', κ, _, _, ?_, ev, hrel, .int _ _, hk, agree_write hBo _⟩
          simp only [Builtin.copy_, List.getElem?_toArray, List.getElem?_cons_zero, List.getElem?_cons_succ, Sem.run_bind, run_underlying' hd, Result.andThen_ok, hlen, run_sizeOf hi]
          show ((Builtin.firstCells i.size (min k n) u).run P w).andThen _ = _
          simp only [hfc, Result.andThen_ok, Sem.run_bind, hst, Sem.run_pure]
          rfl
        · have hn1 : n = 0 := by omega
          subst hn1
          have hus : us = [] := List.eq_nil_of_length_eq_zero (by simpa using hul)
          have hm0 : min k 0 = 0 := by simp
          refine ⟨.int .i64 (min k 0 : Nat), w, κ, _, _, ?_, Evo.refl _ _, ?_, .int _ _, hk, agree_write hBo _⟩
          · simp only [Builtin.copy_, List.getElem?_toArray, List.getElem?_cons_zero, List.getElem?_cons_succ, Sem.run_bind, run_underlying' hd, Result.andThen_ok, hlen, run_sizeOf hi]
            show ((Builtin.firstCells i.size (min k 0) u).run P w).andThen _ = _
            subst hus
            simp only [hfc, Result.andThen_ok, storeCells, Sem.run_bind, Sem.run_pure]
            rfl
          · have e1 : m.set o (.cells (lay cs off (List.take (min k 0 * i.size) xs))) = m := by
              refine Mem.ext' (fun q => ?_) rfl
              simp only [Mem.set]
              split
              · rename_i hq; subst hq; rw [hm]; simp [lay]
              · rfl
            rw [e1]; exact hw
    · exact h.elim
  · exact h.elim

theorem clear_sound (hw : RelW ng κ m w) {t e ty : TypeId} {i : TypeInfo} {z : Value} {zero : List AV} (hd : P.underlying t = some (.slice e)) (hi : P.info? e = some i) (hz : (zeroValue e).run P w = .ok z w) (hzv : VL κ w zero z.cells.toList) (hzo : ∀ x ∈ zero, x.one = true) (hzs : z.cells.size = i.size)
    {x : AV} {v : Value} (hv : V κ w x v) {K : Mem → Prop} (h : sClear B m i.size zero x K) : DoesV ng P B κ m w (Builtin.clear_ #[t] ty #[v]) (fun _ m' => K m') := by
  have hzc : ∀ n, (Builtin.zeroCells z.cells n).toList = (List.replicate n z.cells.toList).flatten := by
    intro n
    rw [← rep_list]
    simp [Builtin.zeroCells]
  unfold sClear at h
  split at h
  · cases hv
    · exact ⟨.tuple #[], w, κ, m, .junk, by simp [Builtin.clear_, run_underlying' hd], Evo.refl _ _, hw, .junk _, h, fun _ _ => rfl⟩
    · exact ⟨.tuple #[], w, κ, m, .junk, by simp [Builtin.clear_, run_underlying' hd], Evo.refl _ _, hw, .junk _, h, fun _ _ => rfl⟩
  · rename_i o sz' off n
    cases hv with
    | osl _ _ _ _ b base off2 cap c el fz hr hc ho hs hn =>
      by_cases hn0 : n = 0
      · rw [if_pos hn0] at h
        subst hn0
        exact ⟨.tuple #[], w, κ, m, .junk, by simp [Builtin.clear_, run_underlying' hd], Evo.refl _ _, hw, .junk _, h, fun _ _ => rfl⟩
      · rw [if_neg hn0] at h
        obtain ⟨hsz, hBo, h⟩ := h
        subst hsz
        split at h
        · rename_i cs hm
          obtain ⟨hfit, hk⟩ := h
          obtain rfl := ho (by omega)
          have hzl := hzv.1
          simp at hzl
          obtain ⟨w', hst, ev, hrel⟩ := hw.store (P := P) hr hm off2 (by rw [rep_length, hzl, hzs]; omega) (hzv.rep n) (rep_one hzo n)
          refine ⟨.tuple #[], w', κ, _, .junk, ?_, ev, hrel, .junk _, hk, agree_write hBo _⟩
          obtain ⟨n', rfl⟩ : ∃ n', n = n' + 1 := ⟨n - 1, by omega⟩
          simp only [Builtin.clear_, List.getElem?_toArray, List.getElem?_cons_zero, Sem.run_bind, run_underlying' hd, Result.andThen_ok, hz, hzc, hst, Sem.run_pure]
        · exact h.elim
  · exact h.elim

theorem World.freeze_heap {w : World} {b n k : Nat} {c : Array Value} {e : TypeId} {fz : Nat × Nat} (hb : w.heap[b]? = some (.cells c e fz)) (hk : k ≠ 0) :
    (∀ i, i ≠ b → (w.freeze ⟨b, n, none⟩ k).heap[i]? = w.heap[i]?) ∧ (w.freeze ⟨b, n, none⟩ k).heap[b]? = some (.cells c e (if fz.1 == fz.2 then (n, n + k) else (min fz.1 n, max fz.2 (n + k)))) ∧ (w.freeze ⟨b, n, none⟩ k).heap.size = w.heap.size := by
  unfold World.freeze
  rw [if_neg hk]
  refine ⟨fun i hi => ?_, ?_, by simp⟩
  · simp only [Array.getElem?_modify]; rw [if_neg (fun h => hi h.symm)]
  · simp [Array.getElem?_modify, hb]

theorem run_markStringish {b : Nat} {o : Nat} {c : Array Value} {e : TypeId} {fz : Nat × Nat} (hb : w.heap[b]? = some (.cells c e fz)) : (markStringish ⟨b, o, none⟩).run P w = .ok () (w.freeze ⟨b, c.size, none⟩ 1) := by
  have : w.shape? b = some (e, c.size) := by simp [World.shape?, hb]
  simp [markStringish, this]

theorem frozen_ok {c : Array Value} {fz : Nat × Nat} (h : fz.1 = fz.2 ∨ c.size ≤ fz.1) : (if fz.1 == fz.2 then (c.size, c.size + 1) else (min fz.1 c.size, max fz.2 (c.size + 1))).1 = (if fz.1 == fz.2 then (c.size, c.size + 1) else (min fz.1 c.size, max fz.2 (c.size + 1))).2 ∨ c.size ≤ (if fz.1 == fz.2 then (c.size, c.size + 1) else (min fz.1 c.size, max fz.2 (c.size + 1))).1 := by
  by_cases h1 : fz.1 = fz.2
  · simp [h1]
  · have : c.size ≤ fz.1 := h.resolve_left h1
    right
    simp [h1]; omega

theorem mark_sound (hw : RelW ng κ m w) {t e : TypeId} (hd : P.underlying t = some (.slice e)) (he : P.underlying e = some (.int .u8)) {x : AV} {v : Value} (hv : V κ w x v) {K : AV → Mem → Prop}
    (h : sMark m x (fun z => K z m)) : DoesV ng P B κ m w (convert t t v) K := by
  unfold sMark at h
  split at h
  · rename_i o sz off n
    split at h
    case h_2 => exact h.elim
    rename_i cs hm
    have hv0 := hv
    cases hv with
    | osl _ _ _ _ b base off2 cap c el fz hr hc ho hs hn =>
      obtain ⟨b1, base1, hr1, hobj, hnr⟩ := hw.obj _ _ hm
      rw [hr] at hr1; simp at hr1; obtain ⟨rfl, rfl⟩ := hr1
      obtain ⟨c', el', fz', hc', hfz, hszc, vs, hvs, hcc, hone⟩ := hobj
      rw [hc] at hc'; simp at hc'; obtain ⟨rfl, rfl, rfl⟩ := hc'
      obtain ⟨h1, h2, h3⟩ := World.freeze_heap (w := w) (n := c.size) (k := 1) hc (by omega)
      have hfr : ∀ a k, (w.freeze a k).tape = w.tape ∧ (w.freeze a k).os = w.os ∧ (w.freeze a k).output = w.output := by
        intro a k; unfold World.freeze; split <;> exact ⟨rfl, rfl, rfl⟩
      obtain ⟨ev, hd2⟩ := hw.write hm hr h1 (fun c0 e0 f0 h0 => by rw [hc] at h0; simp at h0; obtain ⟨rfl, rfl, rfl⟩ := h0; exact ⟨c, el, _, h2, rfl⟩) h3 (hfr _ _).1 (hfr _ _).2.1 (hfr _ _).2.2
      have hrel : RelW ng κ ((m.del o).set o (.cells cs)) (w.freeze ⟨b, c.size, none⟩ 1) :=
        hd2.own (by simp [Mem.del]) hr ⟨c, el, _, h2, frozen_ok hfz, hszc, vs, hvs.mono ev, hcc, hone⟩ hnr (hw.free_of hm hr)
      have e1 : (m.del o).set o (.cells cs) = m := by
        refine Mem.ext' (fun q => ?_) rfl
        simp only [Mem.set, Mem.del]
        split
        · rename_i hq; subst hq; exact hm.symm
        · rfl
      rw [e1] at hrel
      refine ⟨_, _, κ, m, _, ?_, ev, hrel, hv0.mono ev, h, fun _ _ => rfl⟩
      simp only [convert, Sem.run_bind, run_underlying' hd, Result.andThen_ok, BEq.rfl, run_underlying' he, run_markStringish hc, Sem.run_pure]
  · exact h.elim

theorem cvtSB_sound (hw : RelW ng κ m w) {src dst e : TypeId} (hs : P.underlying src = some .string) (hd : P.underlying dst = some (.slice e)) (he : P.underlying e = some (.int .u8)) {x : AV} {v : Value} (hv : V κ w x v) {K : AV → Mem → Prop}
    (h : sCvtSB x (fun z => K z m)) : DoesV ng P B κ m w (convert src dst v) K := by
  unfold sCvtSB at h
  split at h
  · rename_i l
    obtain ⟨hroom, hk⟩ := h
    cases hv
    have hsz : (⟨l.toArray⟩ : ByteArray).size = l.length := by simp [ByteArray.size]
    let cap := (Question.appendCap l.length 0 e).cut (w.tape w.drawn (.appendCap l.length 0 e))
    have hcap : l.length ≤ cap := by simp only [cap, Question.cut]; omega
    let cells : Array Value := (l.toArray.map fun b => Value.int .u8 b.toNat) ++ Array.replicate (cap - l.length) (.int .u8 0)
    obtain ⟨ed, hwd⟩ := hw.drew
    have hb : (w.drew.alloc (.cells cells e)).heap[w.heap.size]? = some (.cells cells e (0, 0)) := heap_push_eq w.drew _
    obtain ⟨h1, h2, h3⟩ := World.freeze_heap (w := w.drew.alloc (.cells cells e)) (b := w.heap.size) (n := cells.size) (k := 1) hb (by omega)
    let w2 := (w.drew.alloc (.cells cells e)).freeze ⟨w.heap.size, cells.size, none⟩ 1
    have hheap : w2.heap = (w.drew.alloc (.cells cells e (cells.size, cells.size + 1))).heap := by
      apply Array.ext_getElem?
      intro j
      by_cases hj : j = w.heap.size
      · subst hj
        rw [h2]
        have := heap_push_eq w.drew (.cells cells e (cells.size, cells.size + 1))
        rw [show w.drew.heap.size = w.heap.size from rfl] at this
        rw [this]; simp
      · rw [h1 j hj]
        by_cases hlt : j < w.heap.size
        · rw [heap_push_lt w.drew _ hlt, heap_push_lt w.drew _ hlt]
        · have h5 : (w.drew.alloc (.cells cells e)).heap.size = w.heap.size + 1 := heap_push_size w.drew _
          have h6 : (w.drew.alloc (.cells cells e (cells.size, cells.size + 1))).heap.size = w.heap.size + 1 := heap_push_size w.drew _
          rw [Array.getElem?_eq_none (by omega), Array.getElem?_eq_none (by omega)]
    have hfr : ∀ (w : World) a k, (w.freeze a k).tape = w.tape ∧ (w.freeze a k).os = w.os ∧ (w.freeze a k).output = w.output := by
      intro w a k; unfold World.freeze; split <;> exact ⟨rfl, rfl, rfl⟩
    obtain ⟨e2, hw2⟩ := hwd.newRet (.cells cells e (cells.size, cells.size + 1))
    obtain ⟨e3, hw3⟩ := hw2.evo_heap (w' := w2) hheap ((hfr _ _ _).1.trans rfl) ((hfr _ _ _).2.1.trans rfl) ((hfr _ _ _).2.2.trans rfl)
    have hret : (κ.retire w.drew.heap.size).ret w.heap.size := Or.inl rfl
    refine ⟨.slice (some ⟨w.heap.size, 0, none⟩) l.length cap, w2, κ.retire w.drew.heap.size, m, .sl .any l.length (bytesOf l), ?_, (ed.trans e2).trans e3, hw3, ?_, hk, fun _ _ => rfl⟩
    · have hforced : (Question.appendCap l.length 0 e).forced = false := rfl
      simp only [convert, Sem.run_bind, run_underlying' hs, run_underlying' hd, run_underlying' he, Result.andThen_ok, Conv.stringToBytes, run_choose, hsz, hforced, Bool.false_eq_true, if_false]
      have hdr : ({ w with drawn := w.drawn + 1 } : World) = w.drew := rfl
      simp only [hdr, run_newRow, Result.andThen_ok, Sem.run_pure]
      have hm := run_markStringish (P := P) (w := w.drew.alloc (.cells cells e)) (b := w.heap.size) (o := 0) hb
      show ((markStringish ⟨w.heap.size, 0, none⟩).run P (w.drew.alloc (.cells cells e))).andThen _ = _
      rw [hm]
      rfl
    · have hvl := VL.bytes (κ := κ.retire w.drew.heap.size) (w := w2) l
      refine .sl .any _ _ w.heap.size 0 cap _ (by simp) (by simp) hcap hret hvl.1 (fun i v hi => ?_) hvl.2 (fun c hc => by
        simp [bytesOf] at hc; obtain ⟨b, _, rfl⟩ := hc; rfl)
      have hb2 : w2.heap[w.heap.size]? = some (.cells cells e (cells.size, cells.size + 1)) := by rw [hheap]; exact heap_push_eq w.drew _
      simp only [World.cell?, hb2, Option.isSome_none, Bool.false_eq_true, if_false, Nat.zero_add]
      have hlt := (List.getElem?_eq_some_iff.1 hi).1
      simp at hlt
      simp only [cells]
      rw [Array.getElem?_append_left (by simpa using hlt)]
      simpa using hi
  · exact h.elim
end
end Go.X

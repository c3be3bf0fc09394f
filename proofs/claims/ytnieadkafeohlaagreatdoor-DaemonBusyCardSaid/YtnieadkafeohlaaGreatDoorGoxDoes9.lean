/- Append, copy, clear, and what else makes or writes memory. -/
import Derived.Test.YtnieadkafeohlaaGreatDoorGoxDoes8
import Derived.Lib.ConvBytes
set_option linter.unusedVariables false
set_option linter.unusedSimpArgs false
namespace Go.X
section
variable {ng : Glob} {P : Program} {B : Nat → Prop} {κ : Kap} {m : Mem} {w : World}

theorem agree_del_set {m : Mem} (hB : Has m B) {o o' : Nat} (ho : ¬ B o) (ho' : m o' = none) (x : AObj) : ∀ i, B i → ((m.del o).set o' x) i = m i := fun i hi => by
  simp only [Mem.set, Mem.del]
  rw [if_neg (by rintro rfl; exact hB i hi ho'), if_neg (by rintro rfl; exact ho hi)]

theorem none_del {m : Mem} {o i : Nat} (h : m i = none) : (m.del o) i = none := by
  simp only [Mem.del]; split <;> simp [h]

theorem app_sound (hw : RelW ng κ m w) (hB : Has m B) {st xt e ty : TypeId} {i : TypeInfo} {z : Value} (hd : P.underlying st = some (.slice e)) (hx : (∃ e2, P.underlying xt = some (.slice e2)) ∨ P.underlying xt = some .string) (hi : P.info? e = some i) (hz0 : i.zero = some z) (hzs : z.cells.size = i.size)
    (hb1 : 0 < i.bytes) (hb : i.bytes ≤ 1024) {x y : AV} {v u : Value} (hv : V κ w x v) (hu : V κ w y u) {K : AV → Mem → Prop} (h : sApp B m i.size x y K) : DoesV ng P B κ m w (Builtin.append_ #[st, xt] ty #[v, u]) K := by
  unfold sApp at h
  split at h
  · exact h.elim
  · rename_i k xs hsrc
    obtain ⟨us, hfc, hvl, hul, hlen⟩ := run_firstCells (P := P) hw hu hsrc
    have hone := source_one hw hu hsrc
    obtain ⟨ed, hwd⟩ := hw.drew
    split at h
    · -- a slice that is told by its content: nil, or full
      rename_i hh n cs
      obtain ⟨hn, hna, hroom, h⟩ := h
      have hcase : (∃ A, v = .slice A n n ∧ ∃ os, (Builtin.firstCells i.size n v).run P w.drew = .ok os.toArray w.drew ∧ VL κ w.drew cs os ∧ os.length = n * i.size) ∧ ∀ c ∈ cs, c.one = true := by
        have hsx : source m i.size (.sl hh n cs) = some (n, cs) := by simp [source, hn]
        obtain ⟨os, ho1, ho2, ho3, _⟩ := run_firstCells (P := P) hwd (hv.mono ed) hsx
        have h1 := source_one hw hv hsx
        cases hv with
        | nil => exact ⟨⟨none, rfl, os, ho1, ho2, ho3⟩, h1⟩
        | sl _ _ _ b off cap vs hn0 hf hc hr hlen hcc hx hone =>
          have hcap : cap = n := by
            cases hh with
            | nil => exact absurd rfl hn0
            | full => exact hf rfl
            | any => exact absurd rfl hna
          subst hcap
          exact ⟨⟨_, rfl, os, ho1, ho2, ho3⟩, h1⟩
      obtain ⟨⟨A, rfl, os, ho1, ho2, ho3⟩, hcone⟩ := hcase
      by_cases hk : k = 0
      · subst hk
        rw [if_pos rfl] at h
        have hus : us = [] := List.eq_nil_of_length_eq_zero (by simpa using hul)
        subst hus
        refine DoesV.here hw (v := .slice A n n) ?_ hv h
        exact run_append_in hd hx hi hlen hfc (by omega) (by cases A <;> rfl)
      · rw [if_neg hk] at h
        obtain ⟨us', hfc', hvl', hul', hlen'⟩ := run_firstCells (P := P) hwd (hu.mono ed) hsrc
        obtain ⟨cap', spare, hcap, hsp, hrun⟩ := run_append_grow (P := P) (w := w) (ty := ty) hd hx hi hz0 hzs hb1 hb hlen hfc' ho1 (by omega) hroom
        have hvl2 := ho2.append hvl'
        obtain ⟨κ', m', av, e1, e2, e3, e4, e5⟩ := new_row (w := w.drew) hwd hB (spare := spare) hvl2 (fun c hc => by
          rcases List.mem_append.1 hc with h1 | h1
          · exact hcone c h1
          · exact hone c h1) e (sz := i.size) (n := n + k) (cap := cap') hcap (by simp [ho3, hul']; rw [← Nat.add_mul]; exact hsp) h
        exact ⟨_, _, κ', m', av, hrun, ed.trans e1, e2, e3, e4, e5⟩
    · -- an owned row
      rename_i o sz' off n
      obtain ⟨hsz, hBo, hroom, h⟩ := h
      subst hsz
      split at h
      · rename_i cs hm
        obtain ⟨hfit, h⟩ := h
        have hsx : source m i.size (.osl o i.size off n) = some (n, (cs.drop off).take (n * i.size)) := by simp [source, hm, hfit]
        have hcone := source_one hw hv hsx
        obtain ⟨os, ho1, ho2, ho3, _⟩ := run_firstCells (P := P) hwd (hv.mono ed) hsx
        cases hv with
        | osl _ _ _ _ b base off2 cap c el fz hr hc hoo hs hn =>
          by_cases hin : n + k ≤ cap
          · -- in place
            obtain ⟨b1, base1, hr1, hobj, hnret⟩ := hw.obj _ _ hm
            rw [hr] at hr1; simp at hr1; obtain ⟨rfl, rfl⟩ := hr1
            obtain ⟨c', el', fz', hc', hfz, hszc, vs, hvs, hcc, honeo⟩ := hobj
            rw [hc] at hc'; simp at hc'; obtain ⟨rfl, rfl, rfl⟩ := hc'
            have hcapk : (n + k) * i.size ≤ cap * i.size := Nat.mul_le_mul_right _ hin
            have hnk : (n + k) * i.size = n * i.size + k * i.size := Nat.add_mul ..
            have honeV : ∀ v ∈ us, oneCell v = true := by
              intro v hv
              obtain ⟨j, hj, he⟩ := List.getElem_of_mem hv
              have hxl := hvl.1
              have h2 : xs[j]? = some xs[j] := List.getElem?_eq_getElem (by omega)
              exact (hvl.2 j _ v h2 (by rw [List.getElem?_eq_getElem hj, he])).oneCell (hone _ (List.getElem_mem _))
            obtain ⟨w', hst, hother, hs', ht', hos', hou', hdr', c2, hc2, hcs2, hget⟩ := run_storeCells_at (P := P) us w (base + off2 + n * i.size) 0 hc hfz (by omega) honeV
            obtain ⟨ev, hwdel⟩ := hw.write hm hr hother (fun c0 e0 f0 h0 => by rw [hc] at h0; simp at h0; obtain ⟨rfl, rfl, rfl⟩ := h0; exact ⟨c2, el, fz, hc2, hcs2⟩) hs' ht' hos' hou'
            obtain ⟨N, hNx⟩ : ∃ N, N = m.nx := ⟨_, rfl⟩
            have hNn : κ.ρ N = none := hwdel.fresh N (by simp only [Mem.del]; omega)
            have hb2 : b < w'.heap.size := by rw [hs']; exact lt_of_heap hc
            have hput := hwdel.put_none (b := b) (base := base + off2) hNn hb2 hNx
            have evp := ev.put hNn b (base + off2)
            have hρ : (κ.put N b (base + off2)).ρ N = some (b, base + off2) := by simp [Kap.put]
            have hmN : m N = none := hw.none_of hNn
            have hrel : RelW ng (κ.put N b (base + off2)) ((m.del o).bump.set N (.cells ((cs.drop off).take (n * i.size) ++ xs))) w' := by
              refine hput.own (none_del hmN) hρ ?_ hnret ?_
              · have hvsl : VL κ w ((cs.drop off).take (n * i.size)) ((vs.drop off).take (n * i.size)) := (hvs.drop off).take _
                have hvl3 := (hvsl.append hvl).mono evp
                have hl1 : ((vs.drop off).take (n * i.size)).length = n * i.size := by have := hvs.1; simp; omega
                refine ⟨c2, el, fz, hc2, by rw [hcs2]; exact hfz, ?_, _, hvl3, fun j v hj => ?_, fun q hq => ?_⟩
                · rw [hvl3.1, hcs2]; simp [hl1, hul]; omega
                · rw [hget]
                  by_cases hjl : j < n * i.size
                  · rw [List.getElem?_append_left (by omega), List.getElem?_take, if_pos hjl, List.getElem?_drop] at hj
                    have h0n : 0 < n := by
                      rcases Nat.eq_zero_or_pos n with h0 | h0
                      · subst h0; simp at hjl
                      · exact h0
                    have := hoo h0n
                    subst this
                    rw [if_neg (by omega)]
                    have := hcc _ v hj
                    rw [show base + off2 + j = base + (off2 + j) by omega]; exact this
                  · rw [List.getElem?_append_right (by omega), hl1] at hj
                    have hlt := (List.getElem?_eq_some_iff.1 hj).1
                    rw [if_pos (by omega)]
                    rw [show base + off2 + j - (base + off2 + n * i.size + 0) = j - n * i.size by omega]; exact hj
                · rcases List.mem_append.1 hq with h1 | h1
                  · exact hcone q h1
                  · exact hone q h1
              · intro i2 y2 base' hi2 hri2
                have hne : i2 ≠ N := by
                  rintro rfl
                  have h9 : (m.del o) i2 = some y2 := hi2
                  rw [none_del hmN] at h9; simp at h9
                simp only [Kap.put, if_neg hne] at hri2
                exact hw.free_of hm hr i2 y2 base' hi2 hri2
            refine ⟨.slice (some ⟨b, base + off2, none⟩) (n + k) cap, w', κ.put N b (base + off2), (m.del o).bump.set N (.cells ((cs.drop off).take (n * i.size) ++ xs)), .osl N i.size 0 (n + k), ?_, evp, hrel, ?_, (by subst hNx; exact h), agree_del_set hB hBo hmN _⟩
            · refine run_append_in hd hx hi hlen hfc hin ?_
              simp only [add_eq]; exact hst
            · have := V.osl (κ := κ.put N b (base + off2)) (w := w') N i.size 0 (n + k) b (base + off2) 0 cap c2 el fz hρ hc2 (fun _ => rfl) (by omega) hin
              simpa using this
          · -- a new row
            obtain ⟨us', hfc', hvl', hul', hlen'⟩ := run_firstCells (P := P) hwd (hu.mono ed) hsrc
            obtain ⟨cap', spare, hcap, hsp, hrun⟩ := run_append_grow (P := P) (w := w) (ty := ty) hd hx hi hz0 hzs hb1 hb hlen hfc' ho1 (by omega) hroom
            have hvl2 := ho2.append hvl'
            have hdel := hwd.del o
            obtain ⟨o', κ', ⟨h1, rfl⟩, h1ρ, h2, h3, h4⟩ := hdel.new (.cells (os ++ us' ++ spare).toArray e) (.cells ((cs.drop off).take (n * i.size) ++ xs)) (fun κ' ev => by
              exact ObjRel.cells_new (hvl2.mono ev) (fun q hq => by
                rcases List.mem_append.1 hq with h1 | h1
                · exact hcone q h1
                · exact hone q h1) (heap_push_eq _ _) (Or.inl rfl))
            have hmo' : m m.nx = none := hw.none_of h1ρ
            refine ⟨_, _, κ', _, _, hrun, ed.trans h2, h3, V.osl_new h4 (heap_push_eq _ _) ?_ hcap, h, agree_del_set hB hBo hmo' _⟩
            have := Nat.add_mul n k i.size
            simp [ho3, hul']; omega
      · exact h.elim
    · exact h.elim
end
end Go.X

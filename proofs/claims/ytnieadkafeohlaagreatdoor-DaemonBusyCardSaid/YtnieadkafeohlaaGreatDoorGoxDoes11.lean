/- Maps written and walked; slices made with a size. -/
import Derived.Test.YtnieadkafeohlaaGreatDoorGoxDoes10
set_option linter.unusedVariables false
set_option linter.unusedSimpArgs false
namespace Go.X
section
variable {ng : Glob} {P : Program} {B : Nat → Prop} {κ : Kap} {m : Mem} {w : World}

theorem mkslice_sound (hw : RelW ng κ m w) (hB : Has m B) {t e : TypeId} {i : TypeInfo} {z : Value} {zero : List AV} (hd : P.underlying t = some (.slice e)) (hi : P.info? e = some i) (hz : ∀ w, (zeroValue e).run P w = .ok z w) (hzv : VL κ w zero z.cells.toList) (hzo : ∀ x ∈ zero, x.one = true) (hzs : z.cells.size = i.size)
    (hb : i.bytes ≤ 1024) {x y : AV} {v u : Value} (hv : V κ w x v) (hu : V κ w y u) {K : AV → Mem → Prop} (h : sMkslice m i.size zero x y K) : DoesV ng P B κ m w (Instr.makeSlice t v u) K := by
  unfold sMkslice at h
  split at h
  · rename_i k a k' b
    obtain ⟨h0, rfl, hroom, h⟩ := h
    cases hv; cases hu
    unfold room at hroom
    have hwrap : IntKind.i64.wrap a = a := wrap_i64_in ⟨by omega, by omega⟩
    have hbig : ¬ ((i.bytes : Int) * a > 2 ^ 48) := by
      have h1 : (i.bytes : Int) * a ≤ 1024 * 4294967296 := by
        have h2 : i.bytes * a.toNat ≤ 1024 * 4294967296 := Nat.mul_le_mul hb (by omega)
        have h3 : ((i.bytes * a.toNat : Nat) : Int) ≤ ((1024 * 4294967296 : Nat) : Int) := Int.ofNat_le.2 h2
        rw [Int.natCast_mul, Int.toNat_of_nonneg h0] at h3
        simpa using h3
      have : (2 ^ 48 : Int) = 281474976710656 := by decide
      omega
    have hcells : ((Array.range (a.toNat * i.size)).map fun x => z.cells[x % z.cells.size]!) = (List.replicate a.toNat z.cells.toList).flatten.toArray := by
      have := rep_list z.cells.toList a.toNat
      apply Array.ext'
      rw [← this]
      simp [hzs]
    have hlz : (List.replicate a.toNat z.cells.toList).flatten.length = a.toNat * i.size := by
      simp [List.length_flatten, hzs]
    obtain ⟨κ', m', av, e1, e2, e3, e4, e5⟩ := new_row (w := w) hw hB (spare := []) (hzv.rep a.toNat) (rep_one hzo a.toNat) e (sz := i.size) (Nat.le_refl a.toNat) (by rw [hlz]; simp) h
    refine ⟨.slice (some ⟨w.heap.size, 0, none⟩) a.toNat a.toNat, w.alloc (.cells (List.replicate a.toNat z.cells.toList).flatten.toArray e), κ', m', av, ?_, by simpa using e1, by simpa using e2, by simpa using e3, e4, e5⟩
    have hti : (typeInfo e).run P w = .ok i w := by simp [typeInfo, hi]
    simp only [Instr.makeSlice, Sem.run_bind, run_underlying' hd, Result.andThen_ok, asInt, asIntOf, Sem.run_pure, hti, hwrap, run_askRoom, run_sizeOf hi, Int.lt_irrefl, decide_false, Bool.or_false, gt_iff_lt]
    have hneg : ¬ a < 0 := by omega
    simp only [hneg, decide_false, Bool.false_or, Bool.or_false, Sem.run_bind, Sem.run_pure, Result.andThen_ok]
    have hbig' : decide (2 ^ 48 < (i.bytes : Int) * a) = false := by simpa using hbig
    simp only [hbig', Bool.false_eq_true, if_false, Sem.run_bind, Sem.run_pure, Result.andThen_ok, run_askRoom, run_sizeOf hi]
    by_cases hz0 : a.toNat * i.size = 0
    · have hnil : (List.replicate a.toNat z.cells.toList).flatten = [] := List.eq_nil_of_length_eq_zero (by rw [hlz, hz0])
      simp only [hz0, if_true, Sem.run_pure, Result.andThen_ok, hnil]
      simp only [newRow, Sem.run_bind, run_newObj, Result.andThen_ok, Sem.run_pure, World.alloc_eq]
      have he : ∀ f : Nat → Value, Array.map f (Array.range 0) = #[] := fun f => by apply Array.ext'; simp
      rw [he]
    · simp only [hz0, if_false, Sem.run_bind, hz, Sem.run_pure, Result.andThen_ok, hcells]
      simp [newRow]
  · exact h.elim

theorem run_setObj {b : Nat} {O O' : Obj} (h : w.heap[b]? = some O) (hc : ∀ c e f, O ≠ .cells c e f) : (setObj b O').run P w = .ok () { w with heap := w.heap.setIfInBounds b O' } := by
  cases O <;> first | (exact absurd rfl (hc _ _ _)) | simp [setObj, Sem.run, h]

theorem set_heap {b : Nat} {O O' : Obj} (h : w.heap[b]? = some O) : (∀ i, i ≠ b → ({ w with heap := w.heap.setIfInBounds b O' } : World).heap[i]? = w.heap[i]?) ∧ ({ w with heap := w.heap.setIfInBounds b O' } : World).heap[b]? = some O' := by
  have hlt := lt_of_heap h
  refine ⟨fun i hi => ?_, ?_⟩
  · show (w.heap.setIfInBounds b O')[i]? = _
    rw [Array.getElem?_setIfInBounds]; rw [if_neg (fun h => hi h.symm)]
  · show (w.heap.setIfInBounds b O')[b]? = _
    rw [Array.getElem?_setIfInBounds]; simp [hlt]

/-- An object that is no row of cells is written whole. -/
theorem RelW.rewrite (hw : RelW ng κ m w) {o b base : Nat} {x y : AObj} {O O' : Obj} (hm : m o = some x) (hr : κ.ρ o = some (b, base)) (hc : w.heap[b]? = some O) (hnc : ∀ c e f, O ≠ .cells c e f)
    (hy : ∀ w', Evo κ w κ w' → w'.heap[b]? = some O' → ObjRel κ w' y b base) : Evo κ w κ { w with heap := w.heap.setIfInBounds b O' } ∧ RelW ng κ (m.set o y) { w with heap := w.heap.setIfInBounds b O' } := by
  obtain ⟨h1, h2⟩ := set_heap (w := w) (O' := O') hc
  obtain ⟨ev, hd⟩ := hw.write (w' := { w with heap := w.heap.setIfInBounds b O' }) hm hr h1 (fun c e f h => by rw [hc] at h; simp at h; exact absurd h (hnc _ _ _)) (by simp) rfl rfl rfl
  obtain ⟨b1, base1, hr1, _, hn⟩ := hw.obj _ _ hm
  rw [hr] at hr1; simp at hr1; obtain ⟨rfl, rfl⟩ := hr1
  have h3 : RelW ng κ ((m.del o).set o y) { w with heap := w.heap.setIfInBounds b O' } := hd.own (by simp [Mem.del]) hr (hy _ ev h2) hn (hw.free_of hm hr)
  have e1 : (m.del o).set o y = m.set o y := by
    refine Mem.ext' (fun q => ?_) rfl; simp only [Mem.set, Mem.del]; split <;> rfl
  rw [e1] at h3
  exact ⟨ev, h3⟩

theorem sameBits_key {ik : Option IntKind} {k : Key} (hk : k.ok ik = true) {v u : Value} (hv : V κ w (k.av ik) v) (hu : V κ w (k.av ik) u) (n : Nat) : Instr.sameBits n v u = true ∧ v = u := by
  cases k with
  | s l => cases hv; cases hu; constructor
           · cases n <;> simp [Instr.sameBits, beq_bytes]
           · rfl
  | i a =>
    cases ik with
    | none => simp [Key.ok] at hk
    | some q => cases hv; cases hu; constructor
                · cases n <;> simp [Instr.sameBits]
                · rfl

theorem idx_lt {k : Key} : ∀ {es : List (Key × AV × Nat)} {x : AV}, findA k es = some x → idxOfA k es < es.length ∧ (es[idxOfA k es]?.map (·.1)) = some k
  | [], x, h => by simp [findA] at h
  | e :: es, x, h => by
    by_cases hk : k = e.1
    · simp [idxOfA, hk]
    · have := idx_lt (k := k) (es := es) (x := x) (by simpa [findA, hk] using h)
      exact ⟨by simp [idxOfA, hk]; exact this.1, by simpa [idxOfA, hk] using this.2⟩

theorem putA_some {k : Key} {v x : AV} {clk : Nat} : ∀ {es : List (Key × AV × Nat)}, findA k es = some x → putA k v clk es = es.modify (idxOfA k es) fun e => (k, v, e.2.2)
  | [], h => by simp [findA] at h
  | e :: es, h => by
    by_cases hk : k = e.1
    · simp [putA, idxOfA, hk]
    · have := putA_some (k := k) (v := v) (clk := clk) (x := x) (es := es) (by simpa [findA, hk] using h)
      simp [putA, idxOfA, hk, this]
theorem putA_none {k : Key} {v : AV} {clk : Nat} : ∀ {es : List (Key × AV × Nat)}, findA k es = none → putA k v clk es = es ++ [(k, v, clk)]
  | [], h => rfl
  | e :: es, h => by
    by_cases hk : k = e.1
    · simp [findA, hk] at h
    · have := putA_none (k := k) (v := v) (clk := clk) (es := es) (by simpa [findA, hk] using h)
      simp [putA, hk, this]
theorem delA_some {k : Key} {x : AV} : ∀ {es : List (Key × AV × Nat)}, findA k es = some x → delA k es = es.eraseIdx (idxOfA k es)
  | [], h => by simp [findA] at h
  | e :: es, h => by
    by_cases hk : k = e.1
    · simp [delA, idxOfA, hk]
    · have := delA_some (k := k) (x := x) (es := es) (by simpa [findA, hk] using h)
      simp [delA, idxOfA, hk, this]
theorem delA_none {k : Key} : ∀ {es : List (Key × AV × Nat)}, findA k es = none → delA k es = es
  | [], h => rfl
  | e :: es, h => by
    by_cases hk : k = e.1
    · simp [findA, hk] at h
    · have := delA_none (k := k) (es := es) (by simpa [findA, hk] using h)
      simp [delA, hk, this]

theorem VL.modify {cs : List AV} {vs : List Value} (h : VL κ w cs vs) (j : Nat) {x : AV} {v : Value} (hx : V κ w x v) : VL κ w (cs.modify j fun _ => x) (vs.modify j fun _ => v) := by
  refine ⟨by simp [h.1], fun i c u hc hu => ?_⟩
  rw [List.getElem?_modify] at hc hu
  by_cases hij : j = i
  · subst hij
    simp at hc hu
    obtain ⟨c', h1, rfl⟩ := hc
    obtain ⟨u', h2, rfl⟩ := hu
    exact hx
  · simp only [hij, if_false] at hc hu
    simp at hc hu
    exact h.2 i c u hc hu

theorem map_eraseIdx {α β : Type} (f : α → β) (l : List α) (j : Nat) : (l.eraseIdx j).map f = (l.map f).eraseIdx j := by
  simp [List.eraseIdx_eq_take_drop_succ, List.map_take, List.map_drop]

theorem VL.eraseIdx {cs : List AV} {vs : List Value} (h : VL κ w cs vs) (j : Nat) : VL κ w (cs.eraseIdx j) (vs.eraseIdx j) := by
  rw [List.eraseIdx_eq_take_drop_succ, List.eraseIdx_eq_take_drop_succ]
  exact (h.take j).append (h.drop (j + 1))

theorem map_modify_key {es : List (Key × AV × Nat)} {ik : Option IntKind} {j : Nat} {k : Key} {v : AV} : (es.modify j fun e => (k, v, e.2.2)).map (fun e => e.1.av ik) = (es.map fun e => e.1.av ik).modify j fun _ => k.av ik := by
  apply List.ext_getElem?; intro i
  simp only [List.getElem?_map, List.getElem?_modify]
  cases es[i]? <;> simp <;> split <;> rfl
theorem map_modify_val {es : List (Key × AV × Nat)} {j : Nat} {k : Key} {v : AV} : (es.modify j fun e => (k, v, e.2.2)).map (fun e => e.2.1) = (es.map fun e => e.2.1).modify j fun _ => v := by
  apply List.ext_getElem?; intro i
  simp only [List.getElem?_map, List.getElem?_modify]
  cases es[i]? <;> simp <;> split <;> rfl
theorem map_modify_born {es : List (Key × AV × Nat)} {j : Nat} {k : Key} {v : AV} : (es.modify j fun e => (k, v, e.2.2)).map (fun e => e.2.2) = es.map fun e => e.2.2 := by
  apply List.ext_getElem?; intro i
  simp only [List.getElem?_map, List.getElem?_modify]
  cases es[i]? <;> simp <;> split <;> rfl
theorem mapC_modify_key {es : List MapEntry} {j : Nat} {k v : Value} : (es.modify j fun e => { e with key := k, val := v }).map (fun e => e.key) = (es.map fun e => e.key).modify j fun _ => k := by
  apply List.ext_getElem?; intro i
  simp only [List.getElem?_map, List.getElem?_modify]
  cases es[i]? <;> simp <;> split <;> rfl
theorem mapC_modify_val {es : List MapEntry} {j : Nat} {k v : Value} : (es.modify j fun e => { e with key := k, val := v }).map (fun e => e.val) = (es.map fun e => e.val).modify j fun _ => v := by
  apply List.ext_getElem?; intro i
  simp only [List.getElem?_map, List.getElem?_modify]
  cases es[i]? <;> simp <;> split <;> rfl
theorem mapC_modify_born {es : List MapEntry} {j : Nat} {k v : Value} : (es.modify j fun e => { e with key := k, val := v }).map (fun e => e.born) = es.map fun e => e.born := by
  apply List.ext_getElem?; intro i
  simp only [List.getElem?_map, List.getElem?_modify]
  cases es[i]? <;> simp <;> split <;> rfl

theorem mupd_sound (hw : RelW ng κ m w) {t kt et : TypeId} {d : TypeDesc} {ik : Option IntKind} (hd : P.underlying t = some (.map kt et)) (hkt : P.underlying kt = some d) (hkd : keyD ik d = true)
    {x y q : AV} {v u r : Value} (hv : V κ w x v) (hu : V κ w y u) (hr : V κ w q r) {K : Mem → Prop} (h : sMupd B m ik x y q K) : DoesU ng P B κ m w (Instr.mapUpdate t v u r) K := by
  unfold sMupd at h
  split at h
  · exact h.elim
  · rename_i k hk
    obtain ⟨rfl, hko⟩ := keyOf_sound hk
    obtain ⟨hst, h⟩ := h
    split at h
    · rename_i o
      obtain ⟨hBo, h⟩ := h
      split at h
      · rename_i ik' es clk hm
        obtain ⟨rfl, h⟩ := h
        obtain ⟨b, base, ents, rfl, hρ, hc, hks, hvl, hb, hok, hbase, hnret⟩ := hw.map_at hv hm
        obtain ⟨fr, hfn, h1, h2⟩ := findNow_sound hkd hko hu es ents.toList 0 hks hvl hok
        have hf := run_findKey (P := P) (w := w) hkt hfn
        have hck := run_checkKey (P := P) (w := w) hkt hkd 9999 false u
        have hgo := run_getObj (P := P) hc (by simp)
        cases hfa : findA k es with
        | none =>
          rw [hfa] at h; simp only [Option.isSome_none, Bool.false_eq_true, if_false] at h
          have hre := h1 hfa
          subst hre
          let O' : Obj := .map (ents.push { key := u, val := r, born := clk }) (clk + 1)
          obtain ⟨ev, hrel⟩ := hw.rewrite (O' := O') (y := .map ik' (putA k q clk es) (clk + 1)) hm hρ hc (by simp) (fun w' ev hw' => by
            refine ⟨hbase, _, hw', ?_, ?_, ?_, ?_⟩
            · rw [putA_none hfa]
              simp only [List.map_append, List.map_cons, List.map_nil, Array.toList_push]
              exact (hks.mono ev).append (VL.cons (hu.mono ev) VL.nil)
            · rw [putA_none hfa]
              simp only [List.map_append, List.map_cons, List.map_nil, Array.toList_push]
              exact (hvl.mono ev).append (VL.cons (hr.mono ev) VL.nil)
            · rw [putA_none hfa]
              simp [hb]
            · rw [putA_none hfa]
              intro e he
              simp at he
              rcases he with he | rfl
              · exact hok e he
              · exact hko)
          refine ⟨_, κ, _, ?_, ev, hrel, h, agree_write hBo _⟩
          simp only [Instr.mapUpdate, Sem.run_bind, run_underlying' hd, Result.andThen_ok, hgo, hck, hf]
          exact run_setObj hc (by simp)
        | some x0 =>
          rw [hfa] at h; simp only [Option.isSome_some, if_true] at h
          obtain ⟨e0, he0, hre, hxe⟩ := h2 x0 hfa
          subst hre
          simp only [Nat.zero_add] at hf
          obtain ⟨hidx, hkey⟩ := idx_lt hfa
          have hkv : V κ w (k.av ik') e0.key := by
            have h5 : (es.map fun e => e.1.av ik')[idxOfA k es]? = some (k.av ik') := by
              cases he : es[idxOfA k es]? with
              | none => rw [he] at hkey; simp at hkey
              | some e9 => rw [he] at hkey; simp at hkey; simp [List.getElem?_map, he, hkey]
            exact hks.2 _ _ _ h5 (by simp [List.getElem?_map, he0])
          obtain ⟨hsb, hkeq⟩ := sameBits_key hko hkv hu 10000
          let O' : Obj := .map (ents.modify (idxOfA k es) fun e => { e with key := u, val := r }) clk
          have hO : O' = .map ((ents.toList.modify (idxOfA k es) fun e => { e with key := u, val := r }).toArray) clk := by
            simp only [O']; congr 1; apply Array.ext'; simp
          obtain ⟨ev, hrel⟩ := hw.rewrite (O' := O') (y := .map ik' (putA k q clk es) clk) hm hρ hc (by simp) (fun w' ev hw' => by
            refine ⟨hbase, _, hw'.trans (by rw [hO]), ?_, ?_, ?_, ?_⟩
            · rw [putA_some hfa, map_modify_key]
              simp only [mapC_modify_key]
              exact (hks.mono ev).modify _ (hu.mono ev)
            · rw [putA_some hfa, map_modify_val]
              simp only [mapC_modify_val]
              exact (hvl.mono ev).modify _ (hr.mono ev)
            · rw [putA_some hfa, map_modify_born]
              simp only [mapC_modify_born]
              exact hb
            · rw [putA_some hfa]
              intro e he
              obtain ⟨j, hj, hje⟩ := List.getElem_of_mem he
              rw [List.getElem_modify] at hje
              split at hje
              · rw [← hje]; exact hko
              · rw [← hje]; exact hok _ (List.getElem_mem _))
          refine ⟨_, κ, _, ?_, ev, hrel, h, agree_write hBo _⟩
          have hents : ents[idxOfA k es]? = some e0 := by simpa using he0
          simp only [Instr.mapUpdate, Sem.run_bind, run_underlying' hd, Result.andThen_ok, hgo, hck, hf, hents, Option.map_some, Option.getD_some, Instr.keyThatStays, hsb, if_true, Sem.run_pure]
          exact run_setObj hc (by simp)
      · exact h.elim
    · exact h.elim

theorem del_sound (hw : RelW ng κ m w) {t kt et ty : TypeId} {k2 : TypeId} {d : TypeDesc} {ik : Option IntKind} (hd : P.underlying t = some (.map kt et)) (hkt : P.underlying kt = some d) (hkd : keyD ik d = true)
    {x y : AV} {v u : Value} (hv : V κ w x v) (hu : V κ w y u) {K : Mem → Prop} (h : sDel B m ik x y K) : DoesV ng P B κ m w (Builtin.delete_ #[t, k2] ty #[v, u]) (fun _ m' => K m') := by
  unfold sDel at h
  split at h
  · exact h.elim
  · rename_i k hk
    obtain ⟨rfl, hko⟩ := keyOf_sound hk
    have hck := fun b => run_checkKey (P := P) (w := w) hkt hkd 9999 b u
    split at h
    · cases hv
      refine ⟨.tuple #[], w, κ, m, .junk, ?_, Evo.refl _ _, hw, .junk _, h, fun _ _ => rfl⟩
      simp only [Builtin.delete_, List.getElem?_toArray, List.getElem?_cons_zero, List.getElem?_cons_succ, Sem.run_bind, run_underlying' hd, Result.andThen_ok, hck, Sem.run_pure]
    · rename_i o
      obtain ⟨hBo, h⟩ := h
      split at h
      · rename_i ik' es clk hm
        obtain ⟨rfl, h⟩ := h
        obtain ⟨b, base, ents, rfl, hρ, hc, hks, hvl, hb, hok, hbase, hnret⟩ := hw.map_at hv hm
        obtain ⟨fr, hfn, h1, h2⟩ := findNow_sound hkd hko hu es ents.toList 0 hks hvl hok
        have hf := run_findKey (P := P) (w := w) hkt hfn
        have hgo := run_getObj (P := P) hc (by simp)
        cases hfa : findA k es with
        | none =>
          have hre := h1 hfa
          subst hre
          rw [delA_none hfa] at h
          obtain ⟨ev, hrel⟩ := hw.rewrite (O' := .map ents clk) (y := .map ik' es clk) hm hρ hc (by simp) (fun w' ev hw' => ⟨hbase, ents, hw', hks.mono ev, hvl.mono ev, hb, hok⟩)
          refine ⟨.tuple #[], _, κ, _, .junk, ?_, ev, hrel, .junk _, h, agree_write hBo _⟩
          simp only [Builtin.delete_, List.getElem?_toArray, List.getElem?_cons_zero, List.getElem?_cons_succ, Sem.run_bind, run_underlying' hd, Result.andThen_ok, hgo, hck, hf]
          rw [run_setObj hc (by simp)]; rfl
        | some x0 =>
          obtain ⟨e0, he0, hre, hxe⟩ := h2 x0 hfa
          subst hre
          simp only [Nat.zero_add] at hf
          rw [delA_some hfa] at h
          let O' : Obj := .map (ents.eraseIdxIfInBounds (idxOfA k es)) clk
          have hlt : idxOfA k es < ents.size := by
            have := (List.getElem?_eq_some_iff.1 he0).1
            simpa using this
          have hO : O' = .map (ents.toList.eraseIdx (idxOfA k es)).toArray clk := by
            simp only [O']; congr 1; apply Array.ext'
            simp [Array.eraseIdxIfInBounds, hlt]
          obtain ⟨ev, hrel⟩ := hw.rewrite (O' := O') (y := .map ik' (es.eraseIdx (idxOfA k es)) clk) hm hρ hc (by simp) (fun w' ev hw' => by
            refine ⟨hbase, _, hw'.trans (by rw [hO]), ?_, ?_, ?_, fun e he => hok e (List.mem_of_mem_eraseIdx he)⟩
            · simp only [map_eraseIdx]
              exact (hks.mono ev).eraseIdx _
            · simp only [map_eraseIdx]
              exact (hvl.mono ev).eraseIdx _
            · simp only [map_eraseIdx, hb])
          refine ⟨.tuple #[], _, κ, _, .junk, ?_, ev, hrel, .junk _, h, agree_write hBo _⟩
          simp only [Builtin.delete_, List.getElem?_toArray, List.getElem?_cons_zero, List.getElem?_cons_succ, Sem.run_bind, run_underlying' hd, Result.andThen_ok, hgo, hck, hf]
          rw [run_setObj hc (by simp)]; rfl
      · exact h.elim
    · exact h.elim
end
end Go.X

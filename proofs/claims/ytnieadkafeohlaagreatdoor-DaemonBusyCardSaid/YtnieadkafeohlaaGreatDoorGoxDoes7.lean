/- The operations that make or write memory: structs built, slices made, appended to, copied, cleared. -/
import Derived.Test.YtnieadkafeohlaaGreatDoorGoxDoes6
import Derived.Laws.Tables
set_option linter.unusedVariables false
set_option linter.unusedSimpArgs false
namespace Go.X
section
variable {ng : Glob} {P : Program} {B : Nat → Prop} {κ : Kap} {m : Mem} {w : World}

theorem foldl_lay : ∀ (xs : List Value) (off k : Nat) (cs : Array Value), off + k + xs.length ≤ cs.size → ((xs.zipIdx k).foldl (fun (cs : Array Value) (p : Value × Nat) => cs.setIfInBounds (off + p.2) p.1) cs).toList = layV cs.toList (off + k) xs
  | [], off, k, cs, h => by simp [layV]
  | x :: xs, off, k, cs, h => by
    simp only [List.length_cons] at h
    simp only [List.zipIdx_cons, List.foldl_cons]
    rw [foldl_lay xs off (k + 1) _ (by simp; omega)]
    apply List.ext_getElem?
    intro j
    rw [layV_get (by simp; omega), layV_get (by simp; omega)]
    by_cases h1 : off + (k + 1) ≤ j ∧ j < off + (k + 1) + xs.length
    · rw [if_pos h1, if_pos (by simp; omega), show j - (off + k) = (j - (off + (k + 1))) + 1 by omega]; simp
    · rw [if_neg h1]
      by_cases h3 : j = off + k
      · subst h3
        rw [if_pos (by simp)]
        have hlt : off + k < cs.size := by omega
        simp [Array.getElem?_toList, Array.getElem?_setIfInBounds, hlt]
      · rw [if_neg (by simp; omega)]
        simp only [Array.getElem?_toList, Array.getElem?_setIfInBounds]
        rw [if_neg (by omega)]

theorem fill_step (v : Value) (off : Nat) (cs : Array Value) (h : off + v.cells.size ≤ cs.size) :
    (v.cells.zipIdx.foldl (fun cs (p : Value × Nat) => cs.setIfInBounds (off + p.2) p.1) cs) = (layV cs.toList off v.cells.toList).toArray := by
  have h1 := foldl_lay v.cells.toList off 0 cs (by simpa using h)
  rw [Nat.add_zero] at h1
  rw [← h1]
  have h2 : v.cells.zipIdx = (v.cells.toList.zipIdx).toArray := by apply Array.ext'; simp
  rw [h2]
  simp

/-- Concrete parts, by their places. -/
def partsAt (place : Nat → Option (Nat × Nat)) (ng : Glob) (n : Nat) : List (Nat × Operand) → Option (List (Nat × Nat × Opd))
  | [] => some []
  | (i, x) :: rest => match place i, cOpd ng n x, partsAt place ng n rest with
    | some (off, sz), some y, some ys => some ((off, sz, y) :: ys)
    | _, _, _ => none

theorem fill_sound (hw : RelW ng κ m w) {n : Nat} {fr : Fr} {a : Act} (hf : RelF n κ w fr a) {place : Nat → Option (Nat × Nat)} : ∀ {parts : List (Nat × Operand)} {ps : List (Nat × Nat × Opd)} {zero : List AV} {zv : List Value} {K : List AV → Prop},
    partsAt place ng n parts = some ps → VL κ w zero zv → (∀ x ∈ zero, x.one = true) → sBuild fr zero ps K →
    ∃ cs vs, Instr.fill place zv.toArray (parts.map fun (i, x) => (i, a.eval x)) = some vs.toArray ∧ VL κ w cs vs ∧ (∀ x ∈ cs, x.one = true) ∧ K cs
  | [], ps, zero, zv, K, hp, hz, ho, h => by
    simp [partsAt] at hp; subst hp
    exact ⟨zero, zv, rfl, hz, ho, h⟩
  | (i, x) :: rest, ps, zero, zv, K, hp, hz, ho, h => by
    unfold partsAt at hp
    split at hp
    · rename_i off sz y ys h1 h2 h3
      simp at hp; subst hp
      unfold sBuild at h
      obtain ⟨ha, hb, hc, hd⟩ := h
      have hv := opd_sound h2 hw hf
      obtain ⟨hvl, hone⟩ := VL.storable hv hc
      have hlen := hvl.1
      have hzl := hz.1
      simp at hlen
      have hfit : off + (a.eval x).cells.size ≤ zv.length := by omega
      obtain ⟨cs, vs, h4, h5, h6, h7⟩ := fill_sound hw hf (zv := layV zv off (a.eval x).cells.toList) h3 (hz.lay hvl off) (fun z hzm => by
        simp only [X.lay, List.mem_append] at hzm
        rcases hzm with (h | h) | h
        · exact ho z (List.mem_of_mem_take h)
        · exact hone z h
        · exact ho z (List.mem_of_mem_drop h)) hd
      refine ⟨cs, vs, ?_, h5, h6, h7⟩
      simp only [List.map_cons, Instr.fill, h1]
      rw [if_neg (by simp; omega)]
      rw [← h4]
      congr 1
      have := fill_step (a.eval x) off zv.toArray (by simpa using hfit)
      simpa using this
    · simp at hp

theorem rep_list (zero : List Value) (n : Nat) : ((List.range (n * zero.length)).map fun i => zero.toArray[i % zero.toArray.size]!) = (List.replicate n zero).flatten := by
  induction n with
  | zero => simp
  | succ n ih =>
    rw [Nat.succ_mul, List.range_add, List.map_append, ih, List.replicate_succ', List.flatten_append]
    congr 1
    simp only [List.flatten_cons, List.flatten_nil, List.append_nil]
    apply List.ext_getElem?
    intro j
    by_cases hj : j < zero.length
    · simp [List.getElem?_map, List.getElem?_range, hj, Nat.add_mod, Nat.mul_mod_left, Nat.mod_eq_of_lt hj]
    · simp [List.getElem?_map, hj]

theorem VL.rep {zero : List AV} {zv : List Value} (h : VL κ w zero zv) : ∀ n, VL κ w (X.rep n zero) (List.replicate n zv).flatten
  | 0 => VL.nil
  | n + 1 => by
    have := h.append (VL.rep h n)
    simpa [X.rep, List.replicate_succ] using this

theorem rep_one {zero : List AV} (ho : ∀ x ∈ zero, x.one = true) (n : Nat) : ∀ x ∈ X.rep n zero, x.one = true := by
  intro x hx
  simp only [X.rep, List.mem_flatten] at hx
  obtain ⟨l, hl, hxl⟩ := hx
  have := List.eq_of_mem_replicate hl
  subst this; exact ho x hxl
theorem rep_length (zero : List AV) (n : Nat) : (X.rep n zero).length = n * zero.length := by
  simp [X.rep, List.length_flatten]

theorem V.osl_new {o b : Nat} {cells : Array Value} {e : TypeId} {fz : Nat × Nat} (h : κ.ρ o = some (b, 0)) (hb : w.heap[b]? = some (.cells cells e fz)) {sz n cap : Nat} (hc : cap * sz ≤ cells.size) (hn : n ≤ cap) :
    V κ w (.osl o sz 0 n) (.slice (some ⟨b, 0, none⟩) n cap) := by
  have := V.osl (κ := κ) (w := w) o sz 0 n b 0 0 cap cells e fz h hb (fun _ => rfl) (by simpa using hc) hn
  simpa using this

/-- A new row of the call's own. -/
theorem new_row (hw : RelW ng κ m w) (hB : Has m B) {cs : List AV} {vs spare : List Value} (hv : VL κ w cs vs) (ho : ∀ x ∈ cs, x.one = true) (e : TypeId) {sz n cap : Nat} (hn : n ≤ cap) (hc : cap * sz ≤ vs.length + spare.length) {K : AV → Mem → Prop}
    (h : K (.osl m.nx sz 0 n) (m.new (.cells cs))) :
    ∃ κ' m' av, Evo κ w κ' (w.alloc (.cells (vs ++ spare).toArray e)) ∧ RelW ng κ' m' (w.alloc (.cells (vs ++ spare).toArray e)) ∧ V κ' (w.alloc (.cells (vs ++ spare).toArray e)) av (.slice (some ⟨w.heap.size, 0, none⟩) n cap) ∧ K av m' ∧ ∀ o, B o → m' o = m o := by
  obtain ⟨o, κ', ⟨h1, rfl⟩, _, h2, h3, h4⟩ := hw.new (.cells (vs ++ spare).toArray e) (.cells cs) (fun κ' ev => by
    exact ObjRel.cells_new (hv.mono ev) ho (heap_push_eq _ _) (Or.inl rfl))
  exact ⟨κ', _, _, h2, h3, V.osl_new h4 (heap_push_eq _ _) (by simpa using hc) hn, h, agree_set hB h1 _⟩

theorem bslice_sound (hw : RelW ng κ m w) (hB : Has m B) {n : Nat} {fr : Fr} {a : Act} (hf : RelF n κ w fr a) {t e : TypeId} {i : TypeInfo} {z : Value} {zero : List AV} (hd : P.underlying t = some (.slice e)) (hi : P.info? e = some i)
    (hz : (zeroValue e).run P w = .ok z w) (hzv : VL κ w zero z.cells.toList) (hzo : ∀ x ∈ zero, x.one = true) (hzs : z.cells.size = i.size) {len : Nat} (hlen : len * i.size ≤ 16777216) {parts : Array (Nat × Operand)} {ps : List (Nat × Nat × Opd)}
    (hp : partsAt (fun j => some (j * i.size, i.size)) ng n parts.toList = some ps) {K : AV → Mem → Prop}
    (h : sBuild fr (rep len zero) ps fun cs => K (.osl m.nx i.size 0 len) (m.new (.cells cs))) : DoesV ng P B κ m w (Instr.buildSlice t len (parts.map fun (j, x) => (j, a.eval x))) K := by
  obtain ⟨cs, vs, h1, h2, h3, h4⟩ := fill_sound hw hf hp (hzv.rep len) (rep_one hzo len) h
  have hfl : ∀ (cells : Array Value) (l : List (Nat × Value)) (r : Array Value), Instr.fill (fun j => some (j * i.size, i.size)) cells l = some r → r.size = cells.size := by
    intro cells l
    induction l generalizing cells with
    | nil => intro r hr; simp [Instr.fill] at hr; subst hr; rfl
    | cons p l ih =>
      intro r hr
      obtain ⟨j, v⟩ := p
      simp only [Instr.fill] at hr
      split at hr
      · simp at hr
      · rename_i hfit
        have := ih _ r hr
        rw [this]
        simp at hfit
        have h9 := fill_step v (j * i.size) cells (by omega)
        rw [h9]; simp [layV]; omega
  have hvl : vs.length = len * i.size := by
    have := hfl _ _ _ h1
    simp at this
    rw [this, ← hzs]
  obtain ⟨κ', m', av, e1, e2, e3, e4, e5⟩ := new_row hw hB (spare := []) h2 h3 e (sz := i.size) (Nat.le_refl len) (by simp [hvl]) h4
  refine ⟨.slice (some ⟨w.heap.size, 0, none⟩) len len, w.alloc (.cells vs.toArray e), κ', m', av, ?_, ?_, ?_, ?_, e4, e5⟩
  · simp only [Instr.buildSlice, Sem.run_bind, run_underlying' hd, Result.andThen_ok, run_sizeOf hi]
    rw [if_neg (by omega)]
    have hcells : ((Array.range (len * i.size)).map fun x => z.cells[x % z.cells.size]!) = (List.replicate len z.cells.toList).flatten.toArray := by
      have := rep_list z.cells.toList len
      apply Array.ext'
      rw [← this]
      simp [hzs]
    by_cases h0 : len * i.size = 0
    · have hz0 : ((Array.range (len * i.size)).map fun x => (#[] : Array Value)[x % (#[] : Array Value).size]!) = (List.replicate len z.cells.toList).flatten.toArray := by
        rw [← hcells, h0]; simp
      simp only [h0, if_true, Sem.run_pure, Sem.run_bind, Result.andThen_ok]
      rw [h0] at hz0
      simp only [hz0, Array.toList_map, h1]
      simp [newRow]
    · simp only [h0, if_false, Sem.run_pure, Sem.run_bind, Result.andThen_ok, hz]
      simp only [hcells, Array.toList_map, h1]
      simp [newRow]
  · simpa using e1
  · simpa using e2
  · simpa using e3
end
end Go.X

/- What a row's list of laid variables gives: the variables' cells, as the abstract machine knows them. -/
import Derived.Test.YtnieadkafeohlaaGreatDoorGoxLaid
set_option linter.unusedVariables false
set_option linter.unusedSimpArgs false
namespace Go.X
open Go.Lib

def litA : Lit → AV
  | .int k n => .int k n
  | .string l => .str l
  | .bool b => .bool b
  | _ => .junk
def litOf : DataW Unit → Lit
  | .lit l => l
  | _ => .bool false
def litsOf : DataW Unit → List Lit
  | .agg l => l.map litOf
  | _ => []

/-- A list of plain values. -/
def tabD (ls : List Lit) : DataW Unit := .agg (ls.map .lit)

section
variable {P : Program} {w : World}

theorem laidVars_mem : ∀ {l : List (String × DataW Unit)} {ps : List MemPlace} {x : String × DataW Unit}, DataW.LaidVars P w l ps → x ∈ l →
    ∃ g t cs fuel p, P.globalNamed x.1 = some g ∧ (P.globals[g]?).map (·.type) = some t ∧ w.var? P x.1 = some cs ∧ DataW.trod (fun _ => ()) P w 0 (fun _ => true) false fuel t cs.toList = some (x.2, p)
  | [], _, _, _, hx => by simp at hx
  | (n, d) :: l, ps, x, h, hx => by
    obtain ⟨g, t, cs, fuel, p, q, h1, h2, h3, h4, h5, h6⟩ := h
    rcases List.mem_cons.1 hx with rfl | hx
    · exact ⟨g, t, cs, fuel, p, h1, h2, h3, h4⟩
    · exact laidVars_mem h5 hx

/-- An element of a plain kind. -/
def plainT (P : Program) (e : TypeId) : Bool := match P.underlying e with
  | some .string => true
  | some (.int _) => true
  | _ => false

theorem plain_elem {e : TypeId} (he : plainT P e = true) {fuel : Nat} {cs : List Value} {d : DataW Unit} {p : List MemPlace}
    (h : DataW.trod (fun _ => ()) P w 0 (fun _ => true) false fuel e cs = some (d, p)) : ∃ l : Lit, d = .lit l ∧ cs = [litV l] ∧ (∀ κ : Kap, V κ w (litA l) (litV l)) ∧ (litA l).one = true ∧ (litA l).flat = true := by
  unfold plainT at he
  split at he
  · rename_i hu
    obtain ⟨s, h1, h2, h3⟩ := DataW.trod_string hu h
    simp only [Prod.mk.injEq] at h2
    obtain ⟨rfl, _⟩ := h2
    exact ⟨_, rfl, by simp [h1, litV], fun κ => .str _, rfl, rfl⟩
  · rename_i k hu
    obtain ⟨z, h1, h2, h3⟩ := DataW.trod_int hu h
    simp only [Prod.mk.injEq] at h2
    obtain ⟨rfl, _⟩ := h2
    exact ⟨_, rfl, by simp [h1, litV], fun κ => .int _ _, rfl, rfl⟩
  · simp at he

theorem cells_lits {t e : TypeId} {n fuel : Nat} {cs : List Value} {ls : List Lit} {p : List MemPlace} (ht : P.underlying t = some (.array n e)) (he : plainT P e = true) (hce : P.cellsOf e = 1) (hct : P.cellsOf t = n)
    (h : DataW.trod (fun _ => ()) P w 0 (fun _ => true) false fuel t cs = some (tabD ls, p)) :
    cs = ls.map litV ∧ ∀ l ∈ ls, (∀ κ : Kap, V κ w (litA l) (litV l)) ∧ (litA l).one = true ∧ (litA l).flat = true := by
  cases fuel with
  | zero => simp [DataW.trod] at h
  | succ fuel =>
    simp only [DataW.trod, ht, hce, hct, Nat.mul_one] at h
    split at h
    · rename_i hl
      obtain ⟨xs, hm, hx⟩ := Option.map_eq_some_iff.1 h
      have hxs : xs.map (·.1) = ls.map fun l => (DataW.lit l : DataW Unit) := by
        have := congrArg Prod.fst hx
        simpa [tabD] using this
      have hxl : xs.length = n := by simpa using mapM_length hm
      have hll : ls.length = n := by
        have := congrArg List.length hxs
        simp at this
        omega
      have key : ∀ i, i < n → ∃ l, ls[i]? = some l ∧ cs[i]? = some (litV l) ∧ (∀ κ : Kap, V κ w (litA l) (litV l)) ∧ (litA l).one = true ∧ (litA l).flat = true := by
        intro i hi
        obtain ⟨b, hb, hf⟩ := mapM_at hm i i (by simp [hi])
        obtain ⟨d, q⟩ := b
        obtain ⟨l, rfl, hc, hv⟩ := plain_elem he hf
        have h1 : cs[i]? = some (litV l) := by
          have := congrArg (·[0]?) hc
          simpa [List.getElem?_take, List.getElem?_drop] using this
        have h2 : (xs.map (·.1))[i]? = some (DataW.lit l : DataW Unit) := by simp [hb]
        rw [hxs] at h2
        simp only [List.getElem?_map, Option.map_eq_some_iff, DataW.lit.injEq] at h2
        obtain ⟨l', hl', rfl⟩ := h2
        exact ⟨l', hl', h1, hv⟩
      refine ⟨?_, fun l hl => ?_⟩
      · apply List.ext_getElem?
        intro i
        by_cases hi : i < n
        · obtain ⟨l, h1, h2, _⟩ := key i hi
          simp [h1, h2]
        · rw [List.getElem?_eq_none (by omega), List.getElem?_eq_none (by simp; omega)]
      · obtain ⟨i, hi, rfl⟩ := List.getElem_of_mem hl
        obtain ⟨l', h1, _, h3⟩ := key i (by omega)
        rw [List.getElem?_eq_getElem hi] at h1
        simp only [Option.some.injEq] at h1; subst h1
        exact h3
    · cases h

/-- A listed variable, as the abstract machine knows it. -/
theorem glob_of_laid {sig : Nat → Int} {l : List (String × DataW Unit)} {name : String} {ls : List Lit} {g n : Nat} {t e : TypeId} (h : laidMet P l w) (hm : (name, tabD ls) ∈ l)
    (hg : P.globalNamed name = some g) (hty : (P.globals[g]?).map (·.type) = some t) (ht : P.underlying t = some (.array n e)) (he : plainT P e = true) (hce : P.cellsOf e = 1) (hct : P.cellsOf t = n) :
    V (kap0 w sig) w (.sptr (ls.map litA) 0) (.pointer (some ⟨g, 0, none⟩)) := by
  obtain ⟨ps, hlv, _, _⟩ := h
  obtain ⟨g', t', cs, fuel, p, hg', ht', hvar, hd⟩ := laidVars_mem hlv hm
  obtain rfl := Option.some.inj (hg.symm.trans hg')
  obtain rfl := Option.some.inj (hty.symm.trans ht')
  obtain ⟨hcs, hls⟩ := cells_lits ht he hce hct hd
  have hlt : g < w.heap.size := by
    simp only [World.var?, hg, Option.bind_some] at hvar
    split at hvar
    · rename_i hh; exact lt_of_heap hh
    · simp at hvar
  have := V.sptr (κ := kap0 w sig) (w := w) (ls.map litA) 0 g 0 (ls.map litV) hlt (by simp) (fun i v hi => ?_) (fun i c v hc hv => ?_) (fun c hc => ?_)
  · simpa using this
  · rw [Nat.zero_add, World.var?_cell hg hvar i, ← Array.getElem?_toList, hcs]; exact hi
  · rw [List.getElem?_map] at hc hv
    cases hl : ls[i]? with
    | none => rw [hl] at hc; simp at hc
    | some x =>
      rw [hl] at hc hv
      simp at hc hv; subst hc hv
      exact (hls x (List.mem_of_getElem? hl)).1 _
  · obtain ⟨x, hx, rfl⟩ := List.mem_map.1 hc
    exact (hls x hx).2.1

/-- The machine's variables, by number. -/
def varsOf : List (Nat × List Lit) → Nat → Option (List AV)
  | [], _ => none
  | (g, ls) :: l, i => bif Nat.beq g i then some (ls.map litA) else varsOf l i
/-- .. with the named numbers. -/
def globOf (l : List (Nat × List Lit)) (sig : Nat → Int) (fx : Fx) (ok : fx.Ok sig) : Glob := ⟨varsOf l, sig, fx, ok⟩

theorem varsOf_mem {l : List (Nat × List Lit)} {g : Nat} {cs : List AV} (h : varsOf l g = some cs) : ∃ ls, (g, ls) ∈ l ∧ cs = ls.map litA := by
  induction l with
  | nil => simp [varsOf] at h
  | cons x l ih =>
    obtain ⟨g', ls⟩ := x
    simp only [varsOf] at h
    cases hb : Nat.beq g' g with
    | true =>
      rw [hb] at h; simp at h; subst h
      exact ⟨ls, by rw [Nat.eq_of_beq_eq_true hb]; simp, rfl⟩
    | false =>
      rw [hb] at h
      obtain ⟨ls', h1, h2⟩ := ih h
      exact ⟨ls', List.mem_cons_of_mem _ h1, h2⟩

theorem globOf_flat {l : List (Nat × List Lit)} {sig : Nat → Int} {fx : Fx} {ok : fx.Ok sig} (h : l.all (fun x => x.2.all fun y => (litA y).flat) = true) : globFlat (globOf l sig fx ok) := by
  intro g cs hg
  obtain ⟨ls, h1, rfl⟩ := varsOf_mem (l := l) hg
  have := List.all_eq_true.1 h _ h1
  simp only [List.all_eq_true] at this ⊢
  intro x hx
  obtain ⟨y, hy, rfl⟩ := List.mem_map.1 hx
  exact this y hy
end
end Go.X

/- Functions: what a call does, from what its body does. -/
import Derived.Test.YtnieadkafeohlaaGreatDoorGoxCode
set_option linter.unusedVariables false
set_option linter.unusedSimpArgs false
namespace Go.X

inductive ARes where
  | tmp (t : Nat)
  | cell (t : Nat)
  | cellA (t sz : Nat)

/-- What a function that recovers has beside its body: what runs ahead of the defer; the closure's slots; what runs where the one panic comes. -/
structure Rcv where
  pre : AC
  i : Nat
  j : Nat
  t6 : Nat
  wt : Nat
  rn : Nat
  pos : Nat
  code : AC

structure AFn where
  n : Nat
  res : List ARes
  code : AC
  rcv : Option Rcv

def resOf (P : Program) (n : Nat) : List ResultVar → Option (List ARes)
  | [] => some []
  | .tmp t :: l => if t < n then (resOf P n l).map (.tmp t :: ·) else none
  | .cell t ty :: l => if t < n then (match P.underlying ty, szOf P ty with
    | some d, some sz => (resOf P n l).map ((if isAggD d then .cellA t sz else .cell t) :: ·)
    | _, _ => none) else none

/-- A function of the program, abstractly. -/
def cFn (P : Program) (ng : Glob) (f : FuncId) : Option AFn :=
  match P.funcs[f]? with
  | none => none
  | some fn => match fn.body with
    | none => none
    | some c => if fn.name == "runtime.NumGoroutine" then none else match resOf P fn.ntmps fn.results.toList with
      | none => none
      | some l => some ⟨fn.ntmps, l, cCode P ng fn.ntmps c, none⟩

theorem cFn_rcv {P : Program} {ng : Glob} {f : FuncId} {fn : AFn} (h : cFn P ng f = some fn) : fn.rcv = none := by
  unfold cFn at h
  split at h
  · simp at h
  · split at h
    · simp at h
    · split at h
      · simp at h
      · split at h
        · simp at h
        · simp at h; subst h; rfl

def oneOr : List AV → AV
  | [v] => v
  | l => .tup l

def resK (fr : Fr) (m : Mem) : List ARes → (List AV → Prop) → Prop
  | [], K => K []
  | .tmp t :: l, K => resK fr m l fun vs => K (fr t :: vs)
  | .cell t :: l, K => sLoad m (fr t) fun v => resK fr m l fun vs => K (v :: vs)
  | .cellA t sz :: l, K => sLoadA m sz (fr t) fun v => resK fr m l fun vs => K (v :: vs)

def frOf (args : List AV) : Fr := fun k => args.getD k (.tup [])

def fnPost (res : List ARes) (Q : ARet → Mem → Prop) : Post
  | .normal, fr, m => resK fr m res fun vs => Q (.ret (oneOr vs)) m
  | .ret, fr, m => resK fr m res fun vs => Q (.ret (oneOr vs)) m
  | .pan c, _, m => Q (.pan c) m
  | .exit _, _, _ => False

section
variable {ng : Glob} {P : Program} {B : Nat → Prop}

theorem load_here {κ : Kap} {m : Mem} {w : World} (hw : RelW ng κ m w) {t : TypeId} {d : TypeDesc} (hd : P.underlying t = some d) (ha : isAggD d = false) {x : AV} {v : Value} (hv : V κ w x v) {K : AV → Prop}
    (h : sLoad m x K) : ∃ u y, (do loadVar t (← asAddr v) : Sem Value).run P w = .ok u w ∧ V κ w y u ∧ K y := by
  unfold sLoad at h
  split at h
  · rename_i cs off hcs
    split at h
    · rename_i y hy
      obtain ⟨b, base, vs, rfl, hvl, hc, _⟩ := cellsAt_sound hw hv hcs
      obtain ⟨u, hu, hyu⟩ := hvl.get hy
      refine ⟨u, y, ?_, hyu, h⟩
      simp only [asAddr, pure_bind]
      exact run_loadVar1 hd (isAggD_false ha) (hc off u hu)
    · exact h.elim
  · exact h.elim

theorem loadA_here {κ : Kap} {m : Mem} {w : World} (hw : RelW ng κ m w) {t : TypeId} {d : TypeDesc} {i : TypeInfo} (hd : P.underlying t = some d) (ha : isAggD d = true) (hi : P.info? t = some i) {x : AV} {v : Value} (hv : V κ w x v) {K : AV → Prop}
    (h : sLoadA m i.size x K) : ∃ u y, (do loadVar t (← asAddr v) : Sem Value).run P w = .ok u w ∧ V κ w y u ∧ K y := by
  unfold sLoadA at h
  split at h
  · rename_i cs off hcs
    obtain ⟨hl, hk⟩ := h
    obtain ⟨b, base, vs, rfl, hvl, hc, _⟩ := cellsAt_sound hw hv hcs
    have hvl2 := (hvl.drop off).take i.size
    have hlen : ((vs.drop off).take i.size).length = i.size := by simp [← hvl.1]; omega
    refine ⟨.agg ((vs.drop off).take i.size).toArray, _, ?_, .agg _ _ hvl2.1 hvl2.2, hk⟩
    simp only [asAddr, pure_bind]
    refine run_loadVarA hd (isAggD_true ha) hi hlen.symm fun j u hu => ?_
    rw [List.getElem?_take] at hu
    split at hu
    · rw [List.getElem?_drop] at hu
      have := hc _ u hu
      rw [show base + off + j = base + (off + j) by omega]; exact this
    · simp at hu
  · exact h.elim

theorem resOf_run {κ : Kap} {m : Mem} {w : World} (hw : RelW ng κ m w) {n : Nat} {fr : Fr} {a : Act} (hf : RelF n κ w fr a) : ∀ {l : List ResultVar} {r : List ARes} {K : List AV → Prop}, resOf P n l = some r → resK fr m r K →
    ∃ vs avs, (l.mapM (fun | .tmp t => pure (a.tmps.getD t undef) | .cell b t => do loadVar t (← asAddr (a.tmps.getD b undef)) : ResultVar → Sem Value)).run P w = .ok vs w ∧ VL κ w avs vs ∧ K avs
  | [], r, K, h, hk => by simp [resOf] at h; subst h; exact ⟨[], [], by simp, VL.nil, hk⟩
  | .tmp t :: l, r, K, h, hk => by
    simp only [resOf] at h
    split at h
    · rename_i ht
      cases hr : resOf P n l with
      | none => rw [hr] at h; simp at h
      | some r' =>
        rw [hr] at h; simp at h; subst h
        obtain ⟨vs, avs, h1, h2, h3⟩ := resOf_run hw hf hr hk
        refine ⟨_, _, ?_, VL.cons (hf.2 t ht) h2, h3⟩
        rw [List.mapM_cons]
        simp only [Sem.run_bind, Sem.run_pure, Result.andThen_ok, h1]
    · simp at h
  | .cell t ty :: l, r, K, h, hk => by
    simp only [resOf] at h
    split at h
    · rename_i ht
      split at h
      · rename_i d sz hd hs
        cases hr : resOf P n l with
        | none => rw [hr] at h; simp at h
        | some r' =>
          rw [hr] at h
          simp only [Option.map_some, Option.some.injEq] at h; subst h
          obtain ⟨i, hi, rfl⟩ := szOf_some hs
          have fin : ∀ {u : Value} {y : AV}, (do loadVar ty (← asAddr (a.tmps.getD t undef)) : Sem Value).run P w = .ok u w → V κ w y u → (resK fr m r' fun vs => K (y :: vs)) →
              ∃ vs avs, ((ResultVar.cell t ty :: l).mapM (fun | .tmp t => pure (a.tmps.getD t undef) | .cell b t => do loadVar t (← asAddr (a.tmps.getD b undef)) : ResultVar → Sem Value)).run P w = .ok vs w ∧ VL κ w avs vs ∧ K avs := by
            intro u y hu hyu hk
            obtain ⟨vs, avs, h1, h2, h3⟩ := resOf_run hw hf hr hk
            refine ⟨_, _, ?_, VL.cons hyu h2, h3⟩
            rw [List.mapM_cons, Sem.run_bind]
            simp only [hu, Result.andThen_ok, Sem.run_bind, h1, Sem.run_pure]
          cases hag : isAggD d with
          | true =>
            rw [hag] at hk
            obtain ⟨u, y, hu, hyu, hk⟩ := loadA_here hw hd hag hi (hf.2 t ht) hk
            exact fin hu hyu hk
          | false =>
            rw [hag] at hk
            obtain ⟨u, y, hu, hyu, hk⟩ := load_here hw hd hag (hf.2 t ht) hk
            exact fin hu hyu hk
      · simp at h
    · simp at h

theorem results_sound {fn : Func} {r : List ARes} (hr : resOf P fn.ntmps fn.results.toList = some r) {κ : Kap} {m : Mem} {w : World} (hw : RelW ng κ m w) {fr : Fr} {a : Act} (hf : RelF fn.ntmps κ w fr a) {Q : AV → Prop}
    (h : resK fr m r fun vs => Q (oneOr vs)) : ∃ v av, (results fn a.tmps).run P w = .ok v w ∧ V κ w av v ∧ Q av := by
  obtain ⟨vs, avs, h1, h2, h3⟩ := resOf_run hw hf hr h
  have hm : (fn.results.mapM (fun | .tmp t => pure (a.tmps.getD t undef) | .cell a' t => do loadVar t (← asAddr (a.tmps.getD a' undef)) : ResultVar → Sem Value)).run P w = .ok vs.toArray w := by
    rw [Array.mapM_eq_mapM_toList]
    simp only [Sem.run_map, h1]
    rfl
  unfold results
  rw [Sem.run_bind]; erw [hm]
  simp only [Result.andThen_ok, Sem.run_pure]
  refine ⟨_, _, rfl, ?_, h3⟩
  match vs, avs, h2 with
  | [v], [x], h2 => simpa [oneOr] using h2.2 0 x v rfl rfl
  | [], [], h2 => simpa [oneOr] using V.tup _ _ h2.1 h2.2
  | v :: v' :: vs, x :: x' :: xs, h2 => simpa [oneOr] using V.tup _ _ h2.1 h2.2
  | [], x :: xs, h2 => simp [VL] at h2
  | v :: vs, [], h2 => simp [VL] at h2
  | [v], x :: x' :: xs, h2 => simp [VL] at h2
  | v :: v' :: vs, [x], h2 => simp [VL] at h2

theorem frOf_sound {κ : Kap} {w : World} {args : List AV} {vs : List Value} (h : VL κ w args vs) {n : Nat} (hn : args.length ≤ n) :
    RelF n κ w (frOf args) { tmps := vs.toArray ++ Array.replicate (n - vs.toArray.size) undef, defers := [] } := by
  have hl := h.1
  refine ⟨by simp; omega, fun k hk => ?_⟩
  simp only [frOf]
  rw [Array.getD_eq_getD_getElem?, List.getD_eq_getElem?_getD]
  by_cases hkl : k < args.length
  · rw [Array.getElem?_append_left (by simp; omega)]
    have h1 : args[k]? = some args[k] := List.getElem?_eq_getElem hkl
    have h2 : vs[k]? = some vs[k] := List.getElem?_eq_getElem (by omega)
    simp only [List.getElem?_toArray, h1, h2, Option.getD_some]
    exact h.2 k _ _ h1 h2
  · rw [Array.getElem?_append_right (by simp; omega)]
    have h1 : args[k]? = none := List.getElem?_eq_none (by omega)
    rw [h1]
    have : (Array.replicate (n - vs.toArray.size) undef)[k - vs.toArray.size]? = some undef := by
      rw [Array.getElem?_replicate, if_pos (by simp; omega)]
    rw [this]
    exact undef_tup

/-- A call of a function, from its body. -/
theorem ACalls.of_fn {f : FuncId} {fn : AFn} (hfn : cFn P ng f = some fn) {args : List AV} {m : Mem} {Q : ARet → Mem → Prop} (hl : args.length ≤ fn.n)
    (h : wpA (ACalls ng P) B fn.code (fnPost fn.res Q) (frOf args) m) : ACalls ng P B f args m Q := by
  unfold cFn at hfn
  split at hfn
  · simp at hfn
  · rename_i F hF
    split at hfn
    · simp at hfn
    · rename_i c hc
      split at hfn
      · simp at hfn
      · rename_i hname
        split at hfn
        · simp at hfn
        · rename_i r hr
          simp at hfn; subst hfn
          refine ⟨by simp [bodied, hF, hc]; simpa using hname, fun κ w vs hw hv hB => ?_⟩
          refine calls_of_wp hF hc (wp_mono (wpA_sound (z := ⟨[], [], fun _ => undef, none⟩) c (freeC_nil c) _ _ _ h κ w _ hw (frOf_sound hv hl) ⟨rfl, by simp, by simp⟩ hB) ?_)
          intro e a' w' hp
          obtain ⟨κ', m', h1, h2, h3, h4, h5⟩ := hp
          cases e with
          | normal =>
            obtain ⟨fr', hf', hq⟩ := h5
            obtain ⟨v, av, hv1, hv2, hq⟩ := results_sound hr h2 hf' (Q := fun v => Q (.ret v) m') hq
            exact ⟨h3.1, v, hv1, κ', m', _, h1, h2, hv2, h4, hq⟩
          | ret =>
            obtain ⟨fr', hf', hq⟩ := h5
            obtain ⟨v, av, hv1, hv2, hq⟩ := results_sound hr h2 hf' (Q := fun v => Q (.ret v) m') hq
            exact ⟨h3.1, v, hv1, κ', m', _, h1, h2, hv2, h4, hq⟩
          | panic c => exact ⟨h3.1, κ', m', h1, h2, h4, h5⟩
          | exit id => obtain ⟨fr', hf', hq⟩ := h5; exact hq.elim
          | goto l => exact h5.elim
          | outgrown => exact h5.elim

end
end Go.X

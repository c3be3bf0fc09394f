/- Functions that recover: one deferred closure over two result variables, which catches one kind of panic. -/
import Derived.Test.YtnieadkafeohlaaGreatDoorGoxFn
import Derived.Recover
set_option linter.unusedVariables false
set_option linter.unusedSimpArgs false
namespace Go.X

theorem wpS_block {P : Program} {Q : Exit → Act → List Frame → World → Prop} {a : Act} {cs : List Frame} {w : World} {id : Nat} {c : Code}
    (h : c.wpS P (fun e a cs w => Exit.inBlock id (fun e a w => Q e a cs w) e a w) a cs w) : (Code.block id c).wpS P Q a cs w := by
  intro b k hb hro
  obtain ⟨e, a₁, cs₁, w₁, hq, harr⟩ := h b (.inBlock id :: k) hb hro
  cases e with
  | normal => exact ⟨.normal, a₁, cs₁, w₁, hq, .head step_block (Steps.trans harr (.one step_inBlock))⟩
  | exit id' =>
    by_cases hid : id' = id
    · simp only [Exit.inBlock, hid, if_true] at hq
      exact ⟨.normal, a₁, cs₁, w₁, hq, .head step_block (harr k (by simp [exitTo, hid]))⟩
    · simp only [Exit.inBlock, hid, if_false] at hq
      refine ⟨.exit id', a₁, cs₁, w₁, hq, fun k' hk => .head step_block (harr k' ?_)⟩
      have : (id == id') = false := by simp; exact fun h => hid h.symm
      simp [exitTo, this, hk]
  | goto l => exact ⟨_, a₁, cs₁, w₁, hq, fun k' hk => .head step_block (harr k' (by simp [gotoIn, hk]))⟩
  | ret => exact ⟨_, a₁, cs₁, w₁, hq, .of_steps (.one step_block) harr⟩
  | panic ch => exact ⟨_, a₁, cs₁, w₁, hq, .of_steps (.one step_block) harr⟩
  | outgrown => exact ⟨_, a₁, cs₁, w₁, hq, .of_steps (b := b) (k := k) (cs := cs₁) (e := .outgrown) (.one step_block) harr⟩

/-- What the deferred closure does: nothing where nothing panics; where the one kind of panic comes, it runs 'rc'. -/
structure RecG (P : Program) (g : FuncId) (wt : TypeId) (rn pos : Nat) (rc : Code) : Prop where
  idle : ∀ (u v : Value) (w : World), CallsD P g #[u, v] .returning w fun e u' w' => (∃ x, e = .returned x) ∧ u' = .returning ∧ w' = w
  caught : ∀ (u v : Value) (w : World) (Q : World → Prop),
    (∀ a : Act, a.defers = [] → a.tmps.size = rn → a.tmps.getD 0 undef = u → a.tmps.getD 1 undef = v → a.tmps.getD pos undef = .agg #[] → rc.wp P (fun e a w' => e = .normal ∧ a.defers = [] ∧ Q w') a w) →
    CallsD P g #[u, v] (.panicking [{ v := .iface wt (.agg #[]), recovered := false }]) w fun e u' w' => (∃ x, e = .returned x) ∧ u' = .panicking [{ v := .iface wt (.agg #[]), recovered := true }] ∧ Q w'

/-- A frame that knows two slots alone. -/
def ls2 (n i j : Nat) (x y : AV) : List AV := (List.range n).map fun k => bif Nat.beq k i then x else bif Nat.beq k j then y else .junk
def ls3 (n pos : Nat) (x y : AV) : List AV := (List.range n).map fun k => bif Nat.beq k 0 then x else bif Nat.beq k 1 then y else bif Nat.beq k pos then .agg [] else .junk

theorem frOf_range {n : Nat} (f : Nat → AV) {k : Nat} (hk : k < n) : frOf ((List.range n).map f) k = f k := by
  simp [frOf, List.getD_eq_getElem?_getD, List.getElem?_map, List.getElem?_range hk]

theorem fr2_V {κ : Kap} {w : World} {n i j : Nat} {x y : AV} {a : Act} (hx : V κ w x (a.tmps.getD i undef)) (hy : V κ w y (a.tmps.getD j undef)) (hs : a.tmps.size = n) : RelF n κ w (frOf (ls2 n i j x y)) a := by
  refine ⟨hs, fun k hk => ?_⟩
  rw [ls2, frOf_range _ hk]
  cases h : Nat.beq k i with
  | true => rw [Nat.eq_of_beq_eq_true h]; exact hx
  | false =>
    cases h2 : Nat.beq k j with
    | true => rw [Nat.eq_of_beq_eq_true h2]; exact hy
    | false => exact .junk _

theorem fr3_V {κ : Kap} {w : World} {n pos : Nat} {x y : AV} {a : Act} (hx : V κ w x (a.tmps.getD 0 undef)) (hy : V κ w y (a.tmps.getD 1 undef)) (hp : a.tmps.getD pos undef = .agg #[]) (hs : a.tmps.size = n) : RelF n κ w (frOf (ls3 n pos x y)) a := by
  refine ⟨hs, fun k hk => ?_⟩
  rw [ls3, frOf_range _ hk]
  cases h : Nat.beq k 0 with
  | true => rw [Nat.eq_of_beq_eq_true h]; exact hx
  | false =>
    cases h2 : Nat.beq k 1 with
    | true => rw [Nat.eq_of_beq_eq_true h2]; exact hy
    | false =>
      cases h3 : Nat.beq k pos with
      | true => rw [Nat.eq_of_beq_eq_true h3, hp]; exact .agg [] [] rfl (fun i c v h => by simp at h)
      | false => exact .junk _

def resIn (i j : Nat) : List ARes → Bool
  | [] => true
  | .tmp _ :: _ => false
  | .cell t :: l => (t == i || t == j) && resIn i j l
  | .cellA t _ :: l => (t == i || t == j) && resIn i j l

def mkOp (g i j t6 : Nat) (o : Oper) : Prop := o.op = .makeFunc (.func g) #[] #[.tmp i, .tmp j] ∧ o.dst = some t6 ∧ o.guard = none
def dfOp (t6 : Nat) (o : Oper) : Prop := o.op = .defer { callee := .value (.tmp t6), args := #[], argTypes := #[] } ∧ o.dst = none ∧ o.guard = none

/-- What is asked behind the body. -/
def recPost (C : CallP) (B : Nat → Prop) (res : List ARes) (n wt rn pos i j : Nat) (rc : AC) (x y : AV) (Q : ARet → Mem → Prop) : Post
  | .normal, fr, m => resK fr m res fun vs => Q (.ret (oneOr vs)) m
  | .ret, fr, m => resK fr m res fun vs => Q (.ret (oneOr vs)) m
  | .pan c, _, m => c = [{ v := .iface wt (.agg #[]), recovered := false }] ∧ wpA C B rc (fun e _ m2 => e = .normal ∧ resK (frOf (ls2 n i j x y)) m2 res fun vs => Q (.ret (oneOr vs)) m2) (frOf (ls3 rn pos x y)) m
  | .exit _, _, _ => False

section
variable {ng : Glob} {P : Program} {B : Nat → Prop}

theorem ACalls.of_rec {f g wt rn pos i j t6 : Nat} {F : Func} {c0 rest rc : Code} {i1 : Nat} {mk df : Oper} {res : List ARes}
    (hF : P.funcs[f]? = some F) (hb : F.body = some (.seq c0 (.seq (.region i1 #[mk, df] false) rest))) (hname : F.name ≠ "runtime.NumGoroutine")
    (hmk : mkOp g i j t6 mk) (hdf : dfOp t6 df) (hi : i < F.ntmps) (hj : j < F.ntmps) (ht : t6 < F.ntmps) (hit : i ≠ t6) (hjt : j ≠ t6) (hfree : freeC [i, j] rest = true)
    (hr : resOf P F.ntmps F.results.toList = some res) (hrin : resIn i j res = true) (hgb : bodied P g = true) (G : RecG P g wt rn pos rc)
    {args : List AV} {m : Mem} {Q : ARet → Mem → Prop} (hl : args.length ≤ F.ntmps)
    (h : wpA (ACalls ng P) B (cCode P ng F.ntmps c0) (fun e fr1 m1 => e = .normal ∧
      wpA (ACalls ng P) B (cCode P ng F.ntmps rest) (recPost (ACalls ng P) B res F.ntmps wt rn pos i j (cCode P ng rn rc) (fr1 i) (fr1 j) Q) (upd fr1 t6 .junk) m1) (frOf args) m) :
    ACalls ng P B f args m Q := by
  refine ⟨by simp [bodied, hF, hb]; simpa using hname, fun κ w vs hw hv hB => ?_⟩
  refine calls_of_wp_defers hF hb ?_
  refine wp_seq (wp_mono (wpA_sound (z := ⟨[], [], fun _ => undef, none⟩) c0 (freeC_nil c0) _ _ _ h κ w _ hw (frOf_sound hv hl) ⟨rfl, by simp, by simp⟩ hB) ?_)
  intro e a1 w1 hp
  obtain ⟨κ1, m1, h1, h2, h3, h4, h5⟩ := hp
  cases e with
  | ret => obtain ⟨fr1, hf1, hq, _⟩ := h5; cases hq
  | exit id => obtain ⟨fr1, hf1, hq, _⟩ := h5; cases hq
  | panic c => obtain ⟨hq, _⟩ := h5; cases hq
  | goto l => exact h5.elim
  | outgrown => exact h5.elim
  | normal =>
    obtain ⟨fr1, hf1, _, hrest⟩ := h5
    have hd1 : a1.defers = [] := h3.1
    -- the closure is made, and deferred
    obtain ⟨hmk1, hmk2, hmk3⟩ := hmk
    obtain ⟨hdf1, hdf2, hdf3⟩ := hdf
    let u := a1.tmps.getD i undef
    let v := a1.tmps.getD j undef
    let a2 : Act := { (a1.put (some t6) (.func (.func g) #[] #[u, v])) with defers := [{ target := .fn (.func g) #[u, v], args := #[] }] }
    have hsz1 : a1.tmps.size = F.ntmps := hf1.1
    have e1 : (execOp a1.eval mk).run P w1 = .ok (.value (.func (.func g) #[] #[u, v])) w1 := by
      unfold execOp; simp only [hmk1, List.map_toArray, List.map_cons, List.map_nil]
      rfl
    have e2 : (execOp (a1.put (some t6) (.func (.func g) #[] #[u, v])).eval df).run P w1 = .ok (.defer { target := .fn (.func g) #[u, v], args := #[] }) w1 := by
      have hev : (a1.put (some t6) (.func (.func g) #[] #[u, v])).eval (.tmp t6) = .func (.func g) #[] #[u, v] := by
        simp only [Act.put, Act.eval]
        rw [Array.getD_eq_getD_getElem?]
        simp [hsz1, ht]
      unfold execOp; simp only [hdf1, resolve, hev, Deferred.ofValue, List.map_toArray, List.map_nil]
      rfl
    refine wp_seq ?_
    refine wp_region ?_
    show wpOps P #[mk, df] _ [0, 1] a1 w1
    unfold wpOps
    simp only [List.getElem?_toArray, List.getElem?_cons_zero]
    rw [if_pos (by simp [Region.wanted, hmk3])]
    refine Or.inl ?_
    unfold Oper.wp
    rw [e1, Oper.upon_value, hmk2]
    unfold wpOps
    simp only [List.getElem?_toArray, List.getElem?_cons_succ, List.getElem?_cons_zero]
    rw [if_pos (by simp [Region.wanted, hdf3])]
    refine Or.inl ?_
    unfold Oper.wp
    rw [e2, Oper.upon_defer, hdf2]
    unfold wpOps
    have hdef1 : (a1.put (some t6) (.func (.func g) #[] #[u, v])).defers = [] := hd1
    show Code.wp P rest (bodyPostD P F (EndV ng B κ m w Q)) ({ (a1.put (some t6) (.func (.func g) #[] #[u, v])) with defers := { target := .fn (.func g) #[u, v], args := #[] } :: (a1.put (some t6) (.func (.func g) #[] #[u, v])).defers }) w1
    rw [hdef1]
    show Code.wp P rest (bodyPostD P F (EndV ng B κ m w Q)) a2 w1
    -- the rest
    have hai : ∀ k, k ≠ t6 → a2.tmps.getD k undef = a1.tmps.getD k undef := by
      intro k hk
      show (a1.tmps.setIfInBounds t6 _).getD k undef = _
      rw [Array.getD_eq_getD_getElem?, Array.getD_eq_getD_getElem?, Array.getElem?_setIfInBounds_ne (fun e => hk e.symm)]
    have hf2 : RelF F.ntmps κ1 w1 (upd fr1 t6 .junk) a2 := by
      refine ⟨by simp [a2, Act.put, hsz1], fun k hk => ?_⟩
      simp only [upd]
      split
      · exact .junk _
      · rename_i hne; rw [hai k hne]; exact hf1.2 k hk
    have hx : V κ1 w1 (fr1 i) u := hf1.2 i hi
    have hy : V κ1 w1 (fr1 j) v := hf1.2 j hj
    let z : Pin := ⟨[{ target := .fn (.func g) #[u, v], args := #[] }], [i, j], fun k => a1.tmps.getD k undef, some F.ntmps⟩
    have hz : z.Holds a2 := by
      refine ⟨rfl, fun k hk => ?_, fun k hk => ?_⟩
      · simp only [z, List.mem_cons, List.not_mem_nil, or_false] at hk
        rcases hk with rfl | rfl
        · exact hai _ hit
        · exact hai _ hjt
      · simp only [z, Option.some.injEq] at hk; subst hk; exact hf2.1
    have hB1 : Has m1 B := hB.of_agree h4
    have inv : ∀ w', (invoke (.fn (.func g) #[u, v]) #[]).run P w' = .ok (.enter g #[u, v]) w' := by
      intro w'
      unfold bodied at hgb
      split at hgb
      · rename_i fn hfn
        simp only [Bool.and_eq_true, bne_iff_ne, ne_eq] at hgb
        have hn2 : ¬ fn.body = none := by cases hbb : fn.body <;> simp [hbb] at hgb ⊢
        simp only [invoke]
        unfold callFunc
        simp [hfn, hn2, hgb.2]
      · simp at hgb
    refine wp_mono (wpA_sound (z := z) rest hfree _ _ _ hrest κ1 w1 a2 h2 hf2 hz hB1) ?_
    intro e a' w' hp
    obtain ⟨κ', m', g1, g2, g3, g4, g5⟩ := hp
    have ga : ∀ o, B o → m' o = m o := fun o ho => (g4 o ho).trans (h4 o ho)
    have ret : ∀ fr', RelF F.ntmps κ' w' fr' a' → (resK fr' m' res fun vs => Q (.ret (oneOr vs)) m') → Leaves P F a'.tmps (EndV ng B κ m w Q) a'.defers .returning w' := by
      intro fr' hf' hq
      rw [g3.1]
      refine leaves_cons (by simp) (inv w') ((G.idle u v w').mono ?_)
      rintro e u' w'' ⟨⟨x, rfl⟩, rfl, rfl⟩
      obtain ⟨v, av, hv1, hv2, hq⟩ := results_sound hr g2 hf' (Q := fun v => Q (.ret v) m') hq
      exact ⟨v, hv1, κ', m', _, h1.trans g1, g2, hv2, ga, hq⟩
    cases e with
    | normal => obtain ⟨fr', hf', hq⟩ := g5; exact ret fr' hf' hq
    | ret => obtain ⟨fr', hf', hq⟩ := g5; exact ret fr' hf' hq
    | exit id => obtain ⟨fr', hf', hq⟩ := g5; exact hq.elim
    | goto l => exact g5.elim
    | outgrown => exact g5.elim
    | panic c =>
      obtain ⟨rfl, hq⟩ := g5
      show Leaves P F a'.tmps (EndV ng B κ m w Q) a'.defers _ w'
      rw [g3.1]
      have hx' : V κ' w' (fr1 i) u := hx.mono g1
      have hy' : V κ' w' (fr1 j) v := hy.mono g1
      have hti : a'.tmps.getD i undef = u := g3.2.1 i (by simp [z])
      have htj : a'.tmps.getD j undef = v := g3.2.1 j (by simp [z])
      refine leaves_cons (by simp) (inv w') ((G.caught u v w' (fun w'' => ∃ v, (results F a'.tmps).run P w'' = .ok v w'' ∧ EndV ng B κ m w Q (.returned v) w'') ?_).mono ?_)
      · intro a0 ha1 ha2 ha3 ha4 ha5
        have hf0 : RelF rn κ' w' (frOf (ls3 rn pos (fr1 i) (fr1 j))) a0 := fr3_V (ha3 ▸ hx') (ha4 ▸ hy') ha5 ha2
        refine wp_mono (wpA_sound (z := ⟨[], [], fun _ => undef, none⟩) rc (freeC_nil rc) _ _ _ hq κ' w' a0 g2 hf0 ⟨ha1, by simp, by simp⟩ (hB1.of_agree g4)) ?_
        intro e a4 w4 hp
        obtain ⟨κ4, m4, k1, k2, k3, k4, k5⟩ := hp
        cases e with
        | ret => obtain ⟨fr', hf', hq, _⟩ := k5; cases hq
        | exit id => obtain ⟨fr', hf', hq, _⟩ := k5; cases hq
        | panic c => obtain ⟨hq, _⟩ := k5; cases hq
        | goto l => exact k5.elim
        | outgrown => exact k5.elim
        | normal =>
          obtain ⟨fr', hf', _, hq⟩ := k5
          refine ⟨rfl, k3.1, ?_⟩
          have hf5 : RelF F.ntmps κ4 w4 (frOf (ls2 F.ntmps i j (fr1 i) (fr1 j))) a' := fr2_V (hti ▸ hx'.mono k1) (htj ▸ hy'.mono k1) (g3.2.2 _ rfl)
          obtain ⟨v, av, hv1, hv2, hq⟩ := results_sound hr k2 hf5 (Q := fun v => Q (.ret v) m4) hq
          exact ⟨v, hv1, κ4, m4, _, (h1.trans g1).trans k1, k2, hv2, fun o ho => (k4 o ho).trans (ga o ho), hq⟩
      · rintro e u' w'' ⟨⟨x, rfl⟩, rfl, hw⟩
        exact hw

/-- The abstract function, of a function that recovers. -/
structure RecD where
  g : Nat
  wt : Nat
  rn : Nat
  pos : Nat
  i : Nat
  j : Nat
  t6 : Nat

def rcOf1 (G : Func) : Code :=
  match G.body with
  | some (.seq _ (.block _ (.seq _ (.cond _ _ (.seq _ (.cond _ c _)))))) => c
  | _ => .skip
def rcOf (P : Program) (g : Nat) : Code :=
  match P.funcs[g]? with
  | some G => rcOf1 G
  | none => .skip

def mkB (g i j t6 : Nat) (o : Oper) : Bool := match o.op with
  | .makeFunc (.func g') fst caps => g' == g && fst.size == 0 && (match caps.toList with | [.tmp a, .tmp b] => a == i && b == j | _ => false) && o.dst == some t6 && o.guard.isNone
  | _ => false
def dfB (t6 : Nat) (o : Oper) : Bool := match o.op with
  | .defer c => (match c.callee with | .value (.tmp a) => a == t6 | _ => false) && c.args.size == 0 && c.argTypes.size == 0 && o.dst.isNone && o.guard.isNone
  | _ => false

theorem mkB_ok {g i j t6 : Nat} {o : Oper} (h : mkB g i j t6 o = true) : mkOp g i j t6 o := by
  unfold mkB at h
  split at h
  · rename_i g' fst caps ho
    simp only [Bool.and_eq_true, beq_iff_eq, Array.size_eq_zero_iff] at h
    obtain ⟨⟨⟨⟨rfl, rfl⟩, hc⟩, hd⟩, hg⟩ := h
    split at hc
    · rename_i a b hl
      simp only [Bool.and_eq_true, beq_iff_eq] at hc
      obtain ⟨rfl, rfl⟩ := hc
      refine ⟨?_, hd, by simpa using hg⟩
      rw [ho, toList2 hl]
    · simp at hc
  · simp at h

theorem dfB_ok {t6 : Nat} {o : Oper} (h : dfB t6 o = true) : dfOp t6 o := by
  unfold dfB at h
  split at h
  · rename_i c ho
    simp only [Bool.and_eq_true, Array.size_eq_zero_iff, beq_iff_eq] at h
    obtain ⟨⟨⟨⟨hc, ha⟩, hat⟩, hd⟩, hg⟩ := h
    split at hc
    · rename_i a hcal
      simp only [beq_iff_eq] at hc; subst hc
      refine ⟨?_, by simpa using hd, by simpa using hg⟩
      rw [ho]; obtain ⟨cal, args, ats⟩ := c
      simp only at hcal ha hat; subst hcal ha hat; rfl
    · simp at hc
  · simp at h

def cRec (P : Program) (ng : Glob) (d : RecD) (f : Nat) : Option AFn :=
  match P.funcs[f]? with
  | none => none
  | some F => match F.body with
    | some (.seq c0 (.seq (.region _ ops false) rest)) => (match ops.toList with
      | [mk, df] => (match resOf P F.ntmps F.results.toList with
        | some res => if F.name != "runtime.NumGoroutine" && mkB d.g d.i d.j d.t6 mk && dfB d.t6 df && decide (d.i < F.ntmps) && decide (d.j < F.ntmps) && decide (d.t6 < F.ntmps) && d.i != d.t6 && d.j != d.t6 && freeC [d.i, d.j] rest && resIn d.i d.j res && bodied P d.g then
            some ⟨F.ntmps, res, cCode P ng F.ntmps rest, some ⟨cCode P ng F.ntmps c0, d.i, d.j, d.t6, d.wt, d.rn, d.pos, cCode P ng d.rn (rcOf P d.g)⟩⟩ else none
        | none => none)
      | _ => none)
    | _ => none

/-- A call of a function that recovers. -/
theorem ACalls.of_cRec {d : RecD} {f : Nat} {fn : AFn} (hfn : cRec P ng d f = some fn) (G : RecG P d.g d.wt d.rn d.pos (rcOf P d.g)) {r : Rcv} (hrc : fn.rcv = some r) {args : List AV} {m : Mem} {Q : ARet → Mem → Prop} (hl : args.length ≤ fn.n)
    (h : wpA (ACalls ng P) B r.pre (fun e fr1 m1 => e = .normal ∧
      wpA (ACalls ng P) B fn.code (recPost (ACalls ng P) B fn.res fn.n r.wt r.rn r.pos r.i r.j r.code (fr1 r.i) (fr1 r.j) Q) (upd fr1 r.t6 .junk) m1) (frOf args) m) :
    ACalls ng P B f args m Q := by
  unfold cRec at hfn
  split at hfn
  · simp at hfn
  · rename_i F hF
    split at hfn
    · rename_i c0 i1 ops rest hb
      split at hfn
      · rename_i mk df hops
        split at hfn
        · rename_i res hres
          split at hfn
          · rename_i hc
            simp only [Option.some.injEq] at hfn; subst hfn
            simp only [Option.some.injEq] at hrc; subst hrc
            simp only [Bool.and_eq_true, bne_iff_ne, ne_eq, decide_eq_true_eq] at hc
            obtain ⟨⟨⟨⟨⟨⟨⟨⟨⟨⟨h1, h2⟩, h3⟩, h4⟩, h5⟩, h6⟩, h7⟩, h8⟩, h9⟩, h10⟩, h11⟩ := hc
            rw [toList2 hops] at hb
            exact ACalls.of_rec hF hb h1 (mkB_ok h2) (dfB_ok h3) h4 h5 h6 h7 h8 h9 hres h10 h11 G hl h
          · simp at hfn
        · simp at hfn
      · simp at hfn
    · simp at hfn

theorem cRec_rcv {d : RecD} {f : Nat} {fn : AFn} (h : cRec P ng d f = some fn) : fn.rcv ≠ none := by
  unfold cRec at h
  split at h
  · simp at h
  · split at h
    · split at h
      · split at h
        · split at h
          · simp only [Option.some.injEq] at h; subst h; simp
          · simp at h
        · simp at h
      · simp at h
    · simp at h

/-- A table's function is the program's. -/
def FnOk (P : Program) (ng : Glob) (f : Nat) (a : AFn) : Prop := cFn P ng f = some a ∨ ∃ d : RecD, cRec P ng d f = some a ∧ RecG P d.g d.wt d.rn d.pos (rcOf P d.g)
end
end Go.X

/- One operation, as the model runs it, does what the abstract one says. -/
import Derived.Test.YtnieadkafeohlaaGreatDoorGoxDoes12
set_option linter.unusedVariables false
set_option linter.unusedSimpArgs false
namespace Go.X
section
variable {ng : Glob} {P : Program} {B : Nat → Prop} {κ : Kap} {m : Mem} {w : World}

/-- How a call ends, seen from where it began. -/
def EndV (ng : Glob) (B : Nat → Prop) (κ : Kap) (m : Mem) (w : World) (Q : ARet → Mem → Prop) : Ending → World → Prop
  | .returned v, w' => ∃ κ' m' av, Evo κ w κ' w' ∧ RelW ng κ' m' w' ∧ V κ' w' av v ∧ (∀ o, B o → m' o = m o) ∧ Q (.ret av) m'
  | .panicked c, w' => ∃ κ' m', Evo κ w κ' w' ∧ RelW ng κ' m' w' ∧ (∀ o, B o → m' o = m o) ∧ Q (.pan c) m'
  | .outgrown, _ => False

/-- A call of a function does what is said. -/
def ACalls (ng : Glob) (P : Program) : CallP := fun B f args m Q =>
  bodied P f = true ∧ ∀ κ w vs, RelW ng κ m w → VL κ w args vs → Has m B → Calls P f vs.toArray w (EndV ng B κ m w Q)

def OpDoes (ng : Glob) (P : Program) (B : Nat → Prop) (κ : Kap) (m : Mem) (w : World) (K : AV → Mem → Prop) (E : List PanicEntry → Mem → Prop) : Result Next → Prop
  | .ok (.value v) w' => ∃ κ' m' av, Evo κ w κ' w' ∧ RelW ng κ' m' w' ∧ V κ' w' av v ∧ K av m' ∧ ∀ o, B o → m' o = m o
  | .ok .skip w' => ∃ κ' m' av, Evo κ w κ' w' ∧ RelW ng κ' m' w' ∧ V κ' w' av undef ∧ K av m' ∧ ∀ o, B o → m' o = m o
  | .ok (.enter f args) w' => Evo κ w κ w' ∧ RelW ng κ m w' ∧ Calls P f args w' (EndV ng B κ m w' (back K E))
  | .halt (.panic v) w' => Evo κ w κ w' ∧ RelW ng κ m w' ∧ E [{ v, recovered := false }] m
  | _ => False

variable {K : AV → Mem → Prop} {E : List PanicEntry → Mem → Prop}

theorem OpDoes.ofV {s : Sem Value} {x : Sem Next} (hx : x = (do pure (.value (← s)))) (h : DoesV ng P B κ m w s K) : OpDoes ng P B κ m w K E (x.run P w) := by
  subst hx
  obtain ⟨v, w', κ', m', av, h1, h2, h3, h4, h5, h6⟩ := h
  simp only [Sem.run_bind, h1, Result.andThen_ok, Sem.run_pure]
  exact ⟨κ', m', av, h2, h3, h4, h5, h6⟩

theorem OpDoes.ofU {s : Sem Unit} {x : Sem Next} (hx : x = (do s; pure .skip)) (h : DoesU ng P B κ m w s (fun m' => K .junk m')) : OpDoes ng P B κ m w K E (x.run P w) := by
  subst hx
  obtain ⟨w', κ', m', h1, h2, h3, h4, h5⟩ := h
  simp only [Sem.run_bind, h1, Result.andThen_ok, Sem.run_pure]
  exact ⟨κ', m', .junk, h2, h3, .junk _, h4, h5⟩

theorem OpDoes.here (hw : RelW ng κ m w) {v : Value} {av : AV} (hv : V κ w av v) (hk : K av m) : OpDoes ng P B κ m w K E (.ok (.value v) w) :=
  ⟨κ, m, av, Evo.refl _ _, hw, hv, hk, fun _ _ => rfl⟩

theorem callFunc_sound (hw : RelW ng κ m w) (hB : Has m B) {f : FuncId} {args : List AV} {vs : List Value} (hv : VL κ w args vs) (h : ACalls ng P B f args m (back K E)) :
    OpDoes ng P B κ m w K E ((callFunc f vs.toArray).run P w) := by
  obtain ⟨hf, h⟩ := h
  unfold bodied at hf
  split at hf
  · rename_i fn hfn
    simp only [Bool.and_eq_true, bne_iff_ne, ne_eq] at hf
    have hn : fn.body.isNone = false := by cases hb : fn.body <;> simp [hb] at hf ⊢
    have hn2 : ¬ fn.body = none := by cases hb : fn.body <;> simp [hb] at hf ⊢
    have hr : (callFunc f vs.toArray).run P w = .ok (.enter f vs.toArray) w := by
      unfold callFunc
      simp [hfn, hn2, hf.2]
    rw [hr]
    exact ⟨Evo.refl _ _, hw, h κ w vs hw hv hB⟩
  · simp at hf

theorem cBin_sound (hw : RelW ng κ m w) (op : BinOp) (t : TypeId) (xo yo : Operand) {x y : Opd} {fr : Fr} {v u : Value} (hv : V κ w (x.ev fr) v) (hu : V κ w (y.ev fr) u)
    (h : stepI (ACalls ng P) B (cBin P ng op t x y) fr m K E) : DoesV ng P B κ m w (do eqGuard op t xo yo v u; binOp op t v u) K := by
  unfold cBin at h
  split at h
  · rename_i k hd
    cases ho : binI? op with
    | none => rw [ho] at h; exact h.elim
    | some o =>
      rw [ho] at h
      have : op = o.op := by cases op <;> simp [binI?] at ho <;> subst ho <;> rfl
      subst this
      exact binI_sound hw o k t xo yo hv hu h
  · rename_i hd
    cases ho : binS? op with
    | none => rw [ho] at h; exact h.elim
    | some o =>
      rw [ho] at h
      have : op = o.op := by cases op <;> simp [binS?] at ho <;> subst ho <;> rfl
      subst this
      exact binS_sound hw o t xo yo hv hu h
  · rename_i hd
    cases ho : negOf op with
    | none => rw [ho] at h; exact h.elim
    | some o =>
      rw [ho] at h
      have : op = (if o then .neq else .eql) := by cases op <;> simp [negOf] at ho <;> subst ho <;> rfl
      rw [this]
      exact binB_sound hw o hd xo yo hv hu h
  · exact binF_sound hw op xo yo hv hu h
  all_goals first
    | (rename_i hd
       cases ho : negOf op with
       | none => rw [ho] at h; exact h.elim
       | some o =>
         rw [ho] at h
         have : op = (if o then .neq else .eql) := by cases op <;> simp [negOf] at ho <;> subst ho <;> rfl
         rw [this]
         exact eqNil_sound hw o hd rfl xo yo hv hu h)
    | exact h.elim

theorem isU8_some {t : TypeId} (h : isU8 P t = true) : P.underlying t = some (.int .u8) := by
  unfold isU8 at h
  split at h
  · assumption
  · simp at h

theorem cConv_sound (hw : RelW ng κ m w) (src dst : TypeId) {x : Opd} {fr : Fr} {v : Value} (hv : V κ w (x.ev fr) v)
    (h : stepI (ACalls ng P) B (cConv P src dst x) fr m K E) : DoesV ng P B κ m w (convert src dst v) K := by
  unfold cConv at h
  split at h
  · rename_i hs hd; exact cvtI_sound hw hs hd hv h
  · rename_i hs hd; exact cvtF_sound hw hs hd hv h
  · rename_i hs hd; exact cvtSS_sound hw hs hd hv h
  · rename_i hs hd
    split at h
    · exact cvtSB_sound hw hs hd (isU8_some ‹_›) hv h
    · exact h.elim
  · rename_i e hs hd
    split at h
    · exact cvtBS_sound hw hs (isU8_some ‹_›) hd hv h
    · exact h.elim
  · rename_i e e2 hs hd
    split at h
    · rename_i hc
      simp only [Bool.and_eq_true, beq_iff_eq] at hc
      obtain ⟨rfl, hc⟩ := hc
      exact mark_sound hw hs (isU8_some hc) hv h
    · exact h.elim
  · exact h.elim

theorem list1 {l : List Operand} {y : Opd} {n : Nat} (h : cOpds ng n l = some [y]) : ∃ x, l = [x] ∧ cOpd ng n x = some y := by
  cases l with
  | nil => simp [cOpds] at h
  | cons a l =>
    unfold cOpds at h
    split at h
    · rename_i y' ys' h1 h2
      simp at h; obtain ⟨rfl, rfl⟩ := h
      cases l with
      | nil => exact ⟨a, rfl, h1⟩
      | cons b l =>
        unfold cOpds at h2
        split at h2 <;> simp at h2
    · simp at h

theorem list2 {l : List Operand} {y z : Opd} {n : Nat} (h : cOpds ng n l = some [y, z]) : ∃ a b, l = [a, b] ∧ cOpd ng n a = some y ∧ cOpd ng n b = some z := by
  cases l with
  | nil => simp [cOpds] at h
  | cons a l =>
    unfold cOpds at h
    split at h
    · rename_i y' ys' h1 h2
      simp at h; obtain ⟨rfl, rfl⟩ := h
      obtain ⟨b, rfl, h3⟩ := list1 h2
      exact ⟨a, b, rfl, h1, h3⟩
    · simp at h

theorem toList1 {α : Type} {l : Array α} {a : α} (h : l.toList = [a]) : l = #[a] := by
  cases l; simpa using h
theorem toList2 {α : Type} {l : Array α} {a b : α} (h : l.toList = [a, b]) : l = #[a, b] := by
  cases l; simpa using h

theorem map1 {a : Act} {q : Operand} : (#[q]).map a.eval = #[a.eval q] := by simp
theorem map2 {a : Act} {q r : Operand} : (#[q, r]).map a.eval = #[a.eval q, a.eval r] := by simp

theorem DoesV.junk {s : Sem Value} (h : DoesV ng P B κ m w s (fun _ m' => K .junk m')) : DoesV ng P B κ m w s K := by
  obtain ⟨v, w', κ', m', av, h1, h2, h3, h4, h5, h6⟩ := h
  exact ⟨v, w', κ', m', .junk, h1, h2, h3, .junk _, h5, h6⟩

theorem cBuiltin_sound (hw : RelW ng κ m w) (hB : Has m B) (b : Builtin) (ats : Array TypeId) (ty : TypeId) (cs : Array Bool) {args : Array Operand} {xs : List Opd} {n : Nat} (hx : cOpds ng n args.toList = some xs) {fr : Fr} {a : Act} (hf : RelF n κ w fr a)
    (h : stepI (ACalls ng P) B (cBuiltin P b ats.toList xs) fr m K E) : OpDoes ng P B κ m w K E ((builtin b ats ty cs (args.map a.eval)).run P w) := by
  unfold cBuiltin at h
  split at h
  · rename_i t x ht
    have ht := toList1 ht; subst ht
    obtain ⟨q, hq, hq1⟩ := list1 hx
    have hq := toList1 hq; subst hq
    rw [map1]
    have hv := opd_sound hq1 hw hf
    split at h
    · exact .ofV rfl (lenS_sound hw ‹_› hv h)
    · exact .ofV rfl (len_sound hw ‹_› hv h)
    · exact .ofV rfl (lenM_sound hw ‹_› hv h)
    · exact h.elim
  · rename_i st xt s x ht
    have ht := toList2 ht; subst ht
    obtain ⟨q, r, hq, hq1, hq2⟩ := list2 hx
    have hq := toList2 hq; subst hq
    rw [map2]
    have hv := opd_sound hq1 hw hf
    have hu := opd_sound hq2 hw hf
    split at h
    · rename_i e d hd hx2
      split at h
      · rename_i i z hi hz
        split at h
        · rename_i hc
          obtain ⟨i', z', hi', hz0, hzs, hzr, hzv, hzo⟩ := run_zeroOf hz
          rw [hi] at hi'; simp at hi'; subst hi'
          simp only [Bool.and_eq_true, decide_eq_true_eq] at hc
          refine .ofV rfl (app_sound hw hB hd ?_ hi hz0 hzs hc.1.2 hc.2 hv hu h)
          obtain ⟨⟨hc, _⟩, _⟩ := hc
          cases d <;> first | (simp [isRow] at hc; done) | exact Or.inl ⟨_, hx2⟩ | exact Or.inr hx2
        · exact h.elim
      · exact h.elim
    · exact h.elim
  · rename_i dt st d s ht
    have ht := toList2 ht; subst ht
    obtain ⟨q, r, hq, hq1, hq2⟩ := list2 hx
    have hq := toList2 hq; subst hq
    rw [map2]
    have hv := opd_sound hq1 hw hf
    have hu := opd_sound hq2 hw hf
    split at h
    · rename_i e hd
      split at h
      · rename_i sz hsz
        obtain ⟨i, hi, rfl⟩ := szOf_some hsz
        exact .ofV rfl (copy_sound hw hd hi hv hu h)
      · exact h.elim
    · exact h.elim
  · rename_i t k2 x k ht
    have ht := toList2 ht; subst ht
    obtain ⟨q, r, hq, hq1, hq2⟩ := list2 hx
    have hq := toList2 hq; subst hq
    rw [map2]
    have hv := opd_sound hq1 hw hf
    have hu := opd_sound hq2 hw hf
    split at h
    · rename_i kt et hd
      split at h
      · rename_i ik hik
        obtain ⟨dk, hdk, hkd⟩ := keyK_some hik
        exact .ofV rfl (del_sound hw hd hdk hkd hv hu (K := fun m' => K .junk m') h).junk
      · exact h.elim
    · exact h.elim
  · rename_i t x ht
    have ht := toList1 ht; subst ht
    obtain ⟨q, hq, hq1⟩ := list1 hx
    have hq := toList1 hq; subst hq
    rw [map1]
    have hv := opd_sound hq1 hw hf
    split at h
    · rename_i e hd
      split at h
      · rename_i sz zero hsz hz
        obtain ⟨i, z, hi, hz0, hzs, hzr, hzv, hzo⟩ := run_zeroOf hz
        obtain ⟨i', hi', rfl⟩ := szOf_some hsz
        rw [hi] at hi'; simp at hi'; subst hi'
        exact .ofV rfl (clear_sound hw hd hi (hzr _) (hzv _ _) hzo hzs hv (K := fun m' => K .junk m') h).junk
      · exact h.elim
    · exact h.elim
  · obtain ⟨q, r, hq, hq1, hq2⟩ := list2 hx
    have hq := toList2 hq; subst hq
    rw [map2]
    exact .ofV rfl (max_sound hw _ _ (opd_sound hq1 hw hf) (opd_sound hq2 hw hf) h)
  · obtain ⟨q, r, hq, hq1, hq2⟩ := list2 hx
    have hq := toList2 hq; subst hq
    rw [map2]
    exact .ofV rfl (min_sound hw _ _ (opd_sound hq1 hw hf) (opd_sound hq2 hw hf) h)
  · exact h.elim

theorem arr_map {a : Act} {args : Array Operand} : args.map a.eval = (args.toList.map a.eval).toArray := by cases args; simp

theorem ext_tables : Extern.allNextRows.lookup "math.Float64bits" = none ∧ Extern.allNextRows.lookup "math.Float64frombits" = none ∧ Extern.allNextRows.lookup "" = none := ⟨rfl, rfl, rfl⟩
theorem ext_f64bits {fn : Func} (hn : fn.name = "math.Float64bits") (ho : fn.origin = "") : Extern.findNext fn = none ∧ Extern.find fn = some Extern.MathFloatBits.float64bits := by
  constructor
  · simp only [Extern.findNext, hn, ho, ext_tables]; rfl
  · unfold Extern.find
    rw [hn]
    rfl
theorem ext_f64from {fn : Func} (hn : fn.name = "math.Float64frombits") (ho : fn.origin = "") : Extern.findNext fn = none ∧ Extern.find fn = some Extern.MathFloatBits.float64frombits := by
  constructor
  · simp only [Extern.findNext, hn, ho, ext_tables]; rfl
  · unfold Extern.find
    rw [hn]
    rfl

theorem extName_some {f : FuncId} {name : String} (h : extName P f = some name) : ∃ fn, P.funcs[f]? = some fn ∧ fn.body.isNone = true ∧ fn.origin = "" ∧ fn.name = name := by
  unfold extName at h
  split at h
  · rename_i fn hfn
    split at h
    · rename_i hc
      simp only [Bool.and_eq_true, beq_iff_eq] at hc
      simp at h
      exact ⟨fn, hfn, hc.1, hc.2, h⟩
    · simp at h
  · simp at h

theorem run_ext {f : FuncId} {fn : Func} {e : Array Value → Sem Value} (hf : P.funcs[f]? = some fn) (hname : (fn.name == "runtime.NumGoroutine") = false) (hb : fn.body.isNone = true) (hn : Extern.findNext fn = none) (he : Extern.find fn = some e) (args : Array Value) (w : World) :
    (callFunc f args).run P w = ((e args).run P w).andThen fun v w' => .ok (.value v) w' := by
  have h1 : fn.name ≠ "runtime.NumGoroutine" := by simpa using hname
  have h2 : fn.body = none := by simpa using hb
  simp [callFunc, hf, h1, h2, hn, he, mark, Sem.run]

theorem cExt_sound (hw : RelW ng κ m w) (hB : Has m B) {f : FuncId} {name : String} (hn : extName P f = some name) {xs : List Opd} {fr : Fr} {vs : List Value} (hv : VL κ w (xs.map (·.ev fr)) vs)
    (h : stepI (ACalls ng P) B (cExt name f xs) fr m K E) : OpDoes ng P B κ m w K E ((callFunc f vs.toArray).run P w) := by
  obtain ⟨fn, hfn, hb, ho, hname⟩ := extName_some hn
  unfold cExt at h
  split at h
  · rename_i h1
    have hname1 := hname.trans h1
    split at h
    · rename_i x
      obtain ⟨e1, e2⟩ := ext_f64bits hname1 ho
      rw [run_ext hfn (by rw [hname1]; rfl) hb e1 e2]
      obtain ⟨v, vs', rfl, hx, hvs⟩ := hv.inv_cons
      have := hvs.inv_nil; subst this
      simp only [stepI, sF64bits] at h
      split at h
      · rename_i b hxb
        simp only [hxb] at hx
        have := hx.f64_inv; subst this
        exact .here hw (.int _ _) h
      · exact h.elim
    · exact h.elim
  · split at h
    · rename_i h1
      have hname1 := hname.trans h1
      split at h
      · rename_i x
        obtain ⟨e1, e2⟩ := ext_f64from hname1 ho
        rw [run_ext hfn (by rw [hname1]; rfl) hb e1 e2]
        obtain ⟨v, vs', rfl, hx, hvs⟩ := hv.inv_cons
        have := hvs.inv_nil; subst this
        simp only [stepI, sF64from] at h
        split at h
        · rename_i b hxb
          simp only [hxb] at hx
          have := hx.int_inv; subst this
          exact .here hw (.f64 _) h.2
        · exact h.elim
      · exact h.elim
    · exact callFunc_sound hw hB hv h

theorem cCall_sound (hw : RelW ng κ m w) (hB : Has m B) (c : Call) (ty : TypeId) {n : Nat} {fr : Fr} {a : Act} (hf : RelF n κ w fr a)
    (h : stepI (ACalls ng P) B (cCall P ng n c) fr m K E) : OpDoes ng P B κ m w K E ((do let d ← resolve a.eval c ty; invoke d.target d.args : Sem Next).run P w) := by
  unfold cCall at h
  split at h
  · exact h.elim
  · rename_i xs hx
    have hvl := opds_sound hw hf hx
    split at h
    · rename_i b hc
      have : ∃ cs, (do let d ← resolve a.eval c ty; invoke d.target d.args : Sem Next).run P w = (builtin b c.argTypes ty cs (c.args.map a.eval)).run P w :=
        ⟨_, by simp only [resolve, hc, Sem.run_bind, Sem.run_pure, Result.andThen_ok, invoke]; rfl⟩
      obtain ⟨cs, this⟩ := this
      rw [this]
      exact cBuiltin_sound hw hB b c.argTypes ty _ hx hf h
    · rename_i f hc
      have : (do let d ← resolve a.eval c ty; invoke d.target d.args : Sem Next).run P w = (callFunc f (c.args.toList.map a.eval).toArray).run P w := by
        simp only [resolve, hc, Sem.run_bind, Sem.run_pure, Result.andThen_ok, invoke, Act.eval, Deferred.ofValue]
        rw [arr_map]; simp
      rw [this]
      split at h
      · exact cExt_sound hw hB ‹_› hvl h
      · exact callFunc_sound hw hB hvl h
    · rename_i f hne hc
      split at h
      · rename_i y hy
        have hv := opd_sound hy hw hf
        simp only [stepI, sCallv] at h
        split at h
        · rename_i g fst caps hg
          rw [hg] at hv
          generalize hu : a.eval f = u at hv
          cases hv with
          | fn _ _ _ us vs h1 h2 h3 h4 =>
            have : (do let d ← resolve a.eval c ty; invoke d.target d.args : Sem Next).run P w = (callFunc g (us ++ c.args.toList.map a.eval ++ vs).toArray).run P w := by
              simp only [resolve, hc, Sem.run_bind, Sem.run_pure, Result.andThen_ok, invoke, hu, Deferred.ofValue]
              rw [arr_map]; simp
            rw [this]
            have hl1 : VL κ w fst us := ⟨h1, h2⟩
            have hl2 : VL κ w caps vs := ⟨h3, h4⟩
            exact callFunc_sound hw hB ((hl1.append hvl).append hl2) h
        · exact h.elim
      · exact h.elim
    · exact h.elim

theorem VO.none_of {lo : Option AV} {lo' : Option Value} (h : VO κ w lo lo') (hn : lo.isSome = false) : lo' = none := by
  cases lo <;> cases lo' <;> simp_all [VO]

theorem nilchk_sound (hw : RelW ng κ m w) {x : AV} {v : Value} (hv : V κ w x v) (h : sNilchk x fun z => K z m) (ao : Oper) (a : Act) (xo : Operand) (ho : ao.op = .nilCheck xo) (he : a.eval xo = v) :
    OpDoes ng P B κ m w K E ((execOp a.eval ao).run P w) := by
  unfold sNilchk at h
  unfold execOp
  simp only [ho, he]
  split at h
  · cases hv with
    | ptr o off b base hr => exact .here hw (.ptr _ _ _ _ hr) h
  · obtain ⟨A, rfl⟩ : ∃ A, v = .pointer (some A) := by
      generalize hx : AV.sptr _ _ = z at hv
      cases hv <;> simp at hx
      exact ⟨_, rfl⟩
    exact .here hw hv h
  · obtain ⟨g, p, q, rfl⟩ : ∃ g p q, v = .func (.func g) p q := by
      generalize hx : AV.fn _ _ _ = z at hv
      cases hv <;> simp at hx
      exact ⟨_, _, _, rfl⟩
    exact .here hw hv h
  · exact h.elim

theorem cI_sound (hw : RelW ng κ m w) (hB : Has m B) (o : Oper) {n : Nat} {fr : Fr} {a : Act} (hf : RelF n κ w fr a)
    (h : stepI (ACalls ng P) B (cI P ng n o.op) fr m K E) : OpDoes ng P B κ m w K E ((execOp a.eval o).run P w) := by
  generalize ho : o.op = op at h
  cases op
  case move x =>
    simp only [cI, cT, oneC, twoC] at h
    split at h
    · rename_i y hy
      unfold execOp; simp only [ho]
      exact .here hw (opd_sound hy hw hf) h
    · exact h.elim
  case assign x =>
    simp only [cI, cT, oneC, twoC] at h
    split at h
    · rename_i y hy
      unfold execOp; simp only [ho]
      exact .here hw (opd_sound hy hw hf) h
    · exact h.elim
  case pick c x y =>
    simp only [cI, cT, oneC, twoC] at h
    split at h
    · rename_i c' hc
      split at h
      · rename_i x' y' hx hy
        unfold execOp; simp only [ho]
        have := pick_sound (P := P) (B := B) hw (opd_sound hc hw hf) (opd_sound hx hw hf) (opd_sound hy hw hf) h
        exact .ofV (by simp) this
      · exact h.elim
    · exact h.elim
  case alloc t =>
    simp only [cI, cT, oneC, twoC] at h
    split at h
    · rename_i zero hz
      obtain ⟨i, z, hi, hz0, hzs, hzr, hzv, hzo⟩ := run_zeroOf hz
      unfold execOp; simp only [ho]
      exact .ofV rfl (alloc_sound hw hB (hzr _) (hzv _ _) hzo h)
    · exact h.elim
  case box t x =>
    simp only [cI, cT, oneC, twoC] at h
    split at h
    · rename_i y hy
      unfold execOp; simp only [ho]
      exact .ofV rfl (box_sound hw hB t (opd_sound hy hw hf) h.1 h.2)
    · exact h.elim
  case build t parts =>
    simp only [cI, cT, oneC, twoC, cBuild] at h
    unfold execOp; simp only [ho]
    split at h
    · rename_i zero fs hz hd
      split at h
      · rename_i places hp
        split at h
        · rename_i ps hps
          exact .ofV rfl (build_struct_sound hw hf hd hz hp hps h)
        · exact h.elim
      · exact h.elim
    · rename_i zero len e hz hd
      split at h
      · rename_i sz hs
        split at h
        · rename_i ps hps
          exact .ofV rfl (build_array_sound hw hf hd hz hs hps h)
        · exact h.elim
      · exact h.elim
    · exact h.elim
  case buildSlice t len parts =>
    simp only [cI, cT, oneC, twoC, cBSlice] at h
    unfold execOp; simp only [ho]
    split at h
    · rename_i e hd
      split at h
      · rename_i sz zero hs hz
        obtain ⟨i, z, hi, hz0, hzs, hzr, hzv, hzo⟩ := run_zeroOf hz
        obtain ⟨i', hi', rfl⟩ := szOf_some hs
        rw [hi] at hi'; simp at hi'; subst hi'
        split at h
        · rename_i hlen
          split at h
          · rename_i ps hps
            exact .ofV rfl (bslice_sound hw hB hf hd hi (hzr _) (hzv _ _) hzo hzs hlen hps h)
          · exact h.elim
        · exact h.elim
      · exact h.elim
    · exact h.elim
  case load t x =>
    simp only [cI, cT, oneC, twoC] at h
    unfold execOp; simp only [ho]
    split at h
    · rename_i y hy
      split at h
      · rename_i d sz hd hs
        obtain ⟨i, hi, rfl⟩ := szOf_some hs
        cases hag : isAggD d with
        | true => rw [hag] at h; exact .ofV rfl (loadA_sound hw hd hag hi (opd_sound hy hw hf) h)
        | false => rw [hag] at h; exact .ofV rfl (load_sound hw hd hag (opd_sound hy hw hf) h)
      · exact h.elim
    · exact h.elim
  case store t x y =>
    simp only [cI, cT, oneC, twoC] at h
    unfold execOp; simp only [ho]
    split at h
    · rename_i x' y' hx hy
      split at h
      · rename_i sz hs
        obtain ⟨i, hi, rfl⟩ := szOf_some hs
        exact .ofU rfl (store_sound hw hi (opd_sound hx hw hf) (opd_sound hy hw hf) h)
      · exact h.elim
    · exact h.elim
  case nilCheck x =>
    simp only [cI, cT, oneC, twoC] at h
    split at h
    · rename_i y hy
      exact nilchk_sound hw (opd_sound hy hw hf) h o a x ho rfl
    · exact h.elim
  case binOp op t x y t2 =>
    simp only [cI, cT, oneC, twoC] at h
    unfold execOp; simp only [ho]
    split at h
    · rename_i x' y' hx hy
      exact .ofV rfl (cBin_sound hw op t x y (opd_sound hx hw hf) (opd_sound hy hw hf) h)
    · exact h.elim
  case convert src dst x =>
    simp only [cI, cT, oneC, twoC] at h
    unfold execOp; simp only [ho]
    split at h
    · rename_i y hy
      exact .ofV rfl (cConv_sound hw src dst (opd_sound hy hw hf) h)
    · exact h.elim
  case makeInterface t x =>
    simp only [cI, cT, oneC, twoC] at h
    unfold execOp; simp only [ho]
    split at h
    · rename_i y hy
      split at h
      · exact h.elim
      · rename_i d hni hd
        refine .ofV rfl (DoesV.here hw (v := .iface t (a.eval x)) ?_ (.ifc t _ _ (opd_sound hy hw hf)) h)
        simp only [Instr.makeInterface, Sem.run_bind, run_underlying' hd, Result.andThen_ok, Sem.run_pure]
      · exact h.elim
    · exact h.elim
  case call c =>
    simp only [cI, cT, oneC, twoC] at h
    unfold execOp; simp only [ho]
    exact cCall_sound hw hB c _ hf h
  case extract t i =>
    simp only [cI, cT, oneC, twoC] at h
    unfold execOp; simp only [ho]
    split at h
    · rename_i y hy
      exact .ofV rfl (extract_sound hw (opd_sound hy hw hf) h)
    · exact h.elim
  case unOp op t x =>
    unfold execOp; simp only [ho]
    cases op <;> simp only [cI, cT, oneC, twoC] at h
    case neg =>
      split at h
      · rename_i y hy
        split at h
        · exact .ofV rfl (neg_sound hw _ (opd_sound hy hw hf) h)
        · exact h.elim
      · exact h.elim
    case xor =>
      split at h
      · rename_i y hy
        split at h
        · exact .ofV rfl (compl_sound hw _ (opd_sound hy hw hf) h)
        · exact h.elim
      · exact h.elim
    case not =>
      split at h
      · rename_i y hy
        exact .ofV rfl (not_sound hw (opd_sound hy hw hf) h)
      · exact h.elim
    all_goals exact h.elim
  case makeFunc f first captured =>
    unfold execOp; simp only [ho]
    cases f <;> simp only [cI, cT, oneC, twoC] at h
    case func f =>
      split at h
      · rename_i p q hp hq
        have h1 := opds_sound hw hf hp
        have h2 := opds_sound hw hf hq
        refine .ofV rfl (DoesV.here hw (v := .func (.func f) (first.toList.map a.eval).toArray (captured.toList.map a.eval).toArray) ?_ (.fn f _ _ _ _ h1.1 h1.2 h2.1 h2.2) h)
        rw [arr_map, arr_map]; rfl
      · exact h.elim
    all_goals exact h.elim
  case makeMap t r =>
    unfold execOp; simp only [ho]
    cases r <;> simp only [cI, cT, oneC, twoC] at h
    case none =>
      split at h
      · split at h
        · exact .ofV rfl (mkmap_sound hw hB t _ h)
        · exact h.elim
      · exact h.elim
    case some => exact h.elim
  case makeSlice t l c =>
    simp only [cI, cT, oneC, twoC] at h
    unfold execOp; simp only [ho]
    split at h
    · rename_i l' c' hl hc
      split at h
      · rename_i e hd
        split at h
        · rename_i i zero hi hz
          obtain ⟨i', z, hi', hz0, hzs, hzr, hzv, hzo⟩ := run_zeroOf hz
          rw [hi] at hi'; simp at hi'; subst hi'
          split at h
          · rename_i hb
            exact .ofV rfl (mkslice_sound hw hB hd hi hzr (hzv _ _) hzo hzs hb (opd_sound hl hw hf) (opd_sound hc hw hf) h)
          · exact h.elim
        · exact h.elim
      · exact h.elim
    · exact h.elim
  case slice t x lo hi mx =>
    simp only [cI, cT, oneC, twoC] at h
    unfold execOp; simp only [ho]
    split at h
    · rename_i x' hx
      split at h
      · rename_i lo' hi' mx' hl hh hm
        have hl := opt_sound hw hf hl
        have hh := opt_sound hw hf hh
        have hm := opt_sound hw hf hm
        split at h
        · rename_i hd
          split at h
          · exact h.elim
          · rename_i hmx
            have : mx.map a.eval = none := hm.none_of (by simpa using hmx)
            rw [this]
            exact .ofV rfl (sliceS_sound hw hd (opd_sound hx hw hf) hl hh h)
        · rename_i e hd
          split at h
          · rename_i sz hs
            obtain ⟨i, hi, rfl⟩ := szOf_some hs
            exact .ofV rfl (slice_sound hw hd hi (opd_sound hx hw hf) hl hh hm h)
          · exact h.elim
        · rename_i len e hd
          split at h
          · exact h.elim
          · rename_i hmx
            have : mx.map a.eval = none := hm.none_of (by simpa using hmx)
            rw [this]
            split at h
            · rename_i sz hs
              obtain ⟨i, hi, rfl⟩ := szOf_some hs
              exact .ofV rfl (sliceA_sound hw hd hi (opd_sound hx hw hf) hl hh h)
            · exact h.elim
        · exact h.elim
      · exact h.elim
    · exact h.elim
  case fieldAddr t x f =>
    simp only [cI, cT, oneC, twoC] at h
    unfold execOp; simp only [ho]
    split at h
    · rename_i y hy
      split at h
      · rename_i fs hd
        split at h
        · rename_i fd hfd
          split at h
          · rename_i sz hs
            obtain ⟨i, hi, rfl⟩ := szOf_some hs
            split at h
            · exact h.elim
            · rename_i hz
              exact .ofV rfl (fieldAddr_sound hw hd hfd hi hz (opd_sound hy hw hf) h)
          · exact h.elim
        · exact h.elim
      · exact h.elim
    · exact h.elim
  case field t x f =>
    simp only [cI, cT, oneC, twoC] at h
    unfold execOp; simp only [ho]
    split at h
    · rename_i y hy
      split at h
      · rename_i fs hd
        split at h
        · rename_i fd hfd
          split at h
          · rename_i d sz hdd hs
            obtain ⟨i, hi, rfl⟩ := szOf_some hs
            exact .ofV rfl (field_sound hw hd hfd hdd hi (opd_sound hy hw hf) h)
          · exact h.elim
        · exact h.elim
      · exact h.elim
    · exact h.elim
  case indexAddr t x i =>
    simp only [cI, cT, oneC, twoC] at h
    unfold execOp; simp only [ho]
    split at h
    · rename_i x' i' hx hi
      split at h
      · rename_i e hd
        split at h
        · rename_i sz hs
          obtain ⟨ie, hie, rfl⟩ := szOf_some hs
          exact .ofV rfl (idxS_sound hw hd hie (opd_sound hx hw hf) (opd_sound hi hw hf) h)
        · exact h.elim
      · rename_i len e hd
        split at h
        · rename_i sz hs
          obtain ⟨ie, hie, rfl⟩ := szOf_some hs
          exact .ofV rfl (idxA_sound hw hd hie (opd_sound hx hw hf) (opd_sound hi hw hf) h)
        · exact h.elim
      · exact h.elim
    · exact h.elim
  case index t x i =>
    simp only [cI, cT, oneC, twoC] at h
    unfold execOp; simp only [ho]
    split at h
    · rename_i x' i' hx hi
      split at h
      · rename_i hd
        exact .ofV rfl (indexS_sound hw hd (opd_sound hx hw hf) (opd_sound hi hw hf) h)
      · rename_i len e hd
        split at h
        · rename_i d sz hdd hs
          obtain ⟨ie, hie, rfl⟩ := szOf_some hs
          exact .ofV rfl (index_sound hw hd hdd hie (opd_sound hx hw hf) (opd_sound hi hw hf) h)
        · exact h.elim
      · exact h.elim
    · exact h.elim
  case lookup t x k ok =>
    simp only [cI, cT, oneC, twoC] at h
    unfold execOp; simp only [ho]
    split at h
    · rename_i x' k' hx hk
      split at h
      · rename_i kt et hd
        split at h
        · rename_i ik z hik hz
          obtain ⟨dk, hdk, hkd⟩ := keyK_some hik
          obtain ⟨zv, hzr, hzv⟩ := run_zero1 hz
          exact .ofV rfl (lookup_sound hw hd hdk hkd (hzr _) (hzv _ _) ok (opd_sound hx hw hf) (opd_sound hk hw hf) h)
        · exact h.elim
      · exact h.elim
    · exact h.elim
  case mapUpdate t x k v =>
    simp only [cI, cT, oneC, twoC] at h
    unfold execOp; simp only [ho]
    split at h
    · rename_i x' k' hx hk
      split at h
      · rename_i v' hv
        split at h
        · rename_i kt et hd
          split at h
          · rename_i ik hik
            obtain ⟨dk, hdk, hkd⟩ := keyK_some hik
            exact .ofU rfl (mupd_sound hw hd hdk hkd (opd_sound hx hw hf) (opd_sound hk hw hf) (opd_sound hv hw hf) h)
          · exact h.elim
        · exact h.elim
      · exact h.elim
    · exact h.elim
  case panic x =>
    simp only [cI, cT, oneC, twoC] at h
    unfold execOp; simp only [ho]
    split at h
    · rename_i y hy
      have hv := opd_sound hy hw hf
      simp only [stepI, sPanic] at h
      split at h
      · rename_i t hg
        rw [hg] at hv
        generalize hu : a.eval x = u at hv
        cases hv with
        | ifc _ _ v hv =>
          cases hv with
          | agg _ vs h1 h2 =>
            have : vs = [] := List.eq_nil_of_length_eq_zero (by simpa using h1.symm)
            subst this
            exact ⟨Evo.refl _ _, hw, h⟩
      · exact h.elim
    · exact h.elim
  all_goals exact h.elim

end
end Go.X

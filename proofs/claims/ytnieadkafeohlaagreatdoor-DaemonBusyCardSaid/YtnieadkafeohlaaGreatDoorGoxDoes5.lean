/- The operations that only compute or read: numbers turned, maps asked, lengths. -/
import Derived.Test.YtnieadkafeohlaaGreatDoorGoxDoes4
set_option linter.unusedVariables false
set_option linter.unusedSimpArgs false
namespace Go.X
section
variable {ng : Glob} {P : Program} {B : Nat → Prop} {κ : Kap} {m : Mem} {w : World}

theorem neg_sound (hw : RelW ng κ m w) (k : IntKind) {x : AV} {v : Value} (hv : V κ w x v) {K : AV → Mem → Prop} (h : sNeg k x (fun z => K z m)) : DoesV ng P B κ m w (Op.unary .neg v) K := by
  unfold sNeg at h
  split at h
  · obtain ⟨rfl, h⟩ := h
    cases hv
    exact DoesV.here hw (by simp only [Op.unary]; rfl) (.int _ _) (fitK_run h)
  · exact h.elim

theorem compl_sound (hw : RelW ng κ m w) (k : IntKind) {x : AV} {v : Value} (hv : V κ w x v) {K : AV → Mem → Prop} (h : sCompl k x (fun z => K z m)) : DoesV ng P B κ m w (Op.unary .xor v) K := by
  unfold sCompl at h
  split at h
  · obtain ⟨rfl, h⟩ := h
    cases hv
    exact DoesV.here hw (by simp only [Op.unary]; rfl) (.int _ _) h
  · exact h.elim

theorem not_sound (hw : RelW ng κ m w) {x : AV} {v : Value} (hv : V κ w x v) {K : AV → Mem → Prop} (h : sNot x (fun z => K z m)) : DoesV ng P B κ m w (Op.unary .not v) K := by
  unfold sNot at h
  split at h
  · cases hv
    exact DoesV.here hw (by simp only [Op.unary]; rfl) (.bool _) h
  · exact h.elim

theorem cvtI_sound (hw : RelW ng κ m w) {src dst : TypeId} {k : IntKind} {ds : TypeDesc} (hs : P.underlying src = some ds) (hd : P.underlying dst = some (.int k)) {x : AV} {v : Value} (hv : V κ w x v) {K : AV → Mem → Prop}
    (h : sCvtI k x (fun z => K z m)) : DoesV ng P B κ m w (convert src dst v) K := by
  unfold sCvtI at h
  split at h
  · cases hv
    refine DoesV.here hw ?_ (.int _ _) h
    simp only [convert, Sem.run_bind, run_underlying' hs, run_underlying' hd, Result.andThen_ok, Conv.intToInt, Sem.run_pure]
  · exact h.elim

theorem cvtF_sound (hw : RelW ng κ m w) {src dst : TypeId} {ds : TypeDesc} (hs : P.underlying src = some ds) (hd : P.underlying dst = some (.float .f64)) {x : AV} {v : Value} (hv : V κ w x v) {K : AV → Mem → Prop}
    (h : sCvtF x (fun z => K z m)) : DoesV ng P B κ m w (convert src dst v) K := by
  unfold sCvtF at h
  split at h
  · cases hv
    refine DoesV.here hw ?_ (.f64 _) h
    simp only [convert, Sem.run_bind, run_underlying' hs, run_underlying' hd, Result.andThen_ok, Conv.intToFloat, Sem.run_pure]
  · exact h.elim

theorem cvtSS_sound (hw : RelW ng κ m w) {src dst : TypeId} (hs : P.underlying src = some .string) (hd : P.underlying dst = some .string) {x : AV} {v : Value} (hv : V κ w x v) {K : AV → Mem → Prop}
    (h : sCvtSS x (fun z => K z m)) : DoesV ng P B κ m w (convert src dst v) K := by
  unfold sCvtSS at h
  split at h
  · cases hv
    refine DoesV.here hw ?_ (.str _) h
    simp only [convert, Sem.run_bind, run_underlying' hs, run_underlying' hd, Result.andThen_ok, Sem.run_pure]
  · exact h.elim

theorem max_sound (hw : RelW ng κ m w) (ts : Array TypeId) (t : TypeId) {x y : AV} {v u : Value} (hv : V κ w x v) (hu : V κ w y u) {K : AV → Mem → Prop} (h : sMax x y (fun z => K z m)) : DoesV ng P B κ m w (Builtin.max_ ts t #[v, u]) K := by
  unfold sMax at h
  split at h
  · cases hv; cases hu
    exact DoesV.here hw (by simp [Builtin.max_, Builtin.max2]) (.int _ _) h
  · exact h.elim
theorem min_sound (hw : RelW ng κ m w) (ts : Array TypeId) (t : TypeId) {x y : AV} {v u : Value} (hv : V κ w x v) (hu : V κ w y u) {K : AV → Mem → Prop} (h : sMin x y (fun z => K z m)) : DoesV ng P B κ m w (Builtin.min_ ts t #[v, u]) K := by
  unfold sMin at h
  split at h
  · cases hv; cases hu
    exact DoesV.here hw (by simp [Builtin.min_, Builtin.min2]) (.int _ _) h
  · exact h.elim

theorem lenS_sound (hw : RelW ng κ m w) {t ty : TypeId} (hd : P.underlying t = some .string) {x : AV} {v : Value} (hv : V κ w x v) {K : AV → Mem → Prop}
    (h : sLenS x (fun z => K z m)) : DoesV ng P B κ m w (Builtin.len_ #[t] ty #[v]) K := by
  unfold sLenS at h
  split at h
  · cases hv
    refine DoesV.here hw ?_ (.int _ _) h
    have hsz : (⟨(‹List UInt8›).toArray⟩ : ByteArray).size = (‹List UInt8›).length := by simp [ByteArray.size]
    simp [Builtin.len_, run_underlying' hd, goInt, hsz]
  · exact h.elim

theorem len_sound (hw : RelW ng κ m w) {t ty e : TypeId} (hd : P.underlying t = some (.slice e)) {x : AV} {v : Value} (hv : V κ w x v) {K : AV → Mem → Prop}
    (h : sLen x (fun z => K z m)) : DoesV ng P B κ m w (Builtin.len_ #[t] ty #[v]) K := by
  unfold sLen at h
  split at h
  · cases hv
    · exact DoesV.here hw (by simp [Builtin.len_, run_underlying' hd, goInt]) (.int _ _) h
    · exact DoesV.here hw (by simp [Builtin.len_, run_underlying' hd, goInt]) (.int _ _) h
  · cases hv
    exact DoesV.here hw (by simp [Builtin.len_, run_underlying' hd, goInt]) (.int _ _) h
  · exact h.elim

theorem run_getObj {b : Nat} {O : Obj} (h : w.heap[b]? = some O) (hc : ∀ c e f, O ≠ .cells c e f) : (getObj b).run P w = .ok O w := by
  cases O <;> first | (exact absurd rfl (hc _ _ _)) | simp [getObj, Sem.run, h]

theorem RelW.map_at (hw : RelW ng κ m w) {o : Nat} {ik : Option IntKind} {es : List (Key × AV × Nat)} {clk : Nat} {v : Value} (hv : V κ w (.mp o) v) (hm : m o = some (.map ik es clk)) :
    ∃ b base ents, v = .map (some b) ∧ κ.ρ o = some (b, base) ∧ w.heap[b]? = some (.map ents clk) ∧ VL κ w (es.map fun e => e.1.av ik) (ents.toList.map (·.key)) ∧ VL κ w (es.map (·.2.1)) (ents.toList.map (·.val)) ∧ es.map (·.2.2) = ents.toList.map (·.born) ∧ (∀ e ∈ es, e.1.ok ik = true) ∧ base = 0 ∧ ¬ κ.ret b := by
  cases hv with
  | mp _ b base hr =>
    obtain ⟨b1, base1, hr1, hx, hn⟩ := hw.obj _ _ hm
    rw [hr] at hr1; simp at hr1; obtain ⟨rfl, rfl⟩ := hr1
    obtain ⟨h0, ents, hc, hk, hvl, hb, hok⟩ := hx
    exact ⟨b, base, ents, rfl, hr, hc, hk, hvl, hb, hok, h0, hn⟩

theorem lenM_sound (hw : RelW ng κ m w) {t ty a b : TypeId} (hd : P.underlying t = some (.map a b)) {x : AV} {v : Value} (hv : V κ w x v) {K : AV → Mem → Prop} (h : sLenM m x (fun z => K z m)) : DoesV ng P B κ m w (Builtin.len_ #[t] ty #[v]) K := by
  unfold sLenM at h
  split at h
  · cases hv
    exact DoesV.here hw (by simp [Builtin.len_, run_underlying' hd, goInt]) (.int _ _) h
  · split at h
    · rename_i hm
      obtain ⟨b, base, ents, rfl, hr, hc, hk, hvl, hb, _⟩ := hw.map_at hv hm
      have hlen := hk.1
      simp at hlen
      refine DoesV.here hw (v := .int .i64 ents.size) ?_ (by rw [← hlen]; exact .int _ _) h
      simp [Builtin.len_, run_underlying' hd, goInt, run_getObj hc (by simp)]
    · exact h.elim
  · exact h.elim

/-- Which kinds of keys are served. -/
def keyD : Option IntKind → TypeDesc → Bool
  | none, .string => true
  | some k, .int k' => k == k'
  | _, _ => false

theorem beq_bytes (a b : List UInt8) : ((⟨a.toArray⟩ : ByteArray) == ⟨b.toArray⟩) = decide (a = b) := by
  show (a.toArray == b.toArray) = decide (a = b)
  by_cases h : a = b <;> simp [h]

theorem sameNow_sound {ik : Option IntKind} {d : TypeDesc} (hd : keyD ik d = true) {k e : Key} (hk : k.ok ik = true) (he : e.ok ik = true) {v u : Value} (hv : V κ w (k.av ik) v) (hu : V κ w (e.av ik) u) : Instr.sameNow d v u = some (decide (k = e)) := by
  cases ik with
  | none =>
    cases d <;> simp [keyD] at hd
    cases k <;> simp [Key.ok] at hk
    cases e <;> simp [Key.ok] at he
    cases hv; cases hu
    simp [Instr.sameNow, beq_bytes]
  | some q =>
    cases d <;> simp [keyD] at hd
    subst hd
    cases k <;> simp [Key.ok] at hk
    cases e <;> simp [Key.ok] at he
    cases hv; cases hu
    simp only [Instr.sameNow, if_true]
    rename_i a b
    by_cases h : a = b <;> simp [h]

def idxOfA (k : Key) : List (Key × AV × Nat) → Nat
  | [] => 0
  | e :: es => if k = e.1 then 0 else idxOfA k es + 1

theorem findNow_sound {ik : Option IntKind} {d : TypeDesc} (hd : keyD ik d = true) {k : Key} (hk : k.ok ik = true) {v : Value} (hv : V κ w (k.av ik) v) : ∀ (es : List (Key × AV × Nat)) (ents : List MapEntry) (i : Nat),
    VL κ w (es.map fun e => e.1.av ik) (ents.map (·.key)) → VL κ w (es.map (·.2.1)) (ents.map (·.val)) → (∀ e ∈ es, e.1.ok ik = true) →
    ∃ r, Instr.findNow d v ents i = some r ∧ (findA k es = none → r = none) ∧ ∀ x, findA k es = some x → ∃ e, ents[idxOfA k es]? = some e ∧ r = some (i + idxOfA k es, e.val) ∧ V κ w x e.val
  | [], ents, i, hks, hvs, hok => by
    have : ents = [] := by have := hks.1; simp at this; exact List.eq_nil_of_length_eq_zero this.symm
    subst this
    exact ⟨none, rfl, fun _ => rfl, fun x hx => by simp [findA] at hx⟩
  | e :: es, ents, i, hks, hvs, hok => by
    cases ents with
    | nil => have := hks.1; simp at this
    | cons f ents =>
      simp only [List.map_cons] at hks hvs
      obtain ⟨u, us, e1, hu, hks'⟩ := hks.inv_cons
      obtain ⟨y, ys, e2, hy, hvs'⟩ := hvs.inv_cons
      simp at e1 e2
      obtain ⟨rfl, rfl⟩ := e1
      obtain ⟨rfl, rfl⟩ := e2
      have hs := sameNow_sound hd hk (hok e (by simp)) hv hu
      simp only [Instr.findNow, hs]
      by_cases h : k = e.1
      · simp only [h, decide_true]
        refine ⟨_, rfl, fun h2 => by simp [findA, h] at h2, fun x hx => ?_⟩
        simp [findA] at hx
        subst hx
        exact ⟨f, by simp [idxOfA], by simp [idxOfA], hy⟩
      · simp only [h, decide_false]
        obtain ⟨r, hr, h1, h2⟩ := findNow_sound hd hk hv es ents (i + 1) hks' hvs' (fun e he => hok e (by simp [he]))
        refine ⟨r, hr, fun h3 => h1 (by simpa [findA, h] using h3), fun x hx => ?_⟩
        obtain ⟨g, hg, hr2, hx2⟩ := h2 x (by simpa [findA, h] using hx)
        refine ⟨g, by simpa [idxOfA, h] using hg, ?_, hx2⟩
        rw [hr2]; simp [idxOfA, h]; omega

theorem keyOf_sound {ik : Option IntKind} {x : AV} {k : Key} (h : keyOf ik x = some k) : x = k.av ik ∧ k.ok ik = true := by
  unfold keyOf at h
  split at h
  · split at h
    · rename_i he; simp at h; subst h; exact ⟨rfl, by simpa [Key.ok] using he⟩
    · simp at h
  · split at h
    · rename_i he; simp at h; subst h; subst he; exact ⟨rfl, rfl⟩
    · simp at h
  · simp at h

theorem run_checkKey {kt : TypeId} {d : TypeDesc} {ik : Option IntKind} (hk : P.underlying kt = some d) (hd : keyD ik d = true) (n : Nat) (e : Bool) (v : Value) : (Instr.checkKey e (n + 1) kt v).run P w = .ok () w := by
  simp only [Instr.checkKey, Sem.run_bind, run_underlying' hk, Result.andThen_ok]
  cases ik <;> cases d <;> simp [keyD] at hd <;> rfl

theorem run_findKey {kt : TypeId} {d : TypeDesc} (hk : P.underlying kt = some d) {v : Value} {ents : List MapEntry} {r : Option (Nat × Value)} (h : Instr.findNow d v ents 0 = some r) : (Instr.findKey kt v ents).run P w = .ok r w := by
  simp only [Instr.findKey, Sem.run_bind, run_underlying' hk, Result.andThen_ok, h, Sem.run_pure]

theorem lookup_sound (hw : RelW ng κ m w) {t kt et : TypeId} {d : TypeDesc} {ik : Option IntKind} {zero : AV} {z : Value} (hd : P.underlying t = some (.map kt et)) (hkt : P.underlying kt = some d) (hkd : keyD ik d = true)
    (hz : (zeroValue et).run P w = .ok z w) (hzv : V κ w zero z) (ok : Bool) {x y : AV} {v u : Value} (hv : V κ w x v) (hu : V κ w y u) {K : AV → Mem → Prop}
    (h : sLookup m ik ok zero x y (fun z => K z m)) : DoesV ng P B κ m w (Instr.lookup t v u ok) K := by
  have hout : ∀ (a : AV) (va : Value) (b : Bool), V κ w a va → V κ w (if ok then .tup [a, .bool b] else a) (if ok then .tuple #[va, .bool b] else va) := by
    intro a va b ha
    cases ok
    · exact ha
    · have := VL.cons ha (VL.cons (V.bool (κ := κ) (w := w) b) VL.nil)
      exact .tup _ _ this.1 this.2
  unfold sLookup at h
  split at h
  · exact h.elim
  · rename_i k hk
    obtain ⟨rfl, hko⟩ := keyOf_sound hk
    split at h
    · cases hv
      refine DoesV.here hw (v := if ok then .tuple #[z, .bool false] else z) ?_ (hout zero z false hzv) h
      have hf : (Instr.findKey kt u ([] : List MapEntry)).run P w = .ok none w := run_findKey hkt (by simp [Instr.findNow])
      have hc := run_checkKey (P := P) (w := w) hkt hkd 9999 true u
      simp only [Instr.lookup, Sem.run_bind, run_underlying' hd, Result.andThen_ok, Sem.run_pure, Array.isEmpty_empty, hc, hf, hz]
    · rename_i o
      split at h
      · rename_i ik' es clk hm
        obtain ⟨rfl, h⟩ := h
        obtain ⟨b, base, ents, rfl, hr, hc, hks, hvl, hb, hok, _⟩ := hw.map_at hv hm
        obtain ⟨r, hfn, h1, h2⟩ := findNow_sound hkd hko hu es ents.toList 0 hks hvl hok
        have hf := run_findKey (P := P) (w := w) hkt hfn
        have hck := run_checkKey (P := P) (w := w) hkt hkd 9999 ents.isEmpty u
        have hgo := run_getObj (P := P) hc (by simp)
        split at h
        · rename_i av hav
          obtain ⟨e, he, hre, hxe⟩ := h2 _ hav
          subst hre
          refine DoesV.here hw (v := if ok then .tuple #[e.val, .bool true] else e.val) ?_ (hout _ _ true hxe) h
          simp only [Instr.lookup, Sem.run_bind, run_underlying' hd, Result.andThen_ok, Sem.run_pure, hgo, hck, hf]
        · rename_i hav
          have hre := h1 hav
          subst hre
          refine DoesV.here hw (v := if ok then .tuple #[z, .bool false] else z) ?_ (hout zero z false hzv) h
          simp only [Instr.lookup, Sem.run_bind, run_underlying' hd, Result.andThen_ok, Sem.run_pure, hgo, hck, hf, hz]
      · exact h.elim
    · exact h.elim
end
end Go.X

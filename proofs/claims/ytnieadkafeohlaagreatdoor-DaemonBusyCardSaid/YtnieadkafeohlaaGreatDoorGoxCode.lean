/- The abstract machine's rules for code, and that they are sound. -/
import Derived.Test.YtnieadkafeohlaaGreatDoorGoxSound
set_option linter.unusedVariables false
set_option linter.unusedSimpArgs false
namespace Go.X

inductive AEx where
  | normal
  | exit (id : Nat)
  | ret
  | pan (c : List PanicEntry)

abbrev Post := AEx → Fr → Mem → Prop

def putF (fr : Fr) : Option Nat → AV → Fr
  | some d, v => upd fr d v
  | none, _ => fr

/-- Is an operation wanted? -/
def gOf : AV → Bool → Option Bool
  | .bool t, want => some (t == want)
  | .tup _, _ => some false
  | _, _ => none

/-- One operation under its guard. -/
def stepO (C : CallP) (B : Nat → Prop) (o : AO) (fr : Fr) (m : Mem) (K : Fr → Mem → Prop) (E : List PanicEntry → Mem → Prop) : Prop :=
  match o.guard with
  | none => stepI C B o.op fr m (fun v m' => K (putF fr o.dst v) m') E
  | some (j, want) => match gOf (fr j) want with
    | some true => stepI C B o.op fr m (fun v m' => K (putF fr o.dst v) m') E
    | some false => K (putF fr o.dst (.tup [])) m
    | none => False

def runA (C : CallP) (B : Nat → Prop) (E : List PanicEntry → Mem → Prop) : List AO → (Fr → Mem → Prop) → Fr → Mem → Prop
  | [], K => K
  | o :: os, K => fun fr m => stepO C B o fr m (runA C B E os K) E

/-- An order in which each operation comes behind those that it has to. -/
def Topo (edges : List (List Nat)) (σ : List Nat) : Prop :=
  σ.Nodup ∧ (∀ i, i ∈ σ ↔ i < edges.length) ∧ ∀ (a : List Nat) (i : Nat) (b : List Nat), σ = a ++ i :: b → ∀ j ∈ edges.getD i [], j ∈ a

def Post.then (K : Fr → Mem → Prop) (Q : Post) : Post
  | .normal, fr, m => K fr m
  | e, fr, m => Q e fr m

def Post.inBlock (id : Nat) (Q : Post) : Post
  | .exit id', fr, m => if id' = id then Q .normal fr m else Q (.exit id') fr m
  | e, fr, m => Q e fr m

def wpA (C : CallP) (B : Nat → Prop) : AC → Post → Fr → Mem → Prop
  | .skip, Q => Q .normal
  | .region ops, Q => fun fr m => runA C B (fun c m => Q (.pan c) (fun _ => .junk) m) ops (Q .normal) fr m
  | .draw ops edges, Q => fun fr m => ops.length = edges.length ∧ ∀ σ, Topo edges σ → runA C B (fun c m => Q (.pan c) (fun _ => .junk) m) (σ.filterMap (ops[·]?)) (Q .normal) fr m
  | .seq a b, Q => wpA C B a (Post.then (wpA C B b Q) Q)
  | .cond c a b, Q => fun fr m => match c.ev fr with
    | .bool t => (t = true → wpA C B a Q fr m) ∧ (t = false → wpA C B b Q fr m)
    | _ => False
  | .block id a, Q => wpA C B a (Post.inBlock id Q)
  | .loop a, Q => fun fr m => ∃ I : Nat → Fr → Mem → Prop, (∃ k, I k fr m) ∧ ∀ k fr m, I k fr m → wpA C B a (Post.then (fun fr' m' => ∃ k', k' < k ∧ I k' fr' m') Q) fr m
  | .exit id, Q => Q (.exit id)
  | .ret, Q => Q .ret
  | .bad, _ => fun _ _ => False

/-- What stands through a function's code: what is deferred; slots that nothing assigns. -/
structure Pin where
  D : List Deferred
  S : List Nat
  t0 : Nat → Value
  sz : Option Nat

def Pin.Holds (z : Pin) (a : Act) : Prop := a.defers = z.D ∧ (∀ k ∈ z.S, a.tmps.getD k undef = z.t0 k) ∧ ∀ k, z.sz = some k → a.tmps.size = k

theorem Pin.Holds.put {z : Pin} {a : Act} (h : z.Holds a) {dst : Option Nat} (hf : ∀ d, dst = some d → d ∉ z.S) (v : Value) : z.Holds (a.put dst v) := by
  cases dst with
  | none => exact h
  | some d =>
    refine ⟨h.1, fun k hk => ?_, fun k hk => by simp [Act.put, h.2.2 k hk]⟩
    have hkd : d ≠ k := by rintro rfl; exact hf d rfl hk
    rw [← h.2.1 k hk]
    simp only [Act.put]
    rw [Array.getD_eq_getD_getElem?, Array.getD_eq_getD_getElem?, Array.getElem?_setIfInBounds_ne hkd]

/-- No operation assigns one of these slots. -/
def freeC (S : List Nat) : Code → Bool
  | .region _ ops _ => ops.toList.all fun o => match o.dst with | some d => !S.contains d | none => true
  | .seq a b => freeC S a && freeC S b
  | .cond _ a b => freeC S a && freeC S b
  | .block _ a => freeC S a
  | .loop a => freeC S a
  | _ => true

theorem freeC_nil : ∀ c : Code, freeC [] c = true := by
  intro c
  induction c with
  | region id ops d => simp only [freeC, List.all_eq_true]; intro o _; cases o.dst <;> rfl
  | seq a b iha ihb => simp [freeC, iha, ihb]
  | cond c a b iha ihb => simp [freeC, iha, ihb]
  | block id a ih => simpa [freeC] using ih
  | loop a ih => simpa [freeC] using ih
  | _ => rfl

section
variable {ng : Glob} {n : Nat} {P : Program} {B : Nat → Prop} {z : Pin}

/-- What holds behind code, of the model's world. -/
def PostC (ng : Glob) (n : Nat) (B : Nat → Prop) (z : Pin) (κ : Kap) (m : Mem) (w : World) (Q : Post) : Exit → Act → World → Prop := fun e a' w' =>
  ∃ κ' m', Evo κ w κ' w' ∧ RelW ng κ' m' w' ∧ z.Holds a' ∧ (∀ o, B o → m' o = m o) ∧
    match e with
    | .normal => ∃ fr', RelF n κ' w' fr' a' ∧ Q .normal fr' m'
    | .exit id => ∃ fr', RelF n κ' w' fr' a' ∧ Q (.exit id) fr' m'
    | .ret => ∃ fr', RelF n κ' w' fr' a' ∧ Q .ret fr' m'
    | .panic c => Q (.pan c) (fun _ => .junk) m'
    | _ => False

def ACode (ng : Glob) (n : Nat) (P : Program) (B : Nat → Prop) (z : Pin) (c : Code) (Q : Post) (fr : Fr) (m : Mem) : Prop :=
  ∀ κ w a, RelW ng κ m w → RelF n κ w fr a → z.Holds a → Has m B → c.wp P (PostC ng n B z κ m w Q) a w

theorem PostC.trans {κ κ' : Kap} {m m' : Mem} {w w' : World} {Q : Post} (e : Evo κ w κ' w') (ha : ∀ o, B o → m' o = m o) {x : Exit} {a : Act} {w2 : World} (h : PostC ng n B z κ' m' w' Q x a w2) : PostC ng n B z κ m w Q x a w2 := by
  obtain ⟨κ2, m2, h1, h2, h3, h4, h5⟩ := h
  exact ⟨κ2, m2, e.trans h1, h2, h3, fun o ho => (h4 o ho).trans (ha o ho), h5⟩

theorem Has.of_agree {m m' : Mem} (h : Has m B) (ha : ∀ o, B o → m' o = m o) : Has m' B := fun o ho => by rw [ha o ho]; exact h o ho

theorem RelF.put {κ : Kap} {w : World} {fr : Fr} {a : Act} (h : RelF n κ w fr a) {dst : Option Nat} (hd : ∀ d, dst = some d → d < n) {v : Value} {av : AV} (hv : V κ w av v) : RelF n κ w (putF fr dst av) (a.put dst v) := by
  cases dst with
  | none => exact h
  | some d =>
    have hd := hd d rfl
    refine ⟨by simp [Act.put, h.1], fun k hk => ?_⟩
    simp only [putF, upd, Act.put]
    by_cases hkd : k = d
    · subst hkd
      rw [if_pos rfl]
      have : (a.tmps.setIfInBounds k v).getD k undef = v := by
        rw [Array.getD_eq_getD_getElem?]
        simp [h.1, hk]
      rw [this]; exact hv
    · rw [if_neg hkd]
      have : (a.tmps.setIfInBounds d v).getD k undef = a.tmps.getD k undef := by
        rw [Array.getD_eq_getD_getElem?, Array.getD_eq_getD_getElem?]
        rw [Array.getElem?_setIfInBounds_ne (by omega)]
      rw [this]; exact h.2 k hk

theorem undef_tup {κ : Kap} {w : World} : V κ w (.tup []) undef := .tup [] [] rfl (fun i c v h => by simp at h)

/-- One operation of a region. -/
theorem oper_sound {ops : Array Oper} {o : Oper} {ao : AO} (hc : cO P ng n ops o = some ao) (hfr : ∀ d, o.dst = some d → d ∉ z.S) {κ : Kap} {m : Mem} {w : World} {fr : Fr} {a : Act} (hw : RelW ng κ m w) (hf : RelF n κ w fr a) (hda : z.Holds a) (hB : Has m B)
    {K : Fr → Mem → Prop} {Q : Post} {next : Act → World → Prop} {R : Exit → Act → World → Prop} (hR : ∀ e a' w', PostC ng n B z κ m w Q e a' w' → R e a' w')
    (hn : ∀ κ' m' w' fr' a', Evo κ w κ' w' → RelW ng κ' m' w' → RelF n κ' w' fr' a' → z.Holds a' → (∀ o, B o → m' o = m o) → K fr' m' → next a' w')
    (h : stepO (ACalls ng P) B ao fr m K (fun c m => Q (.pan c) (fun _ => .junk) m)) :
    if Region.wanted o (yielded ops a.tmps) then o.wp P a w next R else next (a.put o.dst undef) w := by
  unfold cO at hc
  split at hc
  · rename_i g hg hd
    simp at hc; subst hc
    have hdst : ∀ d, o.dst = some d → d < n := by
      intro d hod; rw [hod] at hd; simpa using hd
    have run : stepI (ACalls ng P) B (cI P ng n o.op) fr m (fun v m' => K (putF fr o.dst v) m') (fun c m => Q (.pan c) (fun _ => .junk) m) → o.wp P a w next R := by
      intro hs
      have hx := cI_sound hw hB o hf hs
      unfold Oper.wp
      generalize (execOp a.eval o).run P w = r at hx
      unfold OpDoes at hx
      split at hx
      · obtain ⟨κ', m', av, h1, h2, h3, h4, h5⟩ := hx
        exact hn κ' m' _ _ _ h1 h2 ((hf.mono h1).put hdst h3) (hda.put hfr _) h5 h4
      · obtain ⟨κ', m', av, h1, h2, h3, h4, h5⟩ := hx
        exact hn κ' m' _ _ _ h1 h2 ((hf.mono h1).put hdst h3) (hda.put hfr _) h5 h4
      · rename_i f args w'
        obtain ⟨h1, h2, h3⟩ := hx
        refine h3.mono fun e w2 he => ?_
        cases e with
        | returned v =>
          obtain ⟨κ', m', av, g1, g2, g3, g4, g5⟩ := he
          exact hn κ' m' _ _ _ (h1.trans g1) g2 ((hf.mono (h1.trans g1)).put hdst g3) (hda.put hfr _) g4 g5
        | panicked c =>
          obtain ⟨κ', m', g1, g2, g4, g5⟩ := he
          exact hR _ _ _ ⟨κ', m', h1.trans g1, g2, hda, g4, g5⟩
        | outgrown => exact he.elim
      · obtain ⟨h1, h2, h3⟩ := hx
        exact hR _ _ _ ⟨κ, m, h1, h2, hda, fun _ _ => rfl, h3⟩
      · exact hx.elim
    cases hog : o.guard with
    | none =>
      rw [hog] at hg; simp [cGuard] at hg; subst hg
      simp only [Region.wanted, hog, if_true]
      exact run h
    | some jw =>
      obtain ⟨j, want⟩ := jw
      rw [hog] at hg
      simp only [cGuard] at hg
      split at hg
      · rename_i s hs
        split at hg
        · rename_i hsn
          simp at hg; subst hg
          simp only [stepO] at h
          have hv := hf.2 s hsn
          have hget : a.tmps[s]? = some (a.tmps.getD s undef) := by
            rw [Array.getD_eq_getD_getElem?]
            have : s < a.tmps.size := by rw [hf.1]; exact hsn
            simp [this]
          have hy : yielded ops a.tmps j = match a.tmps.getD s undef with | .bool b => some b | _ => none := by
            unfold yielded
            rw [hs]; simp only [Option.bind_some, hget]
            generalize a.tmps.getD s undef = u; cases u <;> rfl
          generalize a.tmps.getD s undef = u at hv hy
          generalize fr s = av at h hv
          unfold gOf at h
          split at h
          · rename_i hgo
            split at hgo
            · rename_i t want'
              have := hv.bool_inv; subst this
              simp at hgo
              simp only [Region.wanted, hog, hy]
              rw [if_pos (by simpa using hgo)]
              exact run h
            · simp at hgo
            · simp at hgo
          · rename_i hgo
            split at hgo
            · rename_i t want'
              have := hv.bool_inv; subst this
              simp at hgo
              simp only [Region.wanted, hog, hy]
              rw [if_neg (by simpa using hgo)]
              exact hn κ m w _ _ (Evo.refl _ _) hw (hf.put hdst undef_tup) (hda.put hfr _) (fun _ _ => rfl) h
            · cases hv with
              | tup cs vs h1 h2 =>
                simp only [Region.wanted, hog, hy]
                rw [if_neg (by simp)]
                exact hn κ m w _ _ (Evo.refl _ _) hw (hf.put hdst undef_tup) (hda.put hfr _) (fun _ _ => rfl) h
            · simp at hgo
          · exact h.elim
        · simp at hg
      · simp at hg
  · simp at hc

theorem cOs_len {ops : Array Oper} : ∀ {l : List Oper} {as : List AO}, cOs P ng n ops l = some as → as.length = l.length ∧ ∀ (i : Nat) (o : Oper), l[i]? = some o → ∃ ao, as[i]? = some ao ∧ cO P ng n ops o = some ao
  | [], as, h => by simp [cOs] at h; subst h; exact ⟨rfl, fun i o h => by simp at h⟩
  | o :: l, as, h => by
    unfold cOs at h
    split at h
    · rename_i ao as' h1 h2
      simp at h; subst h
      obtain ⟨h3, h4⟩ := cOs_len h2
      refine ⟨by simp [h3], fun i o' hi => ?_⟩
      cases i with
      | zero => simp at hi; subst hi; exact ⟨ao, rfl, h1⟩
      | succ i => simp at hi; obtain ⟨b, hb⟩ := h4 i o' hi; exact ⟨b, by simpa using hb.1, hb.2⟩
    · simp at h

/-- A region's operations in some order. -/
theorem ops_sound {ops : Array Oper} {as : List AO} (hc : cOs P ng n ops ops.toList = some as) (hfr : ∀ o ∈ ops.toList, ∀ d, o.dst = some d → d ∉ z.S) {Q : Post} {R : Exit → Act → World → Prop} : ∀ (σ : List Nat) {κ : Kap} {m : Mem} {w : World} {fr : Fr} {a : Act}, RelW ng κ m w → RelF n κ w fr a → z.Holds a → Has m B →
    (∀ e a' w', PostC ng n B z κ m w Q e a' w' → R e a' w') →
    runA (ACalls ng P) B (fun c m => Q (.pan c) (fun _ => .junk) m) (σ.filterMap (as[·]?)) (Q .normal) fr m → wpOps P ops R σ a w
  | [], κ, m, w, fr, a, hw, hf, hda, hB, hR, h => hR _ _ _ ⟨κ, m, Evo.refl _ _, hw, hda, fun _ _ => rfl, fr, hf, h⟩
  | i :: σ, κ, m, w, fr, a, hw, hf, hda, hB, hR, h => by
    obtain ⟨hl, hget⟩ := cOs_len hc
    unfold wpOps
    cases ho : ops[i]? with
    | none =>
      have : as[i]? = none := by
        rw [List.getElem?_eq_none_iff, hl]
        have := Array.getElem?_eq_none_iff.1 ho
        simpa using this
      simp only [List.filterMap_cons, this] at h
      exact ops_sound hc hfr σ hw hf hda hB hR h
    | some o =>
      obtain ⟨ao, hao, hco⟩ := hget i o (by simpa using ho)
      simp only [List.filterMap_cons, hao, runA] at h
      have := oper_sound (next := wpOps P ops R σ) hco (hfr o (Array.mem_toList_iff.2 (Array.mem_of_getElem? ho))) hw hf hda hB hR (fun κ' m' w' fr' a' e hw' hf' hda' ha hk =>
        ops_sound hc hfr σ hw' hf' hda' (hB.of_agree ha) (fun e2 a2 w2 hp => hR _ _ _ (hp.trans e ha)) hk) h
      dsimp only
      split
      · rename_i hwt; rw [if_pos hwt] at this; exact Or.inl this
      · rename_i hwt; rw [if_neg hwt] at this; exact this

theorem range'_filterMap : ∀ (l pre : List AO), (List.range' pre.length l.length).filterMap ((pre ++ l)[·]?) = l
  | [], pre => rfl
  | x :: l, pre => by
    simp only [List.length_cons, List.range'_succ, List.filterMap_cons]
    have h1 : (pre ++ x :: l)[pre.length]? = some x := by simp
    have h2 := range'_filterMap l (pre ++ [x])
    simp only [List.length_append, List.length_singleton, List.append_assoc, List.singleton_append] at h2
    rw [h1]; simp only [h2]

theorem range_filterMap (as : List AO) {k : Nat} (h : k = as.length) : (List.range k).filterMap (as[·]?) = as := by
  subst h
  rw [List.range_eq_range']
  exact range'_filterMap as []

theorem exists_least {p : Nat → Prop} (h : ∃ k, p k) : ∃ k, p k ∧ ∀ j, p j → k ≤ j := by
  obtain ⟨k, hk⟩ := h
  induction k using Nat.strongRecOn with
  | _ k ih =>
    by_cases hx : ∃ j, j < k ∧ p j
    · obtain ⟨j, hj, hpj⟩ := hx; exact ih j hj hpj
    · exact ⟨k, hk, fun j hj => by
        by_cases hlt : j < k
        · exact absurd ⟨j, hlt, hj⟩ hx
        · omega⟩

/-! ### The orders that are drawn -/
theorem nodup_len : ∀ (n : Nat) (l : List Nat), l.Nodup → (∀ x ∈ l, x < n) → l.length ≤ n
  | 0, l, h, hx => by
    cases l with
    | nil => simp
    | cons a l => exact absurd (hx a (by simp)) (by omega)
  | n + 1, l, h, hx => by
    have h1 := nodup_len n (l.erase n) (h.erase n) (fun x hm => by
      have := (h.mem_erase_iff).1 hm
      have := hx x this.2
      omega)
    rw [List.length_erase] at h1
    split at h1 <;> omega

section
variable (edges : List (List Nat))

/-- An order so far, the last one ahead. -/
def GoodAcc (acc : List Nat) : Prop := acc.Nodup ∧ (∀ i ∈ acc, i < edges.length) ∧ ∀ (a : List Nat) (i : Nat) (b : List Nat), acc = a ++ i :: b → ∀ j ∈ edges.getD i [], j ∈ b

theorem GoodAcc.topo {acc : List Nat} (h : GoodAcc edges acc) (hl : edges.length ≤ acc.length) : Topo edges acc.reverse := by
  obtain ⟨h1, h2, h3⟩ := h
  refine ⟨(by rw [List.nodup_iff_pairwise_ne, List.pairwise_reverse]; exact (List.nodup_iff_pairwise_ne.1 h1).imp fun h => h.symm), fun i => ⟨fun hi => h2 i (by simpa using hi), fun hi => ?_⟩, fun a i b he j hj => ?_⟩
  · rw [List.mem_reverse]
    by_cases hm : i ∈ acc
    · exact hm
    · exfalso
      have hsub : (i :: acc) ⊆ List.range edges.length := by
        intro x hx
        rcases List.mem_cons.1 hx with rfl | hx
        · simpa using hi
        · simpa using h2 x hx
      have hnd : (i :: acc).Nodup := List.nodup_cons.2 ⟨hm, h1⟩
      have := nodup_len edges.length _ hnd (fun x hx => by simpa using hsub hx)
      simp at this; omega
  · have he' : acc = b.reverse ++ i :: a.reverse := by
      have := congrArg List.reverse he
      simpa using this
    have := h3 _ _ _ he' j hj
    simpa using this
end

theorem backOk_edge {md : Region.Mode} {r : Nat → Nat} {ops : Array Oper} (h : backOk md r ops = true) {i : Nat} {o : Oper} (hi : ops[i]? = some o) {e : Edge} (he : e ∈ o.after.toList) (hb : Region.binds md e = true) : e.on < ops.size ∧ r e.on < r i := by
  simp only [backOk, List.all_eq_true] at h
  have h2 := h (o, i) (by
    rw [List.mem_iff_getElem?]
    refine ⟨i, ?_⟩
    rw [List.getElem?_zipIdx]
    simp [hi]) e he
  rw [hb] at h2
  simpa using h2

theorem binds_any {md : Region.Mode} {e : Edge} (h : Region.binds .any e = true) : Region.binds md e = true := by
  unfold Region.binds at *
  cases hg : e.ground <;> rw [hg] at h <;> first | rfl | (exact Bool.noConfusion (show false = true from h))

theorem go_topo {md : Region.Mode} {r : Nat → Nat} {ops : Array Oper} (hok : backOk md r ops = true) : ∀ (fuel t : Nat) (listed : Array Bool) (acc : List Nat), GoodAcc (edgesOf ops) acc → listed.size = ops.size → (∀ i, i < ops.size → (listed.getD i true = true ↔ i ∈ acc)) → acc.length + fuel = ops.size →
    Topo (edgesOf ops) (Region.linearise.go md ops fuel t listed acc)
  | 0, t, listed, acc, hg, hs, hl, hf => by
    unfold Region.linearise.go
    exact hg.topo _ (by simp [edgesOf]; omega)
  | fuel + 1, t, listed, acc, hg, hs, hl, hf => by
    unfold Region.linearise.go
    simp only
    generalize hrs : (List.range ops.size).filter _ = rs
    have hmem : ∀ i, i ∈ rs ↔ i < ops.size ∧ i ∉ acc ∧ ∀ o, ops[i]? = some o → ∀ e ∈ o.after.toList, Region.binds md e = true → e.on ∈ acc := by
      intro i
      rw [← hrs, List.mem_filter, List.mem_range]
      constructor
      · rintro ⟨h1, h2⟩
        obtain ⟨o, ho⟩ : ∃ o, ops[i]? = some o := ⟨ops[i], by simp [h1]⟩
        simp only [ho, Bool.and_eq_true, Bool.not_eq_true', Option.map_some, Option.getD_some, Array.all_eq_true', Bool.or_eq_true] at h2
        refine ⟨h1, fun hm => ?_, fun o' ho' e he hb => ?_⟩
        · have := (hl i h1).2 hm; rw [this] at h2; simp at h2
        · rw [ho] at ho'; simp at ho'; subst ho'
          have h3 := h2.2 e (by simpa using he)
          rcases h3 with h3 | h3
          · rw [hb] at h3; simp at h3
          · have hlt := (backOk_edge hok ho he hb).1
            refine (hl e.on hlt).1 ?_
            rw [Array.getD_eq_getD_getElem?] at h3 ⊢
            have hin : e.on < listed.size := by omega
            simpa [hin] using h3
      · rintro ⟨h1, h2, h3⟩
        refine ⟨h1, ?_⟩
        obtain ⟨o, ho⟩ : ∃ o, ops[i]? = some o := ⟨ops[i], by simp [h1]⟩
        simp only [ho, Bool.and_eq_true, Bool.not_eq_true', Option.map_some, Option.getD_some, Array.all_eq_true', Bool.or_eq_true]
        refine ⟨?_, fun e he => ?_⟩
        · cases hb : listed.getD i true with
          | false => rfl
          | true => exact absurd ((hl i h1).1 hb) h2
        · cases hb : Region.binds md e with
          | false => exact Or.inl rfl
          | true =>
            right
            have he' : e ∈ o.after.toList := by simpa using he
            have hlt := (backOk_edge hok ho he' hb).1
            have := (hl e.on hlt).2 (h3 o ho e he' hb)
            rw [Array.getD_eq_getD_getElem?] at this ⊢
            have hin : e.on < listed.size := by omega
            simpa [hin] using this
    have hne : rs ≠ [] := by
      intro h0
      -- the least one, by rank, that is not listed
      have hex : ∃ q, ∃ k, r k = q ∧ k < ops.size ∧ k ∉ acc := by
        by_cases hx : ∃ k, k < ops.size ∧ k ∉ acc
        · obtain ⟨k, hk⟩ := hx; exact ⟨r k, k, rfl, hk⟩
        · exfalso
          have hall : ∀ k, k < ops.size → k ∈ acc := fun k hk => by
            by_cases hm : k ∈ acc
            · exact hm
            · exact absurd ⟨k, hk, hm⟩ hx
          have hr : (List.range ops.size).length ≤ acc.length := by
            have key : ∀ (l acc : List Nat), l.Nodup → (∀ x ∈ l, x ∈ acc) → l.length ≤ acc.length := by
              intro l
              induction l with
              | nil => intro acc _ _; simp
              | cons x l ih =>
                intro acc hn hs
                have hn := List.nodup_cons.1 hn
                have h5 := ih (acc.erase x) hn.2 (fun y hy => by
                  have hyx : y ≠ x := by rintro rfl; exact hn.1 hy
                  exact (List.mem_erase_of_ne hyx).2 (hs y (by simp [hy])))
                have h6 : x ∈ acc := hs x (by simp)
                rw [List.length_erase_of_mem h6] at h5
                have : 0 < acc.length := List.length_pos_of_mem h6
                simp; omega
            exact key _ _ List.nodup_range (fun x hx => hall x (by simpa using hx))
          simp at hr; omega
      obtain ⟨q, ⟨k, hkq, hk1, hk2⟩, hk3⟩ := exists_least hex
      have : k ∈ rs := (hmem k).2 ⟨hk1, hk2, fun o ho e he hb => by
        obtain ⟨g1, g2⟩ := backOk_edge hok ho he hb
        by_cases hm : e.on ∈ acc
        · exact hm
        · have := hk3 (r e.on) ⟨e.on, rfl, g1, hm⟩; omega⟩
      rw [h0] at this; simp at this
    have hlen : 0 < rs.length := List.length_pos_iff.2 hne
    have hlt : t % rs.length < rs.length := Nat.mod_lt _ hlen
    rw [List.getElem?_eq_getElem hlt]
    simp only
    generalize hi : rs[t % rs.length] = i
    have hi : i ∈ rs := by rw [← hi]; exact List.getElem_mem hlt
    obtain ⟨h1, h2, h3⟩ := (hmem i).1 hi
    have h3 : ∀ j ∈ (edgesOf ops).getD i [], j ∈ acc := by
      intro j hj
      obtain ⟨o, ho⟩ : ∃ o, ops[i]? = some o := ⟨ops[i], by simp [h1]⟩
      have hE : (edgesOf ops).getD i [] = (o.after.toList.filter (Region.binds .any)).map (·.on) := by
        rw [List.getD_eq_getElem?_getD]
        simp [edgesOf, ho]
      rw [hE] at hj
      obtain ⟨e, he, rfl⟩ := List.mem_map.1 hj
      obtain ⟨he, hb⟩ := List.mem_filter.1 he
      exact h3 o ho e he (binds_any hb)
    refine go_topo hok fuel _ _ _ ⟨List.nodup_cons.2 ⟨h2, hg.1⟩, fun x hx => ?_, fun a j b he => ?_⟩ (by simpa using hs) (fun j hj => ?_) (by simp; omega)
    · rcases List.mem_cons.1 hx with rfl | hx
      · simpa [edgesOf] using h1
      · exact hg.2.1 x hx
    · cases a with
      | nil => simp at he; obtain ⟨rfl, rfl⟩ := he; exact h3
      | cons y a => simp at he; obtain ⟨rfl, he⟩ := he; exact hg.2.2 a j b he
    · rw [Array.getD_eq_getD_getElem?]
      by_cases hij : j = i
      · subst hij
        have : j < listed.size := by omega
        simp [this]
      · rw [Array.getElem?_setIfInBounds_ne (by omega), ← Array.getD_eq_getD_getElem?, hl j hj]
        simp [hij]

/-- A frame's value. -/
theorem cond_sound {c : Operand} {x : Opd} (hx : cOpd ng n c = some x) {κ : Kap} {m : Mem} {w : World} {fr : Fr} {a : Act} (hw : RelW ng κ m w) (hf : RelF n κ w fr a) {t : Bool} (h : x.ev fr = .bool t) : a.eval c = .bool t := by
  have := opd_sound hx hw hf
  rw [h] at this
  exact this.bool_inv

open Classical in
noncomputable def least (p : Nat → Prop) : Nat := if h : ∃ k, p k then Classical.choose (exists_least h) else 0

theorem least_spec {p : Nat → Prop} (h : ∃ k, p k) : p (least p) ∧ ∀ j, p j → least p ≤ j := by
  unfold least
  rw [dif_pos h]
  exact Classical.choose_spec (exists_least h)

theorem linearise_topo {md : Region.Mode} {r : Nat → Nat} {ops : Array Oper} (hok : backOk md r ops = true) (t : Nat) : Topo (edgesOf ops) (Region.linearise md ops t) :=
  go_topo hok _ _ _ _ ⟨List.nodup_nil, by simp, by simp⟩ (by simp) (fun i hi => by simp [hi, Array.getD_eq_getD_getElem?]) (by simp)

theorem schedule_topo {ops : Array Oper} (hok : drawOk ops = true) (mixed : Bool) (t : Nat) : Topo (edgesOf ops) (Region.schedule mixed ops t) := by
  simp only [drawOk, Bool.and_eq_true, Bool.or_eq_true, Bool.not_eq_true'] at hok
  unfold Region.schedule
  split
  · exact linearise_topo hok.1 t
  · rename_i h
    simp only [Bool.or_eq_true, Bool.not_eq_true', not_or] at h
    obtain ⟨h1, h2⟩ : backOk .text id ops = true ∧ backOk .gc (fun i => (Region.linearise .gc ops 0).idxOf i) ops = true := hok.2.resolve_left (by simpa using h.2)
    split
    · exact linearise_topo h1 _
    · exact linearise_topo h2 _

theorem free_region {S : List Nat} {id : Nat} {ops : Array Oper} {d : Bool} (h : freeC S (.region id ops d) = true) : ∀ o ∈ ops.toList, ∀ d, o.dst = some d → d ∉ S := by
  intro o ho d hd hm
  simp only [freeC, List.all_eq_true] at h
  have := h o ho
  rw [hd] at this
  simp at this
  exact this hm

theorem wpA_sound : ∀ (c : Code) (hfree : freeC z.S c = true) (Q : Post) (fr : Fr) (m : Mem), wpA (ACalls ng P) B (cCode P ng n c) Q fr m → ACode ng n P B z c Q fr m := by
  intro c
  induction c with
  | skip => exact fun _ Q fr m h κ w a hw hf hda hB => wp_skip ⟨κ, m, Evo.refl _ _, hw, hda, fun _ _ => rfl, fr, hf, h⟩
  | exit id => exact fun _ Q fr m h κ w a hw hf hda hB => wp_exit ⟨κ, m, Evo.refl _ _, hw, hda, fun _ _ => rfl, fr, hf, h⟩
  | ret => exact fun _ Q fr m h κ w a hw hf hda hB => wp_ret ⟨κ, m, Evo.refl _ _, hw, hda, fun _ _ => rfl, fr, hf, h⟩
  | seq x y ihx ihy =>
    intro hfree Q fr m h κ w a hw hf hda hB
    simp only [freeC, Bool.and_eq_true] at hfree
    refine wp_seq (wp_mono (ihx hfree.1 _ fr m h κ w a hw hf hda hB) ?_)
    intro e a' w' hp
    obtain ⟨κ', m', h1, h2, h3, h4, h5⟩ := hp
    cases e with
    | normal =>
      obtain ⟨fr', hf', hq⟩ := h5
      exact wp_mono (ihy hfree.2 _ fr' m' hq κ' w' a' h2 hf' h3 (hB.of_agree h4)) fun e a w hp => hp.trans h1 h4
    | exit id => exact ⟨κ', m', h1, h2, h3, h4, h5⟩
    | ret => exact ⟨κ', m', h1, h2, h3, h4, h5⟩
    | panic c => exact ⟨κ', m', h1, h2, h3, h4, h5⟩
    | goto l => exact h5.elim
    | outgrown => exact h5.elim
  | cond c x y ihx ihy =>
    intro hfree Q fr m h κ w a hw hf hda hB
    simp only [freeC, Bool.and_eq_true] at hfree
    simp only [cCode] at h
    cases hc : cOpd ng n c with
    | none => rw [hc] at h; exact h.elim
    | some o =>
      rw [hc] at h
      simp only [wpA] at h
      split at h
      · rename_i t ht
        exact wp_cond_split (cond_sound hc hw hf ht) (fun htt => ihx hfree.1 _ fr m (h.1 htt) κ w a hw hf hda hB) (fun htt => ihy hfree.2 _ fr m (h.2 htt) κ w a hw hf hda hB)
      · exact h.elim
  | block id x ih =>
    intro hfree Q fr m h κ w a hw hf hda hB
    simp only [freeC] at hfree
    refine wp_block (wp_mono (ih hfree _ fr m h κ w a hw hf hda hB) ?_)
    intro e a' w' hp
    obtain ⟨κ', m', h1, h2, h3, h4, h5⟩ := hp
    cases e with
    | exit id' =>
      obtain ⟨fr', hf', hq⟩ := h5
      simp only [Post.inBlock] at hq
      simp only [Exit.inBlock]
      split
      · rename_i he; rw [if_pos he] at hq; exact ⟨κ', m', h1, h2, h3, h4, fr', hf', hq⟩
      · rename_i he; rw [if_neg he] at hq; exact ⟨κ', m', h1, h2, h3, h4, fr', hf', hq⟩
    | normal => exact ⟨κ', m', h1, h2, h3, h4, h5⟩
    | ret => exact ⟨κ', m', h1, h2, h3, h4, h5⟩
    | panic c => exact ⟨κ', m', h1, h2, h3, h4, h5⟩
    | goto l => exact h5.elim
    | outgrown => exact h5.elim
  | loop x ih =>
    intro hfree Q fr m h κ w a hw hf hda hB
    simp only [freeC] at hfree
    obtain ⟨I, ⟨k0, hI0⟩, hstep⟩ := h
    -- at each head: what holds there, by how much is left
    let J : Nat → Act → World → Prop := fun k a' w' => ∃ κ' m' fr', Evo κ w κ' w' ∧ RelW ng κ' m' w' ∧ RelF n κ' w' fr' a' ∧ z.Holds a' ∧ (∀ o, B o → m' o = m o) ∧ I k fr' m'
    have hJ : (∃ k, J k a w) := ⟨k0, κ, m, fr, Evo.refl _ _, hw, hf, hda, fun _ _ => rfl, hI0⟩
    let μ : Act → World → Nat := fun a' w' => least fun k => J k a' w'
    have hμ : ∀ a' w', (∃ k, J k a' w') → J (μ a' w') a' w' ∧ ∀ k, J k a' w' → μ a' w' ≤ k := fun a' w' h => least_spec h
    refine wp_loop (fun a' w' => ∃ k, J k a' w') μ hJ ?_
    intro a' w' hx
    obtain ⟨κ', m', fr', h1, h2, h3, h4, h5, h6⟩ := (hμ a' w' hx).1
    refine wp_mono (ih hfree _ fr' m' (hstep _ fr' m' h6) κ' w' a' h2 h3 h4 (hB.of_agree h5)) ?_
    intro e a2 w2 hp
    obtain ⟨κ2, m2, g1, g2, g3, g4, g5⟩ := hp
    have ga : ∀ o, B o → m2 o = m o := fun o ho => (g4 o ho).trans (h5 o ho)
    cases e with
    | normal =>
      obtain ⟨fr2, hf2, k', hk', hI⟩ := g5
      have hJ2 : J k' a2 w2 := ⟨κ2, m2, fr2, h1.trans g1, g2, hf2, g3, ga, hI⟩
      exact ⟨⟨k', hJ2⟩, Nat.lt_of_le_of_lt ((hμ a2 w2 ⟨k', hJ2⟩).2 k' hJ2) hk'⟩
    | exit id => exact ⟨κ2, m2, h1.trans g1, g2, g3, ga, g5⟩
    | ret => exact ⟨κ2, m2, h1.trans g1, g2, g3, ga, g5⟩
    | panic c => exact ⟨κ2, m2, h1.trans g1, g2, g3, ga, g5⟩
    | goto l => exact g5.elim
    | outgrown => exact g5.elim
  | region id ops draw =>
    intro hfree Q fr m h κ w a hw hf hda hB
    cases draw with
    | false =>
      simp only [cCode] at h
      cases hc : cOs P ng n ops ops.toList with
      | none => rw [hc] at h; exact h.elim
      | some as =>
        rw [hc] at h
        refine wp_region (ops_sound hc (free_region hfree) _ hw hf hda hB (fun _ _ _ h => h) ?_)
        rw [range_filterMap as (by have := (cOs_len hc).1; simpa using this.symm)]
        exact h
    | true =>
      simp only [cCode] at h
      cases hc : cOs P ng n ops ops.toList with
      | none => rw [hc] at h; exact h.elim
      | some as =>
        rw [hc] at h
        simp only at h
        split at h
        · rename_i hok
          obtain ⟨_, h⟩ := h
          refine wp_region_draw fun t => ?_
          obtain ⟨e, hw'⟩ := hw.drew
          exact ops_sound hc (free_region hfree) _ hw' (hf.mono e) hda hB (fun e2 a2 w2 hp => hp.trans e fun _ _ => rfl) (h _ (schedule_topo hok _ _))
        · exact h.elim
  | rangeFunc => exact fun _ Q fr m h => h.elim
  | scope => exact fun _ Q fr m h => h.elim
  | label => exact fun _ Q fr m h => h.elim
  | goto => exact fun _ Q fr m h => h.elim
  | refuse => exact fun _ Q fr m h => h.elim

end
end Go.X

/- What is run is so. -/
import Derived.Test.YtnieadkafeohlaaGreatDoorGoxRun3
set_option linter.unusedVariables false
set_option linter.unusedSimpArgs false
namespace Go.X
noncomputable section

def postX (Q : Post) : LEx → FL → EM → Prop
  | .normal, fr, m => Q .normal (frT fr) m.mem
  | .exit id, fr, m => Q (.exit id) (frT fr) m.mem
  | .ret, fr, m => Q .ret (frT fr) m.mem
  | .pan c, _, m => Q (.pan c) (fun _ => .junk) m.mem

section
variable {ng : Glob} {P : Program} {T : Nat → Option AFn} {N : Nat1}

/-- The table is the program's; each of the given functions does what is run for it. -/
structure Env (ng : Glob) (P : Program) (T : Nat → Option AFn) (N : Nat1) : Prop where
  fn : ∀ f a, T f = some a → FnOk P ng f a
  nat : ∀ f args m v m', N f args m = some (v, m') → ∀ (B : Nat → Prop) (Q : ARet → Mem → Prop), Q (.ret v) m'.mem → ACalls ng P B f args m.mem Q

def RecOk (ng : Glob) (P : Program) (ih : Rec) : Prop := ∀ B x fr m e fr' m' Q, ih B x fr m = some (e, fr', m') → postX Q e fr' m' → wpA (ACalls ng P) (· ∈ B) x Q (frT fr) m.mem

theorem callX_ok (hE : Env ng P T N) {ih : Rec} (hi : RecOk ng P ih) {B : List Nat} {f : Nat} {args : List AV} {m m' : EM} {r : ARet} {Q : ARet → Mem → Prop} (h : callX T N ih B f args m = some (r, m')) (hq : Q r m'.mem) :
    ACalls ng P (· ∈ B) f args m.mem Q := by
  unfold callX at h
  split at h
  · rename_i v m1 hn
    simp only [Option.some.injEq, Prod.mk.injEq] at h; obtain ⟨rfl, rfl⟩ := h
    exact hE.nat f args m v m1 hn _ Q hq
  · split at h
    · simp at h
    · rename_i fn hfn
      cases hle : Nat.ble args.length fn.n with
      | false => rw [hle] at h; simp at h
      | true =>
        rw [hle] at h
        simp only [cond_true] at h
        have hl := Nat.le_of_ble_eq_true hle
        split at h
        · rename_i hrc
          have hcf : cFn P ng f = some fn := (hE.fn f fn hfn).resolve_right (by rintro ⟨d, hd, _⟩; exact cRec_rcv hd hrc)
          refine ACalls.of_fn hcf hl ?_
          rw [← frT_ofL]
          split at h
          · rename_i fr m1 hx
            split at h
            · rename_i vs hr
              simp only [Option.some.injEq, Prod.mk.injEq] at h; obtain ⟨rfl, rfl⟩ := h
              exact hi B _ _ m _ _ _ _ hx (resL_ok (K := fun vs => Q (.ret (oneOr vs)) m1.mem) hr hq)
            · simp at h
          · rename_i fr m1 hx
            split at h
            · rename_i vs hr
              simp only [Option.some.injEq, Prod.mk.injEq] at h; obtain ⟨rfl, rfl⟩ := h
              exact hi B _ _ m _ _ _ _ hx (resL_ok (K := fun vs => Q (.ret (oneOr vs)) m1.mem) hr hq)
            · simp at h
          · rename_i c fr m1 hx
            simp only [Option.some.injEq, Prod.mk.injEq] at h; obtain ⟨rfl, rfl⟩ := h
            exact hi B _ _ m _ _ _ (fnPost fn.res Q) hx hq
          · simp at h
        · rename_i r hrc
          obtain ⟨d, hd, hG⟩ := (hE.fn f fn hfn).resolve_left (fun e => by rw [cFn_rcv e] at hrc; cases hrc)
          refine ACalls.of_cRec hd hG hrc hl ?_
          rw [← frT_ofL]
          split at h
          · rename_i fr1 m1 hx0
            refine hi B _ _ m _ _ _ _ hx0 ⟨rfl, ?_⟩
            rw [← frT_set]
            split at h
            · rename_i fr m2 hx
              split at h
              · rename_i vs hr
                simp only [Option.some.injEq, Prod.mk.injEq] at h; obtain ⟨rfl, rfl⟩ := h
                exact hi B _ _ m1 _ _ _ _ hx (resL_ok (K := fun vs => Q (.ret (oneOr vs)) m2.mem) hr hq)
              · simp at h
            · rename_i fr m2 hx
              split at h
              · rename_i vs hr
                simp only [Option.some.injEq, Prod.mk.injEq] at h; obtain ⟨rfl, rfl⟩ := h
                exact hi B _ _ m1 _ _ _ _ hx (resL_ok (K := fun vs => Q (.ret (oneOr vs)) m2.mem) hr hq)
              · simp at h
            · rename_i c fr m2 hx
              cases hp : panIs r.wt c with
              | false => rw [hp] at h; simp at h
              | true =>
                rw [hp] at h
                simp only [cond_true] at h
                split at h
                · rename_i fr3 m3 hx3
                  split at h
                  · rename_i vs hr
                    simp only [Option.some.injEq, Prod.mk.injEq] at h; obtain ⟨rfl, rfl⟩ := h
                    refine hi B _ _ m1 _ _ _ _ hx ⟨panIs_ok hp, ?_⟩
                    rw [← frT_ofL, ← frT_ofL]
                    exact hi B _ _ m2 _ _ _ (fun e _ mm => e = .normal ∧ resK _ mm fn.res fun vs => Q (.ret (oneOr vs)) mm) hx3 ⟨rfl, resL_ok (K := fun vs => Q (.ret (oneOr vs)) m3.mem) hr hq⟩
                  · simp at h
                · simp at h
            · simp at h
          · simp at h

theorem opX_ok (hE : Env ng P T N) {ih : Rec} (hi : RecOk ng P ih) {B : List Nat} {i : AI} {fr : FL} {m m' : EM} {r : ARet} {K : AV → Mem → Prop} {E : List PanicEntry → Mem → Prop} (h : opX T N ih B i fr m = some (r, m')) (hq : back K E r m'.mem) :
    stepI (ACalls ng P) (· ∈ B) i (frT fr) m.mem K E := by
  cases i
  case call f args =>
    simp only [opX] at h
    simp only [stepI, ev_maps]
    exact callX_ok hE hi h hq
  case callv f args =>
    simp only [opX] at h
    simp only [stepI, ev_maps, evL_eq, sCallv]
    split at h
    · rename_i hg
      simp only [hg]
      exact callX_ok hE hi h hq
    · simp at h
  case panic x =>
    simp only [opX] at h
    simp only [stepI, evL_eq, sPanic]
    split at h
    · rename_i hg
      simp only [hg]
      simp only [Option.some.injEq, Prod.mk.injEq] at h; obtain ⟨rfl, rfl⟩ := h
      exact hq
    · simp at h
  all_goals
    simp only [opX] at h
    split at h
    · rename_i v m1 hx
      simp only [Option.some.injEq, Prod.mk.injEq] at h; obtain ⟨rfl, rfl⟩ := h
      exact execI_ok hx hq
    · simp at h

theorem guardX_stepO {C : CallP} {B : Nat → Prop} {o : AO} {fr : FL} {m : Mem} {K : Fr → Mem → Prop} {E : List PanicEntry → Mem → Prop} :
    (guardX fr o = some true → stepI C B o.op (frT fr) m (fun v m' => K (putF (frT fr) o.dst v) m') E → stepO C B o (frT fr) m K E) ∧
    (guardX fr o = some false → K (putF (frT fr) o.dst (.tup [])) m → stepO C B o (frT fr) m K E) := by
  unfold guardX stepO
  cases o.guard with
  | none => exact ⟨fun _ h => h, fun h => by simp at h⟩
  | some jw =>
    obtain ⟨j, want⟩ := jw
    have : frT fr j = fr.get j := rfl
    constructor
    · intro h hk; simp only [this]; simp only at h; rw [h]; exact hk
    · intro h hk; simp only [this]; simp only at h; rw [h]; exact hk

theorem guardX_stepV {C : CallP} {B : Nat → Prop} {o : AO} {fr : FL} {m : Mem} {K : AV → Mem → Prop} {E : List PanicEntry → Mem → Prop} :
    (guardX fr o = some true → stepI C B o.op (frT fr) m K E → stepV C B o (frT fr) m K E) ∧
    (guardX fr o = some false → K (.tup []) m → stepV C B o (frT fr) m K E) := by
  unfold guardX stepV
  cases o.guard with
  | none => exact ⟨fun _ h => h, fun h => by simp at h⟩
  | some jw =>
    obtain ⟨j, want⟩ := jw
    have : frT fr j = fr.get j := rfl
    constructor
    · intro h hk; simp only [this]; simp only at h; rw [h]; exact hk
    · intro h hk; simp only [this]; simp only at h; rw [h]; exact hk

theorem runX_ok (hE : Env ng P T N) {ih : Rec} (hi : RecOk ng P ih) {B : List Nat} {Q : Post} : ∀ {ops : List AO} {fr : FL} {m : EM} {e : LEx} {fr' : FL} {m' : EM}, runX T N ih B ops fr m = some (e, fr', m') → postX Q e fr' m' →
    runA (ACalls ng P) (· ∈ B) (fun c m => Q (.pan c) (fun _ => .junk) m) ops (Q .normal) (frT fr) m.mem
  | [], fr, m, e, fr', m', h, hq => by
    simp only [runX_nil, Option.some.injEq, Prod.mk.injEq] at h; obtain ⟨rfl, rfl, rfl⟩ := h
    exact hq
  | o :: os, fr, m, e, fr', m', h, hq => by
    simp only [runX_cons] at h
    simp only [runA]
    split at h
    · rename_i hg
      refine guardX_stepO.1 hg ?_
      split at h
      · rename_i v m1 hx
        refine opX_ok hE hi hx ?_
        have := runX_ok hE hi h hq
        rw [frT_putL] at this
        exact this
      · rename_i c m1 hx
        simp only [Option.some.injEq, Prod.mk.injEq] at h; obtain ⟨rfl, rfl, rfl⟩ := h
        exact opX_ok hE hi hx hq
      · simp at h
    · rename_i hg
      refine guardX_stepO.2 hg ?_
      have := runX_ok hE hi h hq
      rw [frT_putL] at this
      exact this
    · simp at h

def rdAt (ops : List AO) (i : Nat) : Bool := match ops[i]? with
  | some o => o.op.rd
  | none => false

theorem okS_ok {S : List Nat} {m : EM} (h : okS S m = true) : ∀ s ∈ S, s < m.nx ∧ m.mem s ≠ none := by
  intro s hs
  simp only [okS, List.all_eq_true, Bool.and_eq_true] at h
  obtain ⟨h1, h2⟩ := h s hs
  refine ⟨by have := Nat.le_of_ble_eq_true h1; omega, fun h3 => ?_⟩
  have : m.t.get s = none := h3
  rw [this] at h2; simp at h2

theorem sepB_ok {a b : AO} (h : sepB a b = true) : sepAO usesOf a b := by
  simp only [sepB, Bool.and_eq_true, List.all_eq_true, Bool.not_eq_true', List.contains_eq_mem, decide_eq_false_iff_not] at h
  obtain ⟨⟨h1, h2⟩, h3⟩ := h
  refine ⟨fun d hd => h1 d (by simp [dstOf, hd]), fun d hd => h2 d (by simp [dstOf, hd]), fun d hd hb => ?_⟩
  exact h3 d (by simp [dstOf, hd]) (by simp [dstOf, hb])

theorem drawX_ok (hE : Env ng P T N) {ih : Rec} (hi : RecOk ng P ih) {B : List Nat} {Q : Post} {ops : List AO} {anc : List (List Nat)} : ∀ {τ : List Nat} {pend : List (Nat × List Nat)} {fr : FL} {m : EM} {e : LEx} {fr' : FL} {m' : EM},
    drawX T N ih B ops anc τ pend fr m = some (e, fr', m') → orderOk ops anc τ = true → postX Q e fr' m' →
    canonP (ACalls ng P) (· ∈ B) (fun c m => Q (.pan c) (fun _ => .junk) m) usesOf (rdAt ops) (fun i => anc.getD i []) ops (Q .normal) τ pend (frT fr) m.mem
  | [], pend, fr, m, e, fr', m', h, ho, hq => by
    simp only [drawX, Option.some.injEq, Prod.mk.injEq] at h; obtain ⟨rfl, rfl, rfl⟩ := h
    exact hq
  | i :: τ, pend, fr, m, e, fr', m', h, ho, hq => by
    simp only [drawX] at h
    split at h
    · simp at h
    · rename_i o hop
      simp only [orderOk, hop, Bool.and_eq_true] at ho
      obtain ⟨ho1, ho2⟩ := ho
      refine ⟨o, hop, ?_⟩
      cases hrd : o.op.rd with
      | true =>
        have hra : rdAt ops i = true := by simp [rdAt, hop, hrd]
        rw [if_pos hra]
        rw [hrd] at ho1
        simp only [cond_true, List.all_eq_true, Bool.or_eq_true, List.contains_eq_mem, decide_eq_true_eq] at ho1
        refine ⟨fun j hj => ?_, ?_⟩
        · rcases ho1 j hj with h1 | h1
          · exact Or.inl h1
          · refine Or.inr fun oj hoj => ?_
            rw [hoj] at h1
            exact sepB_ok h1
        · split at h
          · rename_i hg
            rw [hrd] at h
            simp only [cond_true] at h
            cases hs : okS (objsOf o.op fr) m with
            | false => rw [hs] at h; simp at h
            | true =>
              rw [hs] at h
              simp only [cond_true] at h
              split at h
              · rename_i v hv
                refine ⟨v, objsOf o.op fr, ⟨fun s hs' => (okS_ok hs s hs').2, fun fr2 m2 ha hf Z hz => ?_⟩, ?_⟩
                · rw [stepV_congr hf]
                  refine guardX_stepV.1 hg (rdI_ok (rdI_mono ?_ hv) hz)
                  intro q x hx
                  simp only [part1] at hx
                  cases hb : inB (objsOf o.op fr) q with
                  | false => rw [hb] at hx; simp at hx
                  | true =>
                    rw [hb] at hx
                    have hm : q ∈ objsOf o.op fr := by
                      simp only [inB, List.any_eq_true] at hb
                      obtain ⟨y, hy, hyq⟩ := hb
                      have := Nat.eq_of_beq_eq_true hyq
                      rw [this]; exact hy
                    rw [ha q hm]
                    exact hx
                · have := drawX_ok hE hi h ho2 hq
                  rw [frT_putL] at this
                  exact this
              · simp at h
          · rename_i hg
            rw [hrd] at h
            simp only [cond_true] at h
            refine ⟨.tup [], [], ⟨fun s hs => by simp at hs, fun fr2 m2 _ hf Z hz => ?_⟩, ?_⟩
            · rw [stepV_congr hf]
              exact guardX_stepV.2 hg hz
            · have := drawX_ok hE hi h ho2 hq
              rw [frT_putL] at this
              exact this
          · simp at h
      | false =>
        have hra : ¬ rdAt ops i = true := by simp [rdAt, hop, hrd]
        rw [if_neg hra]
        rw [hrd] at ho1
        simp only [cond_false, List.all_eq_true, List.contains_eq_mem, decide_eq_true_eq] at ho1
        refine ⟨fun j hj => ho1 j hj, ?_⟩
        split at h
        · rename_i hg
          rw [hrd] at h
          simp only [cond_false] at h
          cases hs : okS (protOf (fun i => anc.getD i []) pend i) m with
          | false => rw [hs] at h; simp at h
          | true =>
            rw [hs] at h
            simp only [cond_true] at h
            split at h
            · rename_i v m1 hx
              have hk := drawX_ok hE hi h ho2 hq
              rw [frT_putL] at hk
              refine ⟨fun s hs' => (okS_ok hs s hs').2, ?_⟩
              have hB : ∀ (S : List Nat), (fun x => x ∈ S ++ B) = fun x => x ∈ B ∨ x ∈ S := by
                intro S; funext x; simp [or_comm]
              cases hop2 : o.op
              case call f args =>
                rw [hop2] at hx
                simp only [opX] at hx
                refine Or.inr ⟨f, args.map (evL fr), fun fr2 hf Z hz => ?_, ?_⟩
                · rw [stepV_congr hf]
                  refine guardX_stepV.1 hg ?_
                  rw [hop2]; simp only [stepI, ev_maps]; exact hz
                · have := fun Q hk => callX_ok (Q := Q) hE hi hx hk
                  rw [hB] at this
                  exact this _ hk
              case callv f args =>
                rw [hop2] at hx
                simp only [opX] at hx
                split at hx
                · rename_i g fst caps hgf
                  refine Or.inr ⟨g, fst ++ args.map (evL fr) ++ caps, fun fr2 hf Z hz => ?_, ?_⟩
                  · rw [stepV_congr hf]
                    refine guardX_stepV.1 hg ?_
                    rw [hop2]; simp only [stepI, ev_maps, evL_eq, sCallv, hgf]; exact hz
                  · have := fun Q hk => callX_ok (Q := Q) hE hi hx hk
                    rw [hB] at this
                    exact this _ hk
                · simp at hx
              case panic x =>
                rw [hop2] at hx
                simp only [opX] at hx
                split at hx <;> simp at hx
              all_goals
                rw [hop2] at hx
                simp only [opX] at hx
                split at hx
                · rename_i v2 m2 hx2
                  simp only [Option.some.injEq, Prod.mk.injEq, ARet.ret.injEq] at hx; obtain ⟨rfl, rfl⟩ := hx
                  obtain ⟨h1, h2⟩ := execI_left hx2
                  refine Or.inl ⟨_, _, fun fr2 hf Z hz => ?_, fun s hs' => h2 s hs' (okS_ok hs s hs').1, hk⟩
                  rw [stepV_congr hf]
                  refine guardX_stepV.1 hg ?_
                  rw [hop2]; exact execI_ok h1 hz
                · simp at hx
            · simp at h
        · rename_i hg
          rw [hrd] at h
          simp only [cond_false] at h
          cases hs : okS (protOf (fun i => anc.getD i []) pend i) m with
          | false => rw [hs] at h; simp at h
          | true =>
            rw [hs] at h
            simp only [cond_true] at h
            have hk := drawX_ok hE hi h ho2 hq
            rw [frT_putL] at hk
            refine ⟨fun s hs' => (okS_ok hs s hs').2, Or.inl ⟨_, _, fun fr2 hf Z hz => ?_, fun _ _ => rfl, hk⟩⟩
            rw [stepV_congr hf]
            exact guardX_stepV.2 hg hz
        · simp at h

end
end
end Go.X

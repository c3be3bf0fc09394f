/- Library functions by the kit's contracts: slices.Sorted over maps.Keys, for texts and for numbers. -/
import Derived.Test.YtnieadkafeohlaaGreatDoorGoxRun5
import Derived.Lib.SlKeysI
import Derived.Maps.Own
import Derived.Below
set_option linter.unusedVariables false
set_option linter.unusedSimpArgs false
namespace Go.X
noncomputable section
open Go.WideElems (Fit rd rg)
open Go.Maps Go.RowKit

/-! ### Sorting, run -/
section
variable {α : Type}
def insL (lt : α → α → Bool) (k : α) : List α → List α
  | [] => [k]
  | x :: l => bif lt k x then k :: x :: l else x :: insL lt k l
def sortL (lt : α → α → Bool) : List α → List α
  | [] => []
  | x :: l => insL lt x (sortL lt l)
def chainL (lt : α → α → Bool) : List α → Bool
  | x :: y :: l => lt x y && chainL lt (y :: l)
  | _ => true

theorem insL_perm (lt : α → α → Bool) (k : α) : ∀ l, (insL lt k l).Perm (k :: l)
  | [] => .refl _
  | x :: l => by
    unfold insL
    cases lt k x with
    | true => exact .refl _
    | false => exact ((insL_perm lt k l).cons x).trans (.swap _ _ _)
theorem sortL_perm (lt : α → α → Bool) : ∀ l, (sortL lt l).Perm l
  | [] => .refl _
  | x :: l => (insL_perm lt x _).trans ((sortL_perm lt l).cons x)

theorem chainL_pairwise {lt : α → α → Bool} (ht : ∀ a b c, lt a b = true → lt b c = true → lt a c = true) : ∀ {l : List α}, chainL lt l = true → l.Pairwise fun a b => lt a b = true
  | [], _ => .nil
  | [x], _ => .cons (by simp) .nil
  | x :: y :: l, h => by
    simp only [chainL, Bool.and_eq_true] at h
    have ih := chainL_pairwise ht h.2
    refine .cons (fun z hz => ?_) ih
    rcases List.mem_cons.1 hz with rfl | hz
    · exact h.1
    · exact ht _ _ _ h.1 ((List.pairwise_cons.1 ih).1 z hz)
end

/-- A kind of key. -/
structure SK (α : Type) where
  av : α → AV
  enc : α → Value
  lit : α → Lit
  un : Lit → α
  lt : α → α → Bool
  le : α → α → Bool
  ok : α → Bool
  ik : Option IntKind
  key : α → Key
  ofKey : Key → Option α
  desc : TypeDesc
  av_V : ∀ κ w a, V κ w (av a) (enc a)
  av_inv : ∀ κ w a v, V κ w (av a) v → v = enc a
  one : ∀ a, (av a).one = true
  un_lit : ∀ a, un (lit a) = a
  enc_inj : ∀ a b, enc a = enc b → a = b
  lt_le : ∀ a b, lt a b = true → le a b = true
  lt_ne : ∀ a, lt a a = false
  lt_trans : ∀ a b c, lt a b = true → lt b c = true → lt a c = true
  le_trans : ∀ a b c, le a b = true → le b c = true → le a c = true
  le_total : ∀ a b, (le a b || le b a) = true
  le_antisymm : ∀ a b, le a b = true → le b a = true → a = b
  keyed : ∀ P k a, Program.underlying P k = some desc → ok a = true → Go.keyOf P k (enc a) = some (lit a)
  of_key : ∀ k a, ofKey k = some a → k.av ik = av a

def SK.keys {α : Type} (S : SK α) : DataW Unit → List α
  | .map es => es.map fun p => S.un p.1
  | _ => []

def SK.ofKeys {α : Type} (S : SK α) : List (Key × AV × Nat) → Option (List α)
  | [] => some []
  | e :: l => match S.ofKey e.1, S.ofKeys l with
    | some a, some r => some (a :: r)
    | _, _ => none

theorem SK.ofKeys_av {α : Type} (S : SK α) : ∀ {es : List (Key × AV × Nat)} {l : List α}, S.ofKeys es = some l → es.map (fun e => e.1.av S.ik) = l.map S.av
  | [], l, h => by simp [SK.ofKeys] at h; subst h; rfl
  | e :: es, l, h => by
    simp only [SK.ofKeys] at h
    split at h
    · rename_i a r h1 h2
      simp at h; subst h
      simp [S.of_key _ _ h1, S.ofKeys_av h2]
    · simp at h

/-- The natives' abstract call. -/
def natSorted {α : Type} (S : SK α) (g : Nat) (args : List AV) (m : EM) : Option (AV × EM) :=
  match args with
  | [.fn g' [] [.bptr (.val (.map none))]] => bif Nat.beq g' g then some (.sl .nil 0 [], m) else none
  | [.fn g' [] [.bptr (.mp o)]] => bif Nat.beq g' g then (match m.t.get o with
    | some (.map ik es clk) => (match S.ofKeys es with
      | some ks => bif decide (ik = S.ik) && ks.all S.ok && chainL Nat.blt (es.map (·.2.2)) && (es.all fun e => Nat.blt e.2.2 clk) && chainL S.lt (sortL S.lt ks) && Nat.blt es.length 1000000 then
          (match sortL S.lt ks with
            | [] => some (.sl .nil 0 [], m)
            | k :: l => (match m.new (.cells ((k :: l).map S.av)) with
              | some m' => some (.osl m.nx 1 0 (k :: l).length, m')
              | none => none)) else none
      | none => none)
    | _ => none) else none
  | _ => none

/-- What the kit says of slices.Sorted. -/
structure SortedC {α : Type} (S : SK α) (P : Program) (f g : Nat) (K : TypeId) : Prop where
  bod : bodied P f = true
  und : P.underlying K = some S.desc
  run : ∀ (Bm b nn : Nat) (D0 : DataW Unit) (R : Value → Option (DataW Unit × List MemPlace)) (w : World), Bm < w.heap.size → w.cell? ⟨Bm, 0, none⟩ = some (.map (some b)) → w.ownsMap P K R b nn D0 → Maps.size D0 ≤ 1000000 →
    Calls P f #[.func (.func g) #[] #[.pointer (some ⟨Bm, 0, none⟩)]] w fun e w' => ∃ (v : Value) (ss : List α), e = .returned v ∧ ss.Perm (S.keys D0) ∧
      w'.ownsRow w.heap.size K 1 v ss.length ((ss.mergeSort S.le).map S.enc) ∧ (v = .slice none 0 0 ↔ ss = []) ∧ Below w.heap.size w w'
  runNil : ∀ (Bm : Nat) (w : World), Bm < w.heap.size → w.cell? ⟨Bm, 0, none⟩ = some (.map none) →
    Calls P f #[.func (.func g) #[] #[.pointer (some ⟨Bm, 0, none⟩)]] w fun e w' => e = .returned (.slice none 0 0) ∧ Below w.heap.size w w'

section
variable {ng : Glob} {P : Program} {α : Type} {S : SK α}

/-- What lay before is as it was. -/
theorem RelW.below {κ : Kap} {m : Mem} {w w' : World} (hw : RelW ng κ m w) (hb : Below w.heap.size w w') : Evo κ w κ w' ∧ RelW ng κ m w' := by
  have e : Evo κ w κ w' := ⟨fun _ _ x => x, fun _ x => x, fun b x => hb.block b (hw.retb b x), fun b c e fz x => ⟨c, e, fz, (hb.block b (lt_of_heap x)).trans x, rfl⟩, hb.size, hb.tape, hb.os, hb.output, rfl⟩
  refine ⟨e, ?_⟩
  exact {
    glob := fun g cs hg => (hw.glob g cs hg).mono e
    obj := fun i y hi => by
      obtain ⟨b1, base1, hr1, hx1, hn1⟩ := hw.obj i y hi
      exact ⟨b1, base1, hr1, hx1.mono e (hb.block b1 (hw.bound _ _ _ hr1)), hn1⟩
    inj := hw.inj
    bound := fun i b1 base1 hr1 => Nat.lt_of_lt_of_le (hw.bound i b1 base1 hr1) hb.size
    retb := fun i hi => Nat.lt_of_lt_of_le (hw.retb i hi) hb.size
    fresh := hw.fresh
    sig := hw.sig }

theorem V.bptr_inv {κ : Kap} {w : World} {x : AV} {v : Value} (h : V κ w (.bptr x) v) : ∃ b u, v = .pointer (some ⟨b, 0, none⟩) ∧ κ.ret b ∧ w.cell? ⟨b, 0, none⟩ = some u ∧ V κ w x u := by
  cases h with
  | bptr x b u hr hc hv => exact ⟨b, u, rfl, hr, hc, hv⟩

theorem V.fn1_inv {κ : Kap} {w : World} {g : FuncId} {x : AV} {v : Value} (h : V κ w (.fn g [] [x]) v) : ∃ u, v = .func (.func g) #[] #[u] ∧ V κ w x u := by
  cases h with
  | fn f fst caps us vs hl hv hl2 hv2 =>
    obtain rfl : us = [] := List.eq_nil_of_length_eq_zero (by simpa using hl.symm)
    match vs, hl2, hv2 with
    | [u], _, hv2 => exact ⟨u, rfl, hv2 0 x u rfl rfl⟩

theorem mergeSort_sorted (S : SK α) {ss ks : List α} (hp : ss.Perm ks) (hs : ks.Pairwise fun a b => S.lt a b = true) : ss.mergeSort S.le = ks := by
  refine List.Perm.eq_of_pairwise (le := fun a b => S.le a b = true) (fun a b _ _ h1 h2 => S.le_antisymm a b h1 h2) (List.pairwise_mergeSort (fun a b c => S.le_trans a b c) (fun a b => S.le_total a b) ss) (hs.imp fun {a b} h => S.lt_le a b h) ((List.mergeSort_perm ss S.le).trans hp)

theorem blt_trans (a b c : Nat) (h1 : Nat.blt a b = true) (h2 : Nat.blt b c = true) : Nat.blt a c = true := by
  simp only [Nat.blt_eq] at *; omega

theorem natSorted_ok {f g : Nat} {K : TypeId} (hC : SortedC S P f g K) {args : List AV} {m m' : EM} {v : AV} (h : natSorted S g args m = some (v, m')) (B : Nat → Prop) (Q : ARet → Mem → Prop) (hq : Q (.ret v) m'.mem) :
    ACalls ng P B f args m.mem Q := by
  refine ⟨hC.bod, fun κ w vs hw hv hB => ?_⟩
  unfold natSorted at h
  split at h
  · -- nil
    rename_i g'
    cases hg : Nat.beq g' g with
    | false => rw [hg] at h; simp at h
    | true =>
      rw [hg] at h
      simp only [cond_true, Option.some.injEq, Prod.mk.injEq] at h; obtain ⟨rfl, rfl⟩ := h
      obtain rfl := Nat.eq_of_beq_eq_true hg
      obtain ⟨u, vs', rfl, hu, hvs⟩ := hv.inv_cons
      obtain rfl := hvs.inv_nil
      obtain ⟨x, rfl, hx⟩ := hu.fn1_inv
      obtain ⟨b, y, rfl, hr, hc, hy⟩ := hx.bptr_inv
      obtain rfl := hy.val_inv
      refine (hC.runNil b w (hw.retb b hr) hc).mono ?_
      rintro e w' ⟨rfl, hb⟩
      obtain ⟨ev, hw'⟩ := hw.below hb
      exact ⟨κ, _, _, ev, hw', .nil, fun _ _ => rfl, hq⟩
  · rename_i g' o
    cases hg : Nat.beq g' g with
    | false => rw [hg] at h; simp at h
    | true =>
      rw [hg] at h
      simp only [cond_true] at h
      obtain rfl := Nat.eq_of_beq_eq_true hg
      split at h
      · rename_i ik es clk hm
        split at h
        · rename_i ks hks
          cases hc : (decide (ik = S.ik) && ks.all S.ok && chainL Nat.blt (es.map (·.2.2)) && (es.all fun e => Nat.blt e.2.2 clk) && chainL S.lt (sortL S.lt ks) && Nat.blt es.length 1000000) with
          | false => rw [hc] at h; simp at h
          | true =>
            rw [hc] at h
            simp only [cond_true] at h
            simp only [Bool.and_eq_true, decide_eq_true_eq, List.all_eq_true, Nat.blt_eq] at hc
            obtain ⟨⟨⟨⟨⟨rfl, hok⟩, hborn⟩, hclk⟩, hsorted⟩, hlen⟩ := hc
            obtain ⟨u, vs', rfl, hu, hvs⟩ := hv.inv_cons
            obtain rfl := hvs.inv_nil
            obtain ⟨x, rfl, hx⟩ := hu.fn1_inv
            obtain ⟨b, y, rfl, hr, hcell, hy⟩ := hx.bptr_inv
            obtain ⟨mb, base, hρ, rfl⟩ : ∃ mb base, κ.ρ o = some (mb, base) ∧ y = .map (some mb) := by
              cases hy with
              | mp o b base hρ => exact ⟨b, base, hρ, rfl⟩
            have hmo : m.mem o = some (.map S.ik es clk) := hm
            obtain ⟨b1, base1, hρ1, hrel, hnr⟩ := hw.obj o _ hmo
            rw [hρ] at hρ1; simp only [Option.some.injEq, Prod.mk.injEq] at hρ1; obtain ⟨rfl, rfl⟩ := hρ1
            obtain ⟨rfl, ents, hheap, hkeys, hvals, hborns, hkok⟩ := hrel
            have hav := S.ofKeys_av hks
            rw [hav] at hkeys
            have hkeq : ents.toList.map (·.key) = ks.map S.enc := by
              have hl := hkeys.1
              refine List.ext_getElem (by simpa using hl.symm) fun i h1 h2 => ?_
              have hi : i < ks.length := by simpa using h2
              have := hkeys.2 i (S.av ks[i]) ((ents.toList.map (·.key))[i]) (by simp [List.getElem?_map, List.getElem?_eq_getElem hi]) (List.getElem?_eq_getElem h1)
              rw [S.av_inv _ _ _ _ this]; simp
            have hsz : ents.size = es.length := by
              have := congrArg List.length hborns; simpa using this.symm
            have hkl : ks.length = es.length := by have := congrArg List.length hav; simpa using this.symm
            have hsp := sortL_perm S.lt ks
            have hpw := chainL_pairwise S.lt_trans hsorted
            have hnd : ks.Nodup := hsp.nodup_iff.1 (hpw.imp fun {a b} h e => by subst e; rw [S.lt_ne] at h; cases h)
            let R : Value → Option (DataW Unit × List MemPlace) := fun _ => some (.nil, [])
            have hrd : ∀ x ∈ ents.toList, ∃ a ∈ ks, x.key = S.enc a := by
              intro x hx
              have : x.key ∈ ents.toList.map (·.key) := List.mem_map_of_mem hx
              rw [hkeq] at this
              obtain ⟨a, ha, he⟩ := List.mem_map.1 this
              exact ⟨a, ha, he.symm⟩
            have hrd2 : ∀ x ∈ ents.toList, ∀ a ∈ ks, x.key = S.enc a → rd P K R x = some (S.lit a, .nil) := by
              intro x hx a ha he
              simp [rd, he, S.keyed P K a hC.und (hok a ha), R]
            have hFit : Fit P K R ents clk := by
              refine ⟨by simp only [maxLen]; omega, ⟨fun x hx => ?_, ?_, ?_⟩, fun x hx => ?_⟩
              · have : x.born ∈ ents.toList.map (·.born) := List.mem_map_of_mem hx
                rw [← hborns] at this
                obtain ⟨e, he, hb⟩ := List.mem_map.1 this
                have := hclk e he
                omega
              · rw [← hborns]
                exact (chainL_pairwise blt_trans hborn).imp fun {a b} h => by rw [Nat.blt_eq] at h; omega
              · rw [hkeq]
                exact List.pairwise_map.2 (hnd.imp fun {a b} h e => h (S.enc_inj _ _ e))
              · obtain ⟨a, ha, he⟩ := hrd x hx
                exact ⟨_, hrd2 x hx a ha he⟩
            have hown : w.ownsMap P K R mb ents.size (.map ((ents.toList.map (rg P K R)).foldr DataW.insert [])) := ⟨ents, clk, hheap, hFit, Nat.le_refl _, rfl⟩
            have hrgs : (ents.toList.map (rg P K R)).map (fun p => S.un p.1) = ks := by
              have e1 : (ents.toList.map (rg P K R)).map (fun p => S.un p.1) = (ents.toList.map (·.key)).map fun v => S.un ((Go.keyOf P K v).getD (.bool false)) := by
                rw [List.map_map, List.map_map]
                refine List.map_congr_left fun x hx => ?_
                obtain ⟨a, ha, he⟩ := hrd x hx
                simp [rg, hrd2 x hx a ha he, he, S.keyed P K a hC.und (hok a ha)]
              rw [e1, hkeq, List.map_map]
              conv => rhs; rw [← List.map_id ks]
              refine List.map_congr_left fun a ha => ?_
              simp [S.keyed P K a hC.und (hok a ha), S.un_lit]
            have hkp : (S.keys (.map ((ents.toList.map (rg P K R)).foldr DataW.insert []))).Perm ks := by
              have := (WideShapes.sorted_perm (ents.toList.map (rg P K R))).map (fun p : Lit × DataW Unit => S.un p.1)
              rw [hrgs] at this
              exact this
            have hsize : Maps.size (.map ((ents.toList.map (rg P K R)).foldr DataW.insert []) : DataW Unit) ≤ 1000000 := by
              have h1 : Maps.size (.map ((ents.toList.map (rg P K R)).foldr DataW.insert []) : DataW Unit) = ((ents.toList.map (rg P K R)).foldr DataW.insert []).length := rfl
              rw [h1, (WideShapes.sorted_perm (ents.toList.map (rg P K R))).length_eq]
              simp; omega
            refine (hC.run b mb ents.size _ R w (hw.retb b hr) hcell hown hsize).mono ?_
            rintro e w' ⟨v1, ss, rfl, hss, hrow, hnil, hb⟩
            obtain ⟨ev, hw'⟩ := hw.below hb
            have hmerge : ss.mergeSort S.le = sortL S.lt ks := mergeSort_sorted S ((hss.trans hkp).trans hsp.symm) hpw
            rw [hmerge] at hrow
            have hssl : ss.length = (sortL S.lt ks).length := by rw [((hss.trans hkp).trans hsp.symm).length_eq]
            split at h
            · rename_i hz
              simp only [Option.some.injEq, Prod.mk.injEq] at h; obtain ⟨rfl, rfl⟩ := h
              have : ss = [] := List.eq_nil_of_length_eq_zero (by rw [hssl, hz]; rfl)
              obtain rfl := hnil.2 this
              exact ⟨κ, _, _, ev, hw', .nil, fun _ _ => rfl, hq⟩
            · rename_i k l hz
              split at h
              · rename_i m1 hm1
                simp only [Option.some.injEq, Prod.mk.injEq] at h; obtain ⟨rfl, rfl⟩ := h
                rw [hz] at hrow
                have hnx : m.mem.nx = m.nx := rfl
                rcases hrow.2 with ⟨_, h0⟩ | ⟨gb, cap, cur, rfl, hbase, hgb, r1, r2, r3, r4⟩
                · rw [hssl, hz] at h0; simp at h0
                · have hgl : gb < w'.heap.size := lt_of_heap hgb
                  have hfr : κ.ρ m.nx = none := hw.fresh m.nx (by rw [hnx]; exact Nat.le_refl _)
                  have hm0 : m.mem m.nx = none := hw.none_of hfr
                  have h2 := hw'.put_none (o := m.nx) (b := gb) (base := 0) hfr hgl rfl
                  have e2 := ev.put hfr gb 0
                  have hr2 : (κ.put m.nx gb 0).ρ m.nx = some (gb, 0) := by simp [Kap.put]
                  have hlen2 : ((k :: l).map S.enc).length = ss.length := by simp [hssl, hz]
                  have h3 := h2.own (m := m.mem.bump) (o := m.nx) (x := .cells ((k :: l).map S.av)) hm0 hr2 (by
                    refine ⟨cur, K, (0, 0), hgb, .inl rfl, by rw [r3]; simp only [List.length_map] at hlen2 ⊢; omega, (k :: l).map S.enc, ⟨by simp, fun i c u hc hu => ?_⟩, fun i u hi => ?_, fun x hx => ?_⟩
                    · rw [List.getElem?_map] at hc hu
                      cases hi : (k :: l)[i]? with
                      | none => rw [hi] at hc; simp at hc
                      | some a =>
                        rw [hi] at hc hu
                        simp at hc hu; subst hc hu
                        exact S.av_V _ _ a
                    · rw [← r4, List.getElem?_take] at hi
                      split at hi
                      · simpa using hi
                      · simp at hi
                    · obtain ⟨a, _, rfl⟩ := List.mem_map.1 hx
                      exact S.one a) (fun hret => absurd (hw.retb _ hret) (by omega)) (by
                    intro i y base' hi hri
                    obtain ⟨b1, base1, hr1, _, _⟩ := hw.obj i y hi
                    have hne : i ≠ m.nx := by rintro rfl; rw [hfr] at hr1; simp at hr1
                    simp only [Kap.put, if_neg hne] at hri
                    have := hw.bound i _ _ hri; omega)
                  have hmm : m1.mem = m.mem.new (.cells ((k :: l).map S.av)) := EM.new_mem hm1
                  have h4 : RelW ng (κ.put m.nx gb 0) m1.mem w' := by rw [hmm]; exact h3
                  refine ⟨κ.put m.nx gb 0, m1.mem, _, e2, h4, ?_, fun o ho => ?_, hq⟩
                  · have h5 : ss.length = (k :: l).length := by rw [hssl, hz]
                    have := V.osl (κ := κ.put m.nx gb 0) (w := w') m.nx 1 0 (k :: l).length gb 0 0 cap cur K (0, 0) hr2 hgb (fun _ => rfl) (by omega) (by omega)
                    rw [h5]
                    simpa using this
                  · rw [hmm, Mem.new_apply]
                    rw [if_neg]
                    rintro rfl
                    have := hB _ ho
                    obtain ⟨_, hx⟩ : ∃ x, m.mem m.mem.nx = some x := by
                      cases hx : m.mem m.mem.nx with
                      | none => simp [hx] at this
                      | some x => exact ⟨x, rfl⟩
                    rw [hnx] at hx; rw [hm0] at hx; cases hx
              · simp at h
        · simp at h
      · simp at h
  · simp at h
end

end
end Go.X

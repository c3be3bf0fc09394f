/- The natives' table: maps.Keys, slices.Sorted over texts and over numbers. -/
import Derived.Test.YtnieadkafeohlaaGreatDoorGoxNat
set_option linter.unusedVariables false
set_option linter.unusedSimpArgs false
namespace Go.X
noncomputable section
open Go.WideElems (Fit rd rg)
open Go.Maps Go.RowKit
open Go.Proofs (encStr)

def ltB : List UInt8 → List UInt8 → Bool
  | [], [] => false
  | [], _ :: _ => true
  | _ :: _, [] => false
  | a :: l, b :: r => bif Nat.blt a.toNat b.toNat then true else bif Nat.beq a.toNat b.toNat then ltB l r else false

theorem ltB_lt : ∀ {a b : List UInt8}, ltB a b = true ↔ a < b
  | [], [] => by simp [ltB]
  | [], _ :: _ => by simp [ltB]
  | _ :: _, [] => by simp [ltB]
  | a :: l, b :: r => by
    rw [List.cons_lt_cons_iff, ← ltB_lt (a := l) (b := r)]
    rw [show ltB (a :: l) (b :: r) = (bif Nat.blt a.toNat b.toNat then true else bif Nat.beq a.toNat b.toNat then ltB l r else false) from rfl]
    cases h : Nat.blt a.toNat b.toNat with
    | true =>
      rw [Nat.blt_eq] at h
      simp only [cond_true, true_iff]
      exact .inl (UInt8.lt_iff_toNat_lt.2 h)
    | false =>
      have h1 : ¬ a < b := fun e => by
        rw [UInt8.lt_iff_toNat_lt, ← Nat.blt_eq, h] at e; cases e
      simp only [cond_false]
      cases h2 : Nat.beq a.toNat b.toNat with
      | true =>
        have e := UInt8.toNat_inj.1 (Nat.eq_of_beq_eq_true h2)
        simp only [cond_true]
        exact ⟨fun h => .inr ⟨e, h⟩, fun h => h.elim (fun h => absurd h h1) (·.2)⟩
      | false =>
        have : ¬ a = b := fun e => by subst e; rw [Nat.beq_refl] at h2; cases h2
        simp [h1, this]

def skS : SK (List UInt8) where
  av := .str
  enc := encStr
  lit := .string
  un := fun | .string l => l | _ => []
  lt := ltB
  le := leB
  ok := fun l => Nat.blt l.length 1000000
  ik := none
  key := .s
  ofKey := fun | .s l => some l | _ => none
  desc := .string
  av_V κ w a := .str a
  av_inv κ w a v h := h.str_inv
  one a := rfl
  un_lit a := rfl
  enc_inj a b h := encStr_inj h
  lt_le a b h := by rw [ltB_lt] at h; simp only [leB, decide_eq_true_eq]; exact List.le_of_lt h
  lt_ne a := by
    cases h : ltB a a with
    | false => rfl
    | true => rw [ltB_lt] at h; exact absurd h (List.lt_irrefl a)
  lt_trans a b c h1 h2 := by rw [ltB_lt] at *; exact List.lt_trans h1 h2
  le_trans a b c h1 h2 := by simp only [leB, decide_eq_true_eq] at *; exact List.le_trans h1 h2
  le_total a b := by simp only [leB, Bool.or_eq_true, decide_eq_true_eq]; exact List.le_total a b
  le_antisymm a b h1 h2 := by simp only [leB, decide_eq_true_eq] at *; exact List.le_antisymm h1 h2
  keyed P k a hu ho := by
    rw [Nat.blt_eq] at ho
    have hs : a.toArray.size ≤ maxLen := by simp only [maxLen, List.size_toArray]; omega
    have hs2 : ByteArray.size ⟨a.toArray⟩ ≤ maxLen := hs
    simp [Go.keyOf, hu, mapKey, encStr, hs2]
  of_key k a h := by cases k <;> simp at h; subst h; rfl

def skI : SK Int where
  av := .int .i64
  enc := encZ
  lit := .int .i64
  un := fun | .int _ a => a | _ => 0
  lt := fun a b => decide (a < b)
  le := leI
  ok := fun n => decide (-1000000000 < n) && decide (n < 1000000000)
  ik := some .i64
  key := .i
  ofKey := fun | .i l => some l | _ => none
  desc := .int .i64
  av_V κ w a := .int .i64 a
  av_inv κ w a v h := h.int_inv
  one a := rfl
  un_lit a := rfl
  enc_inj a b h := encZ_inj h
  lt_le a b h := by simp only [leI, decide_eq_true_eq] at *; omega
  lt_ne a := by simp
  lt_trans a b c h1 h2 := by simp only [decide_eq_true_eq] at *; omega
  le_trans a b c h1 h2 := by simp only [leI, decide_eq_true_eq] at *; omega
  le_total a b := by simp only [leI, Bool.or_eq_true, decide_eq_true_eq]; omega
  le_antisymm a b h1 h2 := by simp only [leI, decide_eq_true_eq] at *; omega
  keyed P k a hu ho := by
    simp only [Bool.and_eq_true, decide_eq_true_eq] at ho
    have : (Lit.int .i64 a).wf = true := by 
      have h1 : IntKind.i64.min = -9223372036854775808 := by decide
      have h2 : IntKind.i64.max = 9223372036854775807 := by decide
      simp only [Lit.wf, h1, h2, Bool.and_eq_true, decide_eq_true_eq]; omega
    simp [Go.keyOf, hu, mapKey, encZ, this]
  of_key k a h := by cases k <;> simp at h; subst h; rfl

/-- What the kit says of maps.Keys. -/
structure KeysC (P : Program) (f g : Nat) (M : TypeId) : Prop where
  bod : bodied P f = true
  run : ∀ (mb : Option Nat) (w : World), Calls P f #[.map mb] w fun e w' => e = .returned (.func (.func g) #[] #[.pointer (some ⟨w.heap.size, 0, none⟩)]) ∧ w' = w.alloc (.cells #[.map mb] M)

def natKeys (g : Nat) (args : List AV) (m : EM) : Option (AV × EM) :=
  match args with
  | [.val (.map none)] => some (.fn g [] [.bptr (.val (.map none))], m)
  | [.mp o] => some (.fn g [] [.bptr (.mp o)], m)
  | _ => none

section
variable {ng : Glob} {P : Program}

theorem natKeys_ok {f g : Nat} {M : TypeId} (hC : KeysC P f g M) {args : List AV} {m m' : EM} {v : AV} (h : natKeys g args m = some (v, m')) (B : Nat → Prop) (Q : ARet → Mem → Prop) (hq : Q (.ret v) m'.mem) :
    ACalls ng P B f args m.mem Q := by
  refine ⟨hC.bod, fun κ w vs hw hv hB => ?_⟩
  have key : ∀ (x : AV) (mb : Option Nat), V κ w x (.map mb) → vs = [.map mb] → some (AV.fn g [] [.bptr x], m) = some (v, m') → Calls P f vs.toArray w (EndV ng B κ m.mem w Q) := by
    rintro x mb hx rfl h
    simp only [Option.some.injEq, Prod.mk.injEq] at h; obtain ⟨rfl, rfl⟩ := h
    refine (hC.run mb w).mono ?_
    rintro e w' ⟨rfl, rfl⟩
    obtain ⟨ev, hw'⟩ := hw.newRet (.cells #[.map mb] M)
    refine ⟨_, _, _, ev, hw', ?_, fun _ _ => rfl, hq⟩
    refine .fn g [] [.bptr x] [] [.pointer (some ⟨w.heap.size, 0, none⟩)] rfl (by simp) rfl ?_
    have hb : V (κ.retire w.heap.size) (w.alloc (.cells #[.map mb] M)) (.bptr x) (.pointer (some ⟨w.heap.size, 0, none⟩)) := by
      refine .bptr x _ (.map mb) (.inl rfl) ?_ (hx.mono ev)
      show (match (w.alloc (.cells #[.map mb] M)).heap[w.heap.size]? with | some (.cells c _ _) => c[0]? | _ => none) = _
      rw [heap_push_eq]; rfl
    intro i c u hc hu
    cases i with
    | zero => simp at hc hu; subst hc hu; exact hb
    | succ i => simp at hc
  unfold natKeys at h
  split at h
  · obtain ⟨u, vs', rfl, hu, hvs⟩ := hv.inv_cons
    obtain rfl := hvs.inv_nil
    obtain rfl := hu.val_inv
    exact key _ none (.val _) rfl h
  · obtain ⟨u, vs', rfl, hu, hvs⟩ := hv.inv_cons
    obtain rfl := hvs.inv_nil
    cases hu with
    | mp _ b base hρ => exact key _ (some b) (.mp _ b base hρ) rfl h
  · simp at h

/-- A native. -/
inductive NatE where
  | keys (g : Nat)
  | sortS (gs : List Nat)
  | sortI (gs : List Nat)

def firstN {α : Type} (S : SK α) : List Nat → List AV → EM → Option (AV × EM)
  | [], _, _ => none
  | g :: l, args, m => match natSorted S g args m with
    | some r => some r
    | none => firstN S l args m

theorem firstN_some {α : Type} {S : SK α} {args : List AV} {m : EM} {r : AV × EM} : ∀ {l : List Nat}, firstN S l args m = some r → ∃ g ∈ l, natSorted S g args m = some r
  | [], h => by simp [firstN] at h
  | g :: l, h => by
    simp only [firstN] at h
    split at h
    · rename_i r' hr
      simp at h; subst h
      exact ⟨g, by simp, hr⟩
    · obtain ⟨g', hg, h'⟩ := firstN_some h
      exact ⟨g', List.mem_cons_of_mem _ hg, h'⟩

def NatE.run : NatE → List AV → EM → Option (AV × EM)
  | .keys g => natKeys g
  | .sortS g => firstN skS g
  | .sortI g => firstN skI g

def natOf : List (Nat × NatE) → Nat → Option NatE
  | [], _ => none
  | (f, e) :: l, i => bif Nat.beq f i then some e else natOf l i

def natN (tab : List (Nat × NatE)) : Nat1 := fun f args m => match natOf tab f with
  | some e => e.run args m
  | none => none

def NatOk (P : Program) (f : Nat) : NatE → Prop
  | .keys g => ∃ M, KeysC P f g M
  | .sortS gs => ∀ g ∈ gs, ∃ K, SortedC skS P f g K
  | .sortI gs => ∀ g ∈ gs, ∃ K, SortedC skI P f g K

theorem natOf_mem {tab : List (Nat × NatE)} {f : Nat} {e : NatE} (h : natOf tab f = some e) : (f, e) ∈ tab := by
  induction tab with
  | nil => simp [natOf] at h
  | cons x l ih =>
    obtain ⟨f', e'⟩ := x
    simp only [natOf] at h
    cases hb : Nat.beq f' f with
    | true =>
      rw [hb] at h; simp at h; subst h
      rw [Nat.eq_of_beq_eq_true hb]; simp
    | false => rw [hb] at h; exact List.mem_cons_of_mem _ (ih h)

theorem env_of {T : Nat → Option AFn} {tab : List (Nat × NatE)} (hT : ∀ f a, T f = some a → FnOk P ng f a) (ht : ∀ x ∈ tab, NatOk P x.1 x.2) : Env ng P T (natN tab) := by
  refine ⟨hT, fun f args m v m' h B Q hq => ?_⟩
  unfold natN at h
  split at h
  · rename_i e he
    have := ht _ (natOf_mem he)
    cases e with
    | keys g => obtain ⟨M, hC⟩ := this; exact natKeys_ok hC h B Q hq
    | sortS gs => obtain ⟨g, hg, h⟩ := firstN_some h; obtain ⟨K, hC⟩ := this g hg; exact natSorted_ok hC h B Q hq
    | sortI gs => obtain ⟨g, hg, h⟩ := firstN_some h; obtain ⟨K, hC⟩ := this g hg; exact natSorted_ok hC h B Q hq
  · simp at h
end

end
end Go.X

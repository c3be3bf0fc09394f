/- The operations that only compute or read: strings, truth, nil, conversions, slices, maps asked. -/
import Derived.Test.YtnieadkafeohlaaGreatDoorGoxDoes2
import Derived.Laws.Strings
import Derived.Laws.StructEq
import Derived.Laws.Cover2
set_option linter.unusedVariables false
set_option linter.unusedSimpArgs false
namespace Go.X
section
variable {ng : Glob} {P : Program} {B : Nat → Prop} {κ : Kap} {m : Mem} {w : World}

def BinS.op : BinS → BinOp
  | .add => .add | .eql => .eql | .neq => .neq | .lss => .lss | .leq => .leq | .gtr => .gtr | .geq => .geq

theorem mk_toList (l : List UInt8) : (⟨l.toArray⟩ : ByteArray).toList = l := by
  simp [ByteArray.toList_eq]

theorem eqGuard_str (op : BinOp) (t : TypeId) (x y : Operand) (a : ByteArray) (v : Value) : eqGuard op t x y (.string a) v = pure () := by
  unfold eqGuard; cases op <;> rfl
theorem eqGuard_bool (op : BinOp) (t : TypeId) (x y : Operand) (a : Bool) (v : Value) : eqGuard op t x y (.bool a) v = pure () := by
  unfold eqGuard; cases op <;> rfl
theorem eqGuard_float (op : BinOp) (t : TypeId) (x y : Operand) (k : FloatKind) (a : Nat) (v : Value) : eqGuard op t x y (.float k a) v = pure () := by
  unfold eqGuard; cases op <;> rfl
theorem eqGuard_pointer (op : BinOp) (t : TypeId) (x y : Operand) (a : Option Addr) (v : Value) : eqGuard op t x y (.pointer a) v = pure () := by
  unfold eqGuard; cases op <;> rfl
theorem eqGuard_map (op : BinOp) (t : TypeId) (x y : Operand) (a : Option Nat) (v : Value) : eqGuard op t x y (.map a) v = pure () := by
  unfold eqGuard; cases op <;> rfl
theorem eqGuard_slice (op : BinOp) (t : TypeId) (x y : Operand) (a : Option Addr) (n c : Nat) (v : Value) : eqGuard op t x y (.slice a n c) v = pure () := by
  unfold eqGuard; cases op <;> rfl
theorem eqGuard_func (op : BinOp) (t : TypeId) (x y : Operand) (f : Fn) (a c : Array Value) (v : Value) : eqGuard op t x y (.func f a c) v = pure () := by
  unfold eqGuard; cases op <;> rfl
theorem eqGuard_nilFunc (op : BinOp) (t : TypeId) (x y : Operand) (v : Value) : eqGuard op t x y .nilFunc v = pure () := by
  unfold eqGuard; cases op <;> rfl

theorem beq_list (a b : List UInt8) : (a == b) = decide (a = b) := by
  by_cases h : a = b <;> simp [h]

theorem binS_sound (hw : RelW ng κ m w) (op : BinS) (t : TypeId) (xo yo : Operand) {x y : AV} {v u : Value} (hv : V κ w x v) (hu : V κ w y u) {K : AV → Mem → Prop}
    (h : sBinS op x y (fun z => K z m)) : DoesV ng P B κ m w (do eqGuard op.op t xo yo v u; binOp op.op t v u) K := by
  unfold sBinS at h
  split at h
  · rename_i a b
    cases hv; cases hu
    rw [eqGuard_str, pure_bind]
    cases op <;> simp only [BinS.op] at h ⊢
    case add =>
      obtain ⟨h0, h⟩ := h
      refine DoesV.here hw (v := .string (⟨a.toArray⟩ ++ ⟨b.toArray⟩)) ?_ ?_ h
      · have h3 : ¬ ((((⟨a.toArray⟩ : ByteArray).size + (⟨b.toArray⟩ : ByteArray).size : Nat) : Int) > IntKind.i64.max) := by
          have e1 : (⟨a.toArray⟩ : ByteArray).size = a.length := by simp [ByteArray.size]
          have e2 : (⟨b.toArray⟩ : ByteArray).size = b.length := by simp [ByteArray.size]
          rw [e1, e2]; simp [IntKind.max, IntKind.signed, IntKind.bits]; omega
        simp only [binOp, Op.stringOp, if_neg h3, Sem.run_pure]
      · have : ((⟨a.toArray⟩ : ByteArray) ++ ⟨b.toArray⟩) = ⟨(a ++ b).toArray⟩ := by
          apply ByteArray.ext; simp
        rw [this]; exact .str _
    all_goals
      refine DoesV.here hw ?_ (.bool _) h
      simp [binOp, Op.stringOp, mk_toList, beq_list]
  · exact h.elim

theorem run_equalIn_bool (n : Nat) {t : TypeId} (hd : P.underlying t = some .bool) (a b : Bool) : (Op.equalIn (n + 1) t (.bool a) (.bool b)).run P w = .ok (a == b) w := by
  simp only [Op.equalIn, Sem.run_bind, run_underlying' hd, Result.andThen_ok, Sem.run_pure]

theorem binB_sound (hw : RelW ng κ m w) (neg : Bool) {t : TypeId} (hd : P.underlying t = some .bool) (xo yo : Operand) {x y : AV} {v u : Value} (hv : V κ w x v) (hu : V κ w y u) {K : AV → Mem → Prop}
    (h : sBinB neg x y (fun z => K z m)) : DoesV ng P B κ m w (do eqGuard (if neg then .neq else .eql) t xo yo v u; binOp (if neg then .neq else .eql) t v u) K := by
  unfold sBinB at h
  split at h
  · rename_i a b
    cases hv; cases hu
    rw [eqGuard_bool, pure_bind]
    have he : (Op.equal t (.bool a) (.bool b)).run P w = .ok (a == b) w := by
      exact run_equalIn_bool 9999 hd a b
    cases neg with
    | false => exact DoesV.here hw (v := .bool (a == b)) (by simp only [Bool.false_eq_true, if_false, binOp, Sem.run_bind, he, Result.andThen_ok, Sem.run_pure]) (.bool _) (by simpa using h)
    | true => exact DoesV.here hw (v := .bool (!(a == b))) (by simp only [if_true, binOp, Sem.run_bind, he, Result.andThen_ok, Sem.run_pure]) (.bool _) (by simpa [bne] using h)
  · exact h.elim

theorem binF_sound (hw : RelW ng κ m w) (op : BinOp) {t : TypeId} (xo yo : Operand) {x y : AV} {v u : Value} (hv : V κ w x v) (hu : V κ w y u) {K : AV → Mem → Prop}
    (h : sBinF op x y (fun z => K z m)) : DoesV ng P B κ m w (do eqGuard op t xo yo v u; binOp op t v u) K := by
  unfold sBinF at h
  split at h
  · rename_i a b
    cases hv; cases hu
    rw [eqGuard_float, pure_bind]
    cases op <;> simp only at h
    all_goals first
      | exact h.elim
      | exact DoesV.here hw (by simp [binOp, Op.floatCmp]) (.bool _) h
  · exact h.elim

def nilD : NK → TypeDesc → Bool
  | .ptr, .pointer _ => true
  | .map, .map _ _ => true
  | .sl, .slice _ => true
  | .fn, .func .. => true
  | _, _ => false

theorem shape_ptr {x : AV} {v : Value} (hv : V κ w x v) {a : Bool} (ha : isNilP x = some a) : ∃ p, v = .pointer p ∧ p.isNone = a := by
  unfold isNilP at ha
  split at ha <;> simp at ha <;> subst ha <;> cases hv <;> exact ⟨_, rfl, rfl⟩
theorem shape_map {x : AV} {v : Value} (hv : V κ w x v) {a : Bool} (ha : isNilM x = some a) : ∃ p, v = .map p ∧ p.isNone = a := by
  unfold isNilM at ha
  split at ha <;> simp at ha <;> subst ha <;> cases hv <;> exact ⟨_, rfl, rfl⟩
theorem shape_sl {x : AV} {v : Value} (hv : V κ w x v) {a : Bool} (ha : isNilS x = some a) : ∃ p n c, v = .slice p n c ∧ p.isNone = a := by
  unfold isNilS at ha
  split at ha <;> simp at ha <;> subst ha <;> cases hv
  · exact ⟨_, _, _, rfl, rfl⟩
  · refine ⟨_, _, _, rfl, ?_⟩
    rename_i h _ _ _ _ _ _ _ _ _ _
    simp_all
  · exact ⟨_, _, _, rfl, rfl⟩
theorem shape_fn {x : AV} {v : Value} (hv : V κ w x v) {a : Bool} (ha : isNilF x = some a) : (v = .nilFunc ∧ a = true) ∨ ∃ f y z, v = .func f y z ∧ a = false := by
  unfold isNilF at ha
  split at ha <;> simp at ha <;> subst ha <;> cases hv
  · exact Or.inl ⟨rfl, rfl⟩
  · exact Or.inr ⟨_, _, _, rfl, rfl⟩

theorem run_equalIn_ptr (n : Nat) {t e : TypeId} (hd : P.underlying t = some (.pointer e)) (p q : Option Addr) (h : p = none ∨ q = none) : (Op.equalIn (n + 1) t (.pointer p) (.pointer q)).run P w = .ok (p.isNone && q.isNone) w := by
  cases p with
  | none => simp only [Op.equalIn, Sem.run_bind, run_underlying' hd, Result.andThen_ok, Sem.run_pure]; simp
  | some a =>
    obtain rfl : q = none := h.resolve_left (by simp)
    simp only [Op.equalIn, Sem.run_bind, run_underlying' hd, Result.andThen_ok, Sem.run_pure]; simp
theorem run_equalIn_map (n : Nat) {t e k : TypeId} (hd : P.underlying t = some (.map k e)) (p q : Option Nat) (h : p = none ∨ q = none) : (Op.equalIn (n + 1) t (.map p) (.map q)).run P w = .ok (p.isNone && q.isNone) w := by
  cases p with
  | none => simp only [Op.equalIn, Sem.run_bind, run_underlying' hd, Result.andThen_ok, Sem.run_pure]; simp
  | some a =>
    obtain rfl : q = none := h.resolve_left (by simp)
    simp only [Op.equalIn, Sem.run_bind, run_underlying' hd, Result.andThen_ok, Sem.run_pure]; simp
theorem run_equalIn_slice (n : Nat) {t e : TypeId} (hd : P.underlying t = some (.slice e)) (p q : Option Addr) (a b c d : Nat) (h : p = none ∨ q = none) : (Op.equalIn (n + 1) t (.slice p a b) (.slice q c d)).run P w = .ok (p.isNone && q.isNone) w := by
  cases p with
  | none => simp only [Op.equalIn, Sem.run_bind, run_underlying' hd, Result.andThen_ok, Sem.run_pure]; simp
  | some a =>
    obtain rfl : q = none := h.resolve_left (by simp)
    simp only [Op.equalIn, Sem.run_bind, run_underlying' hd, Result.andThen_ok, Sem.run_pure]; simp
theorem run_equalIn_func (n : Nat) {t : TypeId} {a b : Array TypeId} {c : Bool} (hd : P.underlying t = some (.func a b c)) :
    (Op.equalIn (n + 1) t .nilFunc .nilFunc).run P w = .ok true w ∧ (∀ f x y, (Op.equalIn (n + 1) t .nilFunc (.func f x y)).run P w = .ok false w) ∧ ∀ f x y, (Op.equalIn (n + 1) t (.func f x y) .nilFunc).run P w = .ok false w := by
  refine ⟨?_, fun f x y => ?_, fun f x y => ?_⟩ <;> simp only [Op.equalIn, Sem.run_bind, run_underlying' hd, Result.andThen_ok, Sem.run_pure]

theorem none_or {α : Type} {p q : Option α} {a b : Bool} (hp : p.isNone = a) (hq : q.isNone = b) (h : a = true ∨ b = true) : p = none ∨ q = none := by
  rcases h with rfl | rfl
  · exact Or.inl (by simpa using hp)
  · exact Or.inr (by simpa using hq)

theorem equal_nil {k : NK} {t : TypeId} {d : TypeDesc} (hd : P.underlying t = some d) (hk : nilD k d = true) {x y : AV} {v u : Value} (hv : V κ w x v) (hu : V κ w y u) {a b : Bool}
    (ha : isNil k x = some a) (hb : isNil k y = some b) (hab : a = true ∨ b = true) : (Op.equal t v u).run P w = .ok (a && b) w ∧ (∀ op xo yo, eqGuard op t xo yo v u = pure ()) ∧
      binOp .eql t v u = (do pure (.bool (← Op.equal t v u))) ∧ binOp .neq t v u = (do pure (.bool (!(← Op.equal t v u)))) := by
  cases k with
  | ptr =>
    obtain ⟨p, rfl, hp⟩ := shape_ptr hv ha
    obtain ⟨q, rfl, hq⟩ := shape_ptr hu hb
    cases d <;> simp [nilD] at hk
    exact ⟨by subst hp; subst hq; exact run_equalIn_ptr 9999 hd p q (none_or rfl rfl hab), fun op xo yo => eqGuard_pointer .., rfl, rfl⟩
  | map =>
    obtain ⟨p, rfl, hp⟩ := shape_map hv ha
    obtain ⟨q, rfl, hq⟩ := shape_map hu hb
    cases d <;> simp [nilD] at hk
    exact ⟨by subst hp; subst hq; exact run_equalIn_map 9999 hd p q (none_or rfl rfl hab), fun op xo yo => eqGuard_map .., rfl, rfl⟩
  | sl =>
    obtain ⟨p, n, c, rfl, hp⟩ := shape_sl hv ha
    obtain ⟨q, n', c', rfl, hq⟩ := shape_sl hu hb
    cases d <;> simp [nilD] at hk
    exact ⟨by subst hp; subst hq; exact run_equalIn_slice 9999 hd p q _ _ _ _ (none_or rfl rfl hab), fun op xo yo => eqGuard_slice .., rfl, rfl⟩
  | fn =>
    have hv2 := shape_fn hv ha
    have hu2 := shape_fn hu hb
    cases d <;> simp [nilD] at hk
    obtain ⟨e1, e2, e3⟩ := run_equalIn_func (P := P) (w := w) 9999 hd
    rcases hv2 with ⟨rfl, rfl⟩ | ⟨f, y, z, rfl, rfl⟩ <;> rcases hu2 with ⟨rfl, rfl⟩ | ⟨f', y', z', rfl, rfl⟩
    · exact ⟨e1, fun op xo yo => eqGuard_nilFunc .., rfl, rfl⟩
    · exact ⟨e2 _ _ _, fun op xo yo => eqGuard_nilFunc .., rfl, rfl⟩
    · exact ⟨e3 _ _ _, fun op xo yo => eqGuard_func .., rfl, rfl⟩
    · simp at hab

theorem eqNil_sound (hw : RelW ng κ m w) (neg : Bool) {k : NK} {t : TypeId} {d : TypeDesc} (hd : P.underlying t = some d) (hk : nilD k d = true) (xo yo : Operand) {x y : AV} {v u : Value} (hv : V κ w x v) (hu : V κ w y u) {K : AV → Mem → Prop}
    (h : sEqNil k neg x y (fun z => K z m)) : DoesV ng P B κ m w (do eqGuard (if neg then .neq else .eql) t xo yo v u; binOp (if neg then .neq else .eql) t v u) K := by
  have main : ∀ a b, isNil k x = some a → isNil k y = some b → (a = true ∨ b = true) → K (.bool ((a && b) != neg)) m → DoesV ng P B κ m w (do eqGuard (if neg then .neq else .eql) t xo yo v u; binOp (if neg then .neq else .eql) t v u) K := by
    intro a b ha hb hab hK
    obtain ⟨he, hg, h1, h2⟩ := equal_nil hd hk hv hu ha hb hab
    rw [hg, pure_bind]
    cases neg with
    | false => exact DoesV.here hw (v := .bool (a && b)) (by simp only [Bool.false_eq_true, if_false, h1, Sem.run_bind, he, Result.andThen_ok, Sem.run_pure]) (.bool _) (by simpa using hK)
    | true => exact DoesV.here hw (v := .bool (!(a && b))) (by simp only [if_true, h2, Sem.run_bind, he, Result.andThen_ok, Sem.run_pure]) (.bool _) (by simpa using hK)
  unfold sEqNil at h
  split at h
  · rename_i a ha hb; exact main a true ha hb (Or.inr rfl) (by simpa using h)
  · rename_i b _ ha hb; exact main true b ha hb (Or.inl rfl) (by simpa using h)
  · exact h.elim
end
end Go.X

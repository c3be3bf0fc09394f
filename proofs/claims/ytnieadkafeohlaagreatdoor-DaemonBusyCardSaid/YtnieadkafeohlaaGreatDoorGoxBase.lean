/- The abstract machine's values, memory, and the relation that holds between these and the model's world: objects are owned blocks, slices that are told by their content lie in blocks that are never written again. -/
import Derived.Calls
import Derived.Laws.World
set_option linter.unusedVariables false
set_option linter.unusedSimpArgs false
namespace Go.X

/-- Not a struct's or an array's value. -/
def oneCell : Value → Bool
  | .agg _ | .tuple _ => false
  | _ => true

inductive Hdr where
  | nil | full | any
  deriving DecidableEq

inductive AV where
  | int (k : IntKind) (n : Int)
  | bool (b : Bool)
  | str (l : List UInt8)
  | f64 (bits : Nat)
  | val (v : Value)
  | ptr (o off : Nat)
  | osl (o sz off n : Nat)
  | sl (h : Hdr) (n : Nat) (cs : List AV)
  | mp (o : Nat)
  | fn (f : FuncId) (fst caps : List AV)
  | sptr (cs : List AV) (off : Nat)
  | bptr (x : AV)
  | isym (k : IntKind) (i : Nat)
  | ifc (t : TypeId) (v : AV)
  | agg (cs : List AV)
  | tup (vs : List AV)
  | junk

/-- A map's key: a text, or a number of the map's own kind. -/
inductive Key where
  | s (l : List UInt8)
  | i (n : Int)
  deriving DecidableEq

def Key.av (ik : Option IntKind) : Key → AV
  | .s l => .str l
  | .i n => .int (ik.getD .i64) n

/-- Is a key one of a map of this kind? -/
def Key.ok (ik : Option IntKind) : Key → Bool
  | .s _ => ik.isNone
  | .i _ => ik.isSome

inductive AObj where
  | cells (cs : List AV)
  | map (ik : Option IntKind) (es : List (Key × AV × Nat)) (clk : Nat)
  | iter (o since : Nat) (seen : List Nat) (last : Nat)
  | iter0

/-- Memory: what each object holds; the number of the next object. -/
structure Mem where
  at_ : Nat → Option AObj
  nx : Nat
instance : CoeFun Mem (fun _ => Nat → Option AObj) := ⟨Mem.at_⟩
abbrev Fr := Nat → AV

def Mem.set (m : Mem) (o : Nat) (x : AObj) : Mem := ⟨fun i => if i = o then some x else m i, m.nx⟩
def Mem.del (m : Mem) (o : Nat) : Mem := ⟨fun i => if i = o then none else m i, m.nx⟩
def Mem.new (m : Mem) (x : AObj) : Mem := ⟨fun i => if i = m.nx then some x else m i, m.nx + 1⟩
def Mem.bump (m : Mem) : Mem := ⟨m.at_, m.nx + 1⟩
def upd (fr : Fr) (k : Nat) (v : AV) : Fr := fun i => if i = k then v else fr i

theorem Mem.set_apply (m : Mem) (o : Nat) (x : AObj) (i : Nat) : (m.set o x) i = if i = o then some x else m i := rfl
theorem Mem.del_apply (m : Mem) (o : Nat) (i : Nat) : (m.del o) i = if i = o then none else m i := rfl
theorem Mem.ext' {a b : Mem} (h : ∀ i, a i = b i) (hn : a.nx = b.nx) : a = b := by
  cases a; cases b; simp at *; exact ⟨funext h, hn⟩
theorem Mem.new_apply (m : Mem) (x : AObj) (i : Nat) : (m.new x) i = if i = m.nx then some x else m i := rfl
theorem upd_apply (fr : Fr) (k : Nat) (v : AV) (i : Nat) : (upd fr k v) i = if i = k then v else fr i := rfl

/-- One cell's worth. -/
def AV.one : AV → Bool
  | .agg _ | .tup _ | .junk => false
  | .val v => X.oneCell v
  | _ => true

def AV.cells : AV → List AV
  | .agg cs => cs
  | x => [x]

structure Kap where
  ρ : Nat → Option (Nat × Nat)
  ret : Nat → Prop
  sig : Nat → Int

inductive V (κ : Kap) (w : World) : AV → Value → Prop
  | int (k n) : V κ w (.int k n) (.int k n)
  | bool (b) : V κ w (.bool b) (.bool b)
  | str (l) : V κ w (.str l) (.string ⟨l.toArray⟩)
  | f64 (b) : V κ w (.f64 b) (.float .f64 b)
  | val (v) : V κ w (.val v) v
  | ptr (o off b base : Nat) : κ.ρ o = some (b, base) → V κ w (.ptr o off) (.pointer (some ⟨b, base + off, none⟩))
  | osl (o sz off n b base off2 cap : Nat) (c : Array Value) (e : TypeId) (fz : Nat × Nat) : κ.ρ o = some (b, base) → w.heap[b]? = some (.cells c e fz) → (0 < n → off2 = off) → base + off2 + cap * sz ≤ c.size → n ≤ cap →
      V κ w (.osl o sz off n) (.slice (some ⟨b, base + off2, none⟩) n cap)
  | nil : V κ w (.sl .nil 0 []) (.slice none 0 0)
  | sl (h : Hdr) (n : Nat) (cs : List AV) (b off cap : Nat) (vs : List Value) : h ≠ .nil → (h = .full → cap = n) → n ≤ cap → κ.ret b → cs.length = vs.length →
      (∀ (i : Nat) (v : Value), vs[i]? = some v → w.cell? ⟨b, off + i, none⟩ = some v) → (∀ (i : Nat) (c : AV) (v : Value), cs[i]? = some c → vs[i]? = some v → V κ w c v) → (∀ c ∈ cs, c.one = true) →
      V κ w (.sl h n cs) (.slice (some ⟨b, off, none⟩) n cap)
  | mp (o b base : Nat) : κ.ρ o = some (b, base) → V κ w (.mp o) (.map (some b))
  | fn (f : FuncId) (fst caps : List AV) (us vs : List Value) : fst.length = us.length → (∀ (i : Nat) (c : AV) (v : Value), fst[i]? = some c → us[i]? = some v → V κ w c v) → caps.length = vs.length →
      (∀ (i : Nat) (c : AV) (v : Value), caps[i]? = some c → vs[i]? = some v → V κ w c v) → V κ w (.fn f fst caps) (.func (.func f) us.toArray vs.toArray)
  | sptr (cs : List AV) (off b base : Nat) (vs : List Value) : κ.ret b → cs.length = vs.length → (∀ (i : Nat) (v : Value), vs[i]? = some v → w.cell? ⟨b, base + i, none⟩ = some v) →
      (∀ (i : Nat) (c : AV) (v : Value), cs[i]? = some c → vs[i]? = some v → V κ w c v) → (∀ c ∈ cs, c.one = true) → V κ w (.sptr cs off) (.pointer (some ⟨b, base + off, none⟩))
  | bptr (x : AV) (b : Nat) (v : Value) : κ.ret b → w.cell? ⟨b, 0, none⟩ = some v → V κ w x v → V κ w (.bptr x) (.pointer (some ⟨b, 0, none⟩))
  | isym (k : IntKind) (i : Nat) : V κ w (.isym k i) (.int k (κ.sig i))
  | ifc (t : TypeId) (x : AV) (v : Value) : V κ w x v → V κ w (.ifc t x) (.iface t v)
  | agg (cs : List AV) (vs : List Value) : cs.length = vs.length → (∀ (i : Nat) (c : AV) (v : Value), cs[i]? = some c → vs[i]? = some v → V κ w c v) → V κ w (.agg cs) (.agg vs.toArray)
  | tup (cs : List AV) (vs : List Value) : cs.length = vs.length → (∀ (i : Nat) (c : AV) (v : Value), cs[i]? = some c → vs[i]? = some v → V κ w c v) → V κ w (.tup cs) (.tuple vs.toArray)
  | junk (v) : V κ w .junk v

/-- Lists of values, one by one. -/
def VL (κ : Kap) (w : World) (cs : List AV) (vs : List Value) : Prop :=
  cs.length = vs.length ∧ ∀ (i : Nat) (c : AV) (v : Value), cs[i]? = some c → vs[i]? = some v → V κ w c v

structure Evo (κ : Kap) (w : World) (κ' : Kap) (w' : World) : Prop where
  rho : ∀ o p, κ.ρ o = some p → κ'.ρ o = some p
  ret : ∀ b, κ.ret b → κ'.ret b
  same : ∀ b, κ.ret b → w'.heap[b]? = w.heap[b]?
  size : ∀ (b : Nat) (c : Array Value) (e : TypeId) (fz : Nat × Nat), w.heap[b]? = some (.cells c e fz) → ∃ (c' : Array Value) (e' : TypeId) (fz' : Nat × Nat), w'.heap[b]? = some (.cells c' e' fz') ∧ c'.size = c.size
  hs : w.heap.size ≤ w'.heap.size
  tape : w'.tape = w.tape
  os : w'.os = w.os
  output : w'.output = w.output
  sig : κ'.sig = κ.sig

theorem Evo.refl (κ : Kap) (w : World) : Evo κ w κ w :=
  ⟨fun _ _ h => h, fun _ h => h, fun _ _ => rfl, fun b c e fz h => ⟨c, e, fz, h, rfl⟩, Nat.le_refl _, rfl, rfl, rfl, rfl⟩

theorem Evo.trans {κ κ' κ'' : Kap} {w w' w'' : World} (h : Evo κ w κ' w') (h' : Evo κ' w' κ'' w'') : Evo κ w κ'' w'' where
  rho o p x := h'.rho o p (h.rho o p x)
  ret b x := h'.ret b (h.ret b x)
  same b x := (h'.same b (h.ret b x)).trans (h.same b x)
  size b c e fz x := by
    obtain ⟨c1, e1, f1, h1, s1⟩ := h.size b c e fz x
    obtain ⟨c2, e2, f2, h2, s2⟩ := h'.size b c1 e1 f1 h1
    exact ⟨c2, e2, f2, h2, s2.trans s1⟩
  hs := Nat.le_trans h.hs h'.hs
  tape := h'.tape.trans h.tape
  os := h'.os.trans h.os
  output := h'.output.trans h.output
  sig := h'.sig.trans h.sig

theorem cell?_of_heap {w w' : World} {a : Addr} (h : w'.heap[a.block]? = w.heap[a.block]?) : w'.cell? a = w.cell? a := by
  simp [World.cell?, h]

theorem V.mono {κ κ' : Kap} {w w' : World} (e : Evo κ w κ' w') {x : AV} {v : Value} (h : V κ w x v) : V κ' w' x v := by
  induction h with
  | int k n => exact .int k n
  | bool b => exact .bool b
  | str l => exact .str l
  | f64 b => exact .f64 b
  | val v => exact .val v
  | ptr o off b base h => exact .ptr o off b base (e.rho _ _ h)
  | osl o sz off n b base off2 cap c el fz h hc ho hs hn =>
    obtain ⟨c', e', fz', h', s'⟩ := e.size _ _ _ _ hc
    exact .osl o sz off n b base off2 cap c' e' fz' (e.rho _ _ h) h' ho (by omega) hn
  | nil => exact .nil
  | sl h n cs b off cap vs hh hf hn hr hl hc hv ho ih =>
    refine .sl h n cs b off cap vs hh hf hn (e.ret _ hr) hl (fun i v hi => ?_) ih ho
    rw [cell?_of_heap (e.same b hr)]; exact hc i v hi
  | mp o b base h => exact .mp o b base (e.rho _ _ h)
  | fn f fst caps us vs hl hv hl2 hv2 ih ih2 => exact .fn f fst caps us vs hl ih hl2 ih2
  | sptr cs off b base vs hr hl hc hv ho ih =>
    refine .sptr cs off b base vs (e.ret _ hr) hl (fun i v hi => ?_) ih ho
    rw [cell?_of_heap (e.same b hr)]; exact hc i v hi
  | bptr x b v hr hc hv ih =>
    refine .bptr x b v (e.ret _ hr) ?_ ih
    rw [cell?_of_heap (e.same b hr)]; exact hc
  | isym k i => rw [← e.sig]; exact .isym k i
  | ifc t x v h ih => exact .ifc t x v ih
  | agg cs vs hl hv ih => exact .agg cs vs hl ih
  | tup cs vs hl hv ih => exact .tup cs vs hl ih
  | junk v => exact .junk v

theorem VL.mono {κ κ' : Kap} {w w' : World} (e : Evo κ w κ' w') {cs : List AV} {vs : List Value} (h : VL κ w cs vs) : VL κ' w' cs vs :=
  ⟨h.1, fun i c v hc hv => (h.2 i c v hc hv).mono e⟩

theorem VL.nil {κ : Kap} {w : World} : VL κ w [] [] := ⟨rfl, fun i c v h => by simp at h⟩
theorem VL.cons {κ : Kap} {w : World} {x : AV} {v : Value} {cs : List AV} {vs : List Value} (h : V κ w x v) (t : VL κ w cs vs) : VL κ w (x :: cs) (v :: vs) := by
  refine ⟨by simp [t.1], fun i c u hc hu => ?_⟩
  cases i with
  | zero => simp at hc hu; subst hc hu; exact h
  | succ i => simp at hc hu; exact t.2 i c u hc hu
theorem VL.inv_cons {κ : Kap} {w : World} {x : AV} {cs : List AV} {vs : List Value} (h : VL κ w (x :: cs) vs) : ∃ v vs', vs = v :: vs' ∧ V κ w x v ∧ VL κ w cs vs' := by
  obtain ⟨hl, hv⟩ := h
  cases vs with
  | nil => simp at hl
  | cons v vs' => exact ⟨v, vs', rfl, hv 0 x v rfl rfl, by simpa using hl, fun i c u hc hu => hv (i + 1) c u (by simpa using hc) (by simpa using hu)⟩
theorem VL.inv_nil {κ : Kap} {w : World} {vs : List Value} (h : VL κ w [] vs) : vs = [] := List.eq_nil_of_length_eq_zero (by simpa using h.1.symm)
theorem VL.append {κ : Kap} {w : World} {a b : List AV} {va vb : List Value} (h : VL κ w a va) (t : VL κ w b vb) : VL κ w (a ++ b) (va ++ vb) := by
  refine ⟨by simp [h.1, t.1], fun i c u hc hu => ?_⟩
  by_cases hi : i < a.length
  · rw [List.getElem?_append_left hi] at hc
    rw [List.getElem?_append_left (h.1 ▸ hi)] at hu
    exact h.2 i c u hc hu
  · rw [List.getElem?_append_right (by omega)] at hc
    rw [List.getElem?_append_right (by have := h.1; omega)] at hu
    rw [← h.1] at hu
    exact t.2 _ c u hc hu
theorem VL.drop {κ : Kap} {w : World} {a : List AV} {va : List Value} (h : VL κ w a va) (k : Nat) : VL κ w (a.drop k) (va.drop k) :=
  ⟨by simp [h.1], fun i c u hc hu => h.2 (k + i) c u (by simpa using hc) (by simpa using hu)⟩
theorem VL.take {κ : Kap} {w : World} {a : List AV} {va : List Value} (h : VL κ w a va) (k : Nat) : VL κ w (a.take k) (va.take k) := by
  refine ⟨by simp [h.1], fun i c u hc hu => ?_⟩
  rw [List.getElem?_take] at hc hu
  split at hc
  · rw [if_pos ‹_›] at hu; exact h.2 i c u hc hu
  · simp at hc
theorem VL.get {κ : Kap} {w : World} {a : List AV} {va : List Value} (h : VL κ w a va) {i : Nat} {c : AV} (hc : a[i]? = some c) : ∃ v, va[i]? = some v ∧ V κ w c v := by
  have hi : i < va.length := by
    have := (List.getElem?_eq_some_iff.1 hc).1
    rw [← h.1]; exact this
  exact ⟨va[i], List.getElem?_eq_getElem hi, h.2 i c _ hc (List.getElem?_eq_getElem hi)⟩
theorem VL.set {κ : Kap} {w : World} {a : List AV} {va : List Value} (h : VL κ w a va) (k : Nat) {x : AV} {v : Value} (hx : V κ w x v) : VL κ w (a.set k x) (va.set k v) := by
  refine ⟨by simp [h.1], fun i c u hc hu => ?_⟩
  rw [List.getElem?_set] at hc hu
  split at hc
  · rw [if_pos ‹_›] at hu
    split at hc
    · rw [if_pos (by rw [← h.1]; assumption)] at hu; simp at hc hu; subst hc hu; exact hx
    · simp at hc
  · rw [if_neg ‹_›] at hu; exact h.2 i c u hc hu

/-- Values by their kinds. -/
theorem V.int_inv {κ : Kap} {w : World} {k n v} (h : V κ w (.int k n) v) : v = .int k n := by cases h; rfl
theorem V.bool_inv {κ : Kap} {w : World} {b v} (h : V κ w (.bool b) v) : v = .bool b := by cases h; rfl
theorem V.str_inv {κ : Kap} {w : World} {l v} (h : V κ w (.str l) v) : v = .string ⟨l.toArray⟩ := by cases h; rfl
theorem V.f64_inv {κ : Kap} {w : World} {l v} (h : V κ w (.f64 l) v) : v = .float .f64 l := by cases h; rfl
theorem V.val_inv {κ : Kap} {w : World} {u v} (h : V κ w (.val u) v) : v = u := by cases h; rfl

theorem V.oneCell {κ : Kap} {w : World} {x : AV} {v : Value} (h : V κ w x v) (ho : x.one = true) : X.oneCell v = true := by
  cases h <;> first | rfl | (simp [AV.one] at ho; done) | exact ho

/-- A value's cells. -/
theorem V.cells {κ : Kap} {w : World} {x : AV} {v : Value} (h : V κ w x v) (ho : x.one = true ∨ ∃ cs, x = .agg cs) : VL κ w x.cells v.cells.toList := by
  rcases ho with ho | ⟨cs, rfl⟩
  · have h1 := h.oneCell ho
    have e1 : x.cells = [x] := by cases x <;> first | rfl | simp [AV.one] at ho
    have e2 : v.cells.toList = [v] := by cases v <;> first | rfl | simp [X.oneCell] at h1
    rw [e1, e2]; exact VL.cons h VL.nil
  · cases h with
    | agg cs vs hl hv =>
      have h2 : VL κ w cs vs := ⟨hl, hv⟩
      simpa [AV.cells, Value.cells] using h2

def ObjRel (κ : Kap) (w : World) : AObj → Nat → Nat → Prop
  | .cells cs, b, base => ∃ (c : Array Value) (e : TypeId) (fz : Nat × Nat), w.heap[b]? = some (.cells c e fz) ∧ (fz.1 = fz.2 ∨ c.size ≤ fz.1) ∧ base + cs.length ≤ c.size ∧ ∃ vs : List Value, VL κ w cs vs ∧ (∀ (i : Nat) (v : Value), vs[i]? = some v → c[base + i]? = some v) ∧ ∀ x ∈ cs, x.one = true
  | .map ik es clk, b, base => base = 0 ∧ ∃ (ents : Array MapEntry), w.heap[b]? = some (.map ents clk) ∧ VL κ w (es.map fun e => e.1.av ik) (ents.toList.map (·.key)) ∧ VL κ w (es.map (·.2.1)) (ents.toList.map (·.val)) ∧
      es.map (·.2.2) = ents.toList.map (·.born) ∧ ∀ e ∈ es, e.1.ok ik = true
  | .iter mo since seen last, b, base => base = 0 ∧ ∃ (mb mbase : Nat), κ.ρ mo = some (mb, mbase) ∧ w.heap[b]? = some (.mapIter (some mb) since seen.toArray last)
  | .iter0, b, base => base = 0 ∧ ∃ (since : Nat) (seen : Array Nat) (last : Nat), w.heap[b]? = some (.mapIter none since seen last)

theorem ObjRel.mono {κ κ' : Kap} {w w' : World} (e : Evo κ w κ' w') {x : AObj} {b base : Nat} (hb : w'.heap[b]? = w.heap[b]?) (h : ObjRel κ w x b base) : ObjRel κ' w' x b base := by
  cases x with
  | cells cs =>
    obtain ⟨c, el, fz, hc, hf, hsz, vs, hv, hi, ho⟩ := h
    exact ⟨c, el, fz, hb.trans hc, hf, hsz, vs, hv.mono e, hi, ho⟩
  | map ik es clk =>
    obtain ⟨h0, ents, hc, hk, hv, hr⟩ := h
    exact ⟨h0, ents, hb.trans hc, hk.mono e, hv.mono e, hr⟩
  | iter mo since seen last =>
    obtain ⟨h0, mb, mbase, hr, hc⟩ := h
    exact ⟨h0, mb, mbase, e.rho _ _ hr, hb.trans hc⟩
  | iter0 =>
    obtain ⟨h0, since, seen, last, hc⟩ := h
    exact ⟨h0, since, seen, last, hb.trans hc⟩

/-- What is known of the package's variables: the cells of those that are never written. -/
structure Fx where
  rem : Nat → Int → Option Int
  lt : Nat → Int → Option Bool
  gt : Nat → Int → Option Bool
  eq : Nat → Int → Option Bool

/-- What is told of the numbers that are known by name alone is so. -/
structure Fx.Ok (fx : Fx) (sig : Nat → Int) : Prop where
  rem : ∀ i c r, fx.rem i c = some r → c ≠ 0 ∧ (sig i).tmod c = r
  lt : ∀ i c b, fx.lt i c = some b → decide (sig i < c) = b
  gt : ∀ i c b, fx.gt i c = some b → decide (c < sig i) = b
  eq : ∀ i c b, fx.eq i c = some b → decide (sig i = c) = b

def Fx.none : Fx := ⟨fun _ _ => .none, fun _ _ => .none, fun _ _ => .none, fun _ _ => .none⟩
theorem Fx.none_ok (sig : Nat → Int) : Fx.none.Ok sig := ⟨fun _ _ _ h => (by cases h), fun _ _ _ h => (by cases h), fun _ _ _ h => (by cases h), fun _ _ _ h => (by cases h)⟩

/-- What is known of the world: the package's variables that are never written; the named numbers. -/
structure Glob where
  vars : Nat → Option (List AV)
  sig : Nat → Int
  fx : Fx
  ok : fx.Ok sig
instance : CoeFun Glob (fun _ => Nat → Option (List AV)) := ⟨Glob.vars⟩

structure RelW (ng : Glob) (κ : Kap) (m : Mem) (w : World) : Prop where
  glob : ∀ g cs, ng g = some cs → V κ w (.sptr cs 0) (.pointer (some ⟨g, 0, none⟩))
  obj : ∀ (o : Nat) (x : AObj), m o = some x → ∃ b base, κ.ρ o = some (b, base) ∧ ObjRel κ w x b base ∧ ¬ κ.ret b
  inj : ∀ (o o' : Nat) (x x' : AObj) (b base base' : Nat), m o = some x → m o' = some x' → κ.ρ o = some (b, base) → κ.ρ o' = some (b, base') → o = o'
  bound : ∀ o b base, κ.ρ o = some (b, base) → b < w.heap.size
  retb : ∀ b, κ.ret b → b < w.heap.size
  fresh : ∀ o, m.nx ≤ o → κ.ρ o = none
  sig : κ.sig = ng.sig

theorem RelW.none_of {ng : Glob} {κ : Kap} {m : Mem} {w : World} (h : RelW ng κ m w) {o : Nat} (ho : κ.ρ o = none) : m o = none := by
  cases hm : m o with
  | none => rfl
  | some x => obtain ⟨b, base, hr, _⟩ := h.obj o x hm; rw [ho] at hr; simp at hr

/-! ### How the world turns -/
def Kap.put (κ : Kap) (o b base : Nat) : Kap := ⟨fun i => if i = o then some (b, base) else κ.ρ i, κ.ret, κ.sig⟩
def Kap.retire (κ : Kap) (b : Nat) : Kap := ⟨κ.ρ, fun i => i = b ∨ κ.ret i, κ.sig⟩

theorem heap_alloc (w : World) (O : Obj) : (w.alloc O).heap = w.heap.push O := rfl
theorem heap_push_lt (w : World) (O : Obj) {b : Nat} (h : b < w.heap.size) : (w.alloc O).heap[b]? = w.heap[b]? := by
  rw [heap_alloc, Array.getElem?_push, if_neg (by omega)]
theorem heap_push_eq (w : World) (O : Obj) : (w.alloc O).heap[w.heap.size]? = some O := by
  rw [heap_alloc, Array.getElem?_push, if_pos rfl]
theorem heap_push_size (w : World) (O : Obj) : (w.alloc O).heap.size = w.heap.size + 1 := by
  rw [heap_alloc, Array.size_push]

theorem lt_of_heap {w : World} {b : Nat} {O : Obj} (h : w.heap[b]? = some O) : b < w.heap.size := (Array.getElem?_eq_some_iff.1 h).1

theorem ObjRel.lt {κ : Kap} {w : World} {x : AObj} {b base : Nat} (h : ObjRel κ w x b base) : b < w.heap.size := by
  cases x with
  | cells cs => obtain ⟨c, el, fz, hc, _⟩ := h; exact lt_of_heap hc
  | map ik es clk => obtain ⟨h0, ents, hc, _⟩ := h; exact lt_of_heap hc
  | iter mo since seen last => obtain ⟨h0, mb, mbase, hr, hc⟩ := h; exact lt_of_heap hc
  | iter0 => obtain ⟨h0, since, seen, last, hc⟩ := h; exact lt_of_heap hc

theorem RelW.evo_alloc {ng : Glob} {κ : Kap} {m : Mem} {w : World} (h : RelW ng κ m w) (O : Obj) : Evo κ w κ (w.alloc O) where
  rho _ _ x := x
  ret _ x := x
  same b x := heap_push_lt w O (h.retb b x)
  size b c e fz x := ⟨c, e, fz, (heap_push_lt w O (lt_of_heap x)).trans x, rfl⟩
  hs := by rw [heap_push_size]; omega
  tape := rfl
  os := rfl
  output := rfl
  sig := rfl

theorem Evo.put {κ : Kap} {w : World} {κ' : Kap} {w' : World} (h : Evo κ w κ' w') {o : Nat} (ho : κ'.ρ o = none) (b base : Nat) : Evo κ w (κ'.put o b base) w' :=
  { h with
    rho := fun i p x => by
      have := h.rho i p x
      simp only [Kap.put]
      split
      · subst i; rw [ho] at this; simp at this
      · exact this
    ret := h.ret, same := h.same }

theorem Evo.retire {κ : Kap} {w : World} {κ' : Kap} {w' : World} (h : Evo κ w κ' w') (b : Nat) : Evo κ w (κ'.retire b) w' :=
  { h with rho := h.rho, ret := fun i x => Or.inr (h.ret i x), same := h.same }

/-- A world in which a new block lies that nobody owns yet. -/
theorem RelW.alloc {ng : Glob} {κ : Kap} {m : Mem} {w : World} (h : RelW ng κ m w) (O : Obj) : RelW ng κ m (w.alloc O) where
  glob g cs hg := (h.glob g cs hg).mono (h.evo_alloc O)
  obj o x hm := by
    obtain ⟨b, base, hr, hx, hn⟩ := h.obj o x hm
    exact ⟨b, base, hr, hx.mono (h.evo_alloc O) (heap_push_lt w O (h.bound _ _ _ hr)), hn⟩
  inj := h.inj
  bound o b base hr := by have := h.bound o b base hr; rw [heap_push_size]; omega
  retb b hr := by have := h.retb b hr; rw [heap_push_size]; omega
  fresh := h.fresh
  sig := h.sig

theorem RelW.put_none {ng : Glob} {κ : Kap} {m : Mem} {w : World} (h : RelW ng κ m w) {o b base : Nat} (ho : κ.ρ o = none) (hb : b < w.heap.size) (hx : o = m.nx) : RelW ng (κ.put o b base) m.bump w where
  glob g cs hg := (h.glob g cs hg).mono ((Evo.refl κ w).put ho b base)
  obj i x hm := by
    obtain ⟨b1, base1, hr, hx, hn⟩ := h.obj i x hm
    refine ⟨b1, base1, ?_, hx.mono ((Evo.refl κ w).put ho b base) rfl, hn⟩
    simp only [Kap.put]; rw [if_neg (by rintro rfl; rw [ho] at hr; simp at hr)]; exact hr
  inj i j x x' b1 base1 base2 hi hj hri hrj := by
    simp only [Mem.bump] at hi hj
    have hio : i ≠ o := by rintro rfl; rw [h.none_of ho] at hi; simp at hi
    have hjo : j ≠ o := by rintro rfl; rw [h.none_of ho] at hj; simp at hj
    simp only [Kap.put, if_neg hio, if_neg hjo] at hri hrj
    exact h.inj i j x x' b1 base1 base2 hi hj hri hrj
  bound i b1 base1 hr := by
    simp only [Kap.put] at hr
    split at hr
    · simp at hr; omega
    · exact h.bound i b1 base1 hr
  retb := h.retb
  fresh := by
    intro i hi
    simp only [Mem.bump] at hi
    simp only [Kap.put]; rw [if_neg (by omega)]; exact h.fresh i (by omega)
  sig := h.sig

/-- An object comes to be in a block that nobody owns. -/
theorem RelW.own {ng : Glob} {κ : Kap} {m : Mem} {w : World} (h : RelW ng κ m w) {o b base : Nat} {x : AObj} (ho : m o = none) (hr : κ.ρ o = some (b, base)) (hx : ObjRel κ w x b base) (hn : ¬ κ.ret b)
    (hfree : ∀ i y base', m i = some y → κ.ρ i = some (b, base') → False) : RelW ng κ (m.set o x) w where
  glob := h.glob
  obj i y hm := by
    simp only [Mem.set] at hm
    split at hm
    · subst i; simp at hm; subst hm; exact ⟨b, base, hr, hx, hn⟩
    · exact h.obj i y hm
  inj i j x1 x2 b1 base1 base2 hi hj hri hrj := by
    simp only [Mem.set] at hi hj
    split at hi <;> split at hj
    · omega
    · subst i; rw [hr] at hri; simp at hri; obtain ⟨rfl, rfl⟩ := hri; exact (hfree j x2 base2 hj hrj).elim
    · subst j; rw [hr] at hrj; simp at hrj; obtain ⟨rfl, rfl⟩ := hrj; exact (hfree i x1 base1 hi hri).elim
    · exact h.inj i j x1 x2 b1 base1 base2 hi hj hri hrj
  bound := h.bound
  retb := h.retb
  fresh := h.fresh
  sig := h.sig

theorem RelW.del {ng : Glob} {κ : Kap} {m : Mem} {w : World} (h : RelW ng κ m w) (o : Nat) : RelW ng κ (m.del o) w where
  glob := h.glob
  obj i y hm := by
    simp only [Mem.del] at hm
    split at hm
    · simp at hm
    · exact h.obj i y hm
  inj i j x1 x2 b1 base1 base2 hi hj hri hrj := by
    simp only [Mem.del] at hi hj
    split at hi <;> split at hj <;> first | (simp at hi; done) | (simp at hj; done) | exact h.inj i j x1 x2 b1 base1 base2 hi hj hri hrj
  bound := h.bound
  retb := h.retb
  fresh := h.fresh
  sig := h.sig

/-- A block that nobody owns is never written again. -/
theorem RelW.retire {ng : Glob} {κ : Kap} {m : Mem} {w : World} (h : RelW ng κ m w) {b : Nat} (hb : b < w.heap.size) (hfree : ∀ i y base', m i = some y → κ.ρ i = some (b, base') → False) : RelW ng (κ.retire b) m w where
  glob g cs hg := (h.glob g cs hg).mono ((Evo.refl κ w).retire b)
  obj i y hm := by
    obtain ⟨b1, base1, hr, hx, hn⟩ := h.obj i y hm
    refine ⟨b1, base1, hr, hx.mono ((Evo.refl κ w).retire b) rfl, ?_⟩
    rintro (rfl | h2)
    · exact hfree i y base1 hm hr
    · exact hn h2
  inj := h.inj
  bound := h.bound
  retb i hr := by rcases hr with rfl | hr; exact hb; exact h.retb i hr
  fresh := h.fresh
  sig := h.sig

/-- The owned block of an object is written. -/
theorem RelW.write {ng : Glob} {κ : Kap} {m : Mem} {w w' : World} (h : RelW ng κ m w) {o b base : Nat} {x : AObj} (hm : m o = some x) (hr : κ.ρ o = some (b, base))
    (hsame : ∀ i, i ≠ b → w'.heap[i]? = w.heap[i]?) (hsz : ∀ (c : Array Value) (e : TypeId) (fz : Nat × Nat), w.heap[b]? = some (.cells c e fz) → ∃ (c' : Array Value) (e' : TypeId) (fz' : Nat × Nat), w'.heap[b]? = some (.cells c' e' fz') ∧ c'.size = c.size)
    (hs : w'.heap.size = w.heap.size) (ht : w'.tape = w.tape) (hos : w'.os = w.os) (hout : w'.output = w.output) : Evo κ w κ w' ∧ RelW ng κ (m.del o) w' := by
  have hn : ¬ κ.ret b := by
    obtain ⟨b1, base1, hr1, _, hn⟩ := h.obj o x hm
    rw [hr] at hr1; simp at hr1; exact hr1.1 ▸ hn
  have e : Evo κ w κ w' := {
    rho := fun _ _ x => x
    ret := fun _ x => x
    same := fun i x => hsame i (by rintro rfl; exact hn x)
    size := fun i c e fz hi => by
      by_cases hib : i = b
      · subst i; exact hsz c e fz hi
      · exact ⟨c, e, fz, (hsame i hib).trans hi, rfl⟩
    hs := by omega
    tape := ht
    os := hos
    output := hout
    sig := rfl }
  refine ⟨e, ?_⟩
  have hd := h.del o
  exact {
    glob := fun g cs hg => (h.glob g cs hg).mono e
    obj := fun i y hi => by
      obtain ⟨b1, base1, hr1, hx1, hn1⟩ := hd.obj i y hi
      refine ⟨b1, base1, hr1, hx1.mono e (hsame b1 ?_), hn1⟩
      rintro rfl
      have hio : i = o := by
        have hi' : m i = some y := by simp only [Mem.del] at hi; split at hi; simp at hi; exact hi
        exact h.inj i o y x b1 base1 base hi' hm hr1 hr
      subst i; simp [Mem.del] at hi
    inj := hd.inj
    bound := fun i b1 base1 hr1 => by rw [hs]; exact h.bound i b1 base1 hr1
    retb := fun i hi => by rw [hs]; exact h.retb i hi
    fresh := h.fresh
    sig := h.sig }

theorem RelW.free_of {ng : Glob} {κ : Kap} {m : Mem} {w : World} (h : RelW ng κ m w) {o b base : Nat} {x : AObj} (hm : m o = some x) (hr : κ.ρ o = some (b, base)) :
    ∀ i y base', (m.del o) i = some y → κ.ρ i = some (b, base') → False := by
  intro i y base' hi hri
  simp only [Mem.del] at hi
  split at hi
  · simp at hi
  · rename_i hne; exact hne (h.inj i o y x b base' base hi hm hri hr)

theorem RelW.evo_heap {ng : Glob} {κ : Kap} {m : Mem} {w w' : World} (h : RelW ng κ m w) (hh : w'.heap = w.heap) (ht : w'.tape = w.tape) (hos : w'.os = w.os) (hout : w'.output = w.output) : Evo κ w κ w' ∧ RelW ng κ m w' := by
  have e : Evo κ w κ w' := ⟨fun _ _ x => x, fun _ x => x, fun b _ => by rw [hh], fun b c e fz x => ⟨c, e, fz, by rw [hh]; exact x, rfl⟩, by rw [hh]; exact Nat.le_refl _, ht, hos, hout, rfl⟩
  refine ⟨e, ?_⟩
  exact {
    glob := fun g cs hg => (h.glob g cs hg).mono e
    obj := fun i y hi => by
      obtain ⟨b1, base1, hr1, hx1, hn1⟩ := h.obj i y hi
      exact ⟨b1, base1, hr1, hx1.mono e (by rw [hh]), hn1⟩
    inj := h.inj
    bound := fun i b1 base1 hr1 => by rw [hh]; exact h.bound i b1 base1 hr1
    retb := fun i hi => by rw [hh]; exact h.retb i hi
    fresh := h.fresh
    sig := h.sig }

end Go.X

/- The abstract operations: what each one asks of the abstract frame and memory, and what it gives. -/
import Derived.Test.YtnieadkafeohlaaGreatDoorGoxBase
set_option linter.unusedVariables false
namespace Go.X

inductive Opd where
  | t (k : Nat)
  | c (v : AV)

def Opd.ev (fr : Fr) : Opd → AV
  | .t k => fr k
  | .c v => v

/-- How a function ends. -/
inductive ARet where
  | ret (v : AV)
  | pan (chain : List PanicEntry)

inductive BinI where
  | add | sub | mul | quo | rem | and | or | xor | andNot | eql | neq | lss | leq | gtr | geq | shl | shr
  deriving DecidableEq

inductive BinS where
  | add | eql | neq | lss | leq | gtr | geq
  deriving DecidableEq

inductive NK where
  | ptr | map | sl | fn
  deriving DecidableEq

inductive AI where
  | mv (x : Opd)
  | pick (c a b : Opd)
  | alloc (zero : List AV)
  | box (x : Opd)
  | build (zero : List AV) (parts : List (Nat × Nat × Opd))
  | bslice (sz len : Nat) (zero : List AV) (parts : List (Nat × Nat × Opd))
  | load (a : Opd)
  | loadA (sz : Nat) (a : Opd)
  | store (sz : Nat) (a x : Opd)
  | nilchk (x : Opd)
  | binI (fx : Fx) (op : BinI) (k : IntKind) (x y : Opd)
  | binS (op : BinS) (x y : Opd)
  | binB (neg : Bool) (x y : Opd)
  | binF (op : BinOp) (x y : Opd)
  | eqNil (k : NK) (neg : Bool) (x y : Opd)
  | eqSt (kinds : List Bool) (x y : Opd)
  | neg (k : IntKind) (x : Opd)
  | compl (k : IntKind) (x : Opd)
  | not (x : Opd)
  | cvtI (k : IntKind) (x : Opd)
  | cvtF (x : Opd)
  | cvtSS (x : Opd)
  | cvtSB (x : Opd)
  | cvtBS (x : Opd)
  | mkfn (f : FuncId) (fst caps : List Opd)
  | mkmap (ik : Option IntKind)
  | mkslice (sz : Nat) (bytes : Nat) (zero : List AV) (len cap : Opd)
  | slice (sz : Nat) (x : Opd) (lo hi mx : Option Opd)
  | sliceS (x : Opd) (lo hi : Option Opd)
  | sliceA (sz n : Nat) (x : Opd) (lo hi : Option Opd)
  | fieldAddr (off : Nat) (x : Opd)
  | field (off : Nat) (sz : Option Nat) (x : Opd)
  | idxA (sz n : Nat) (x i : Opd)
  | idxS (sz : Nat) (x i : Opd)
  | index (sz : Option Nat) (esz n : Nat) (x i : Opd)
  | indexS (x i : Opd)
  | lookup (ik : Option IntKind) (ok : Bool) (zero : AV) (m k : Opd)
  | mupd (ik : Option IntKind) (m k x : Opd)
  | range (m : Opd)
  | next (it : Opd)
  | entry (it : Opd)
  | extract (t : Opd) (i : Nat)
  | lenS (x : Opd)
  | len (x : Opd)
  | lenM (x : Opd)
  | lenC (n : Nat)
  | app (sz bytes : Nat) (s x : Opd)
  | copy (sz : Nat) (d s : Opd)
  | del (ik : Option IntKind) (m k : Opd)
  | clear (sz : Nat) (zero : List AV) (x : Opd)
  | maxI (x y : Opd)
  | minI (x y : Opd)
  | iface (t : TypeId) (x : Opd)
  | panic (x : Opd)
  | call (f : FuncId) (args : List Opd)
  | callv (f : Opd) (args : List Opd)
  | mark (x : Opd)
  | f64bits (x : Opd)
  | f64from (x : Opd)
  | none

/-- An operation: where its value goes, under which guard. -/
structure AO where
  dst : Option Nat
  guard : Option (Nat × Bool)
  op : AI

def inI64 (x : Int) : Prop := -9223372036854775808 ≤ x ∧ x ≤ 9223372036854775807

/-- An int stays one; other kinds wrap. -/
def fitK (k : IntKind) (x : Int) (K : AV → Prop) : Prop :=
  match k with
  | .i64 => inI64 x ∧ K (.int .i64 x)
  | k => K (.int k (k.wrap x))

def bitsK (op : BinI) (k : IntKind) (x y : Int) : Int :=
  let a := BitVec.ofInt k.bits x
  let b := BitVec.ofInt k.bits y
  k.wrap (match op with
    | .and => (a &&& b).toNat
    | .or => (a ||| b).toNat
    | .xor => (a ^^^ b).toNat
    | _ => (a &&& ~~~b).toNat)

/-- What is told of a named number under an operation. -/
def fxI (fx : Fx) (op : BinI) (k : IntKind) (i : Nat) (c : Int) : Option AV :=
  match op with
  | .rem => (fx.rem i c).map (.int k)
  | .lss => (fx.lt i c).map .bool
  | .geq => (fx.lt i c).map fun b => .bool (!b)
  | .gtr => (fx.gt i c).map .bool
  | .leq => (fx.gt i c).map fun b => .bool (!b)
  | .eql => (fx.eq i c).map .bool
  | .neq => (fx.eq i c).map fun b => .bool (!b)
  | _ => none

def sBinI (fx : Fx) (op : BinI) (k : IntKind) (x y : AV) (K : AV → Prop) : Prop :=
  match x, y with
  | .int k1 a, .int k2 b =>
    k1 = k ∧ match op with
    | .add => k2 = k ∧ fitK k (a + b) K
    | .sub => k2 = k ∧ fitK k (a - b) K
    | .mul => k2 = k ∧ fitK k (a * b) K
    | .quo => k2 = k ∧ b ≠ 0 ∧ fitK k (a.tdiv b) K
    | .rem => k2 = k ∧ b ≠ 0 ∧ K (.int k (a.tmod b))
    | .eql => k2 = k ∧ K (.bool (decide (a = b)))
    | .neq => k2 = k ∧ K (.bool (!decide (a = b)))
    | .lss => k2 = k ∧ K (.bool (decide (a < b)))
    | .leq => k2 = k ∧ K (.bool (decide (a ≤ b)))
    | .gtr => k2 = k ∧ K (.bool (decide (b < a)))
    | .geq => k2 = k ∧ K (.bool (decide (b ≤ a)))
    | .shl => 0 ≤ b ∧ K (.int k (k.wrap (a * 2 ^ (min b.toNat k.bits))))
    | .shr => 0 ≤ b ∧ K (.int k (a.fdiv (2 ^ (min b.toNat k.bits))))
    | op => k2 = k ∧ K (.int k (bitsK op k a b))
  | .isym k1 i, .int k2 c => k1 = k ∧ k2 = k ∧ ∃ z, fxI fx op k i c = some z ∧ K z
  | _, _ => False

def sBinS (op : BinS) (x y : AV) (K : AV → Prop) : Prop :=
  match x, y with
  | .str a, .str b =>
    match op with
    | .add => a.length + b.length ≤ 9223372036854775807 ∧ K (.str (a ++ b))
    | .eql => K (.bool (decide (a = b)))
    | .neq => K (.bool (!decide (a = b)))
    | .lss => K (.bool (Op.bytesLess a b))
    | .leq => K (.bool (Op.bytesLess a b || decide (a = b)))
    | .gtr => K (.bool (!(Op.bytesLess a b || decide (a = b))))
    | .geq => K (.bool (!Op.bytesLess a b))
  | _, _ => False

/-- Is a value nil? -/
def isNilP : AV → Option Bool
  | .val (.pointer Option.none) => some true
  | .ptr .. => some false
  | .sptr .. => some false
  | _ => Option.none
def isNilM : AV → Option Bool
  | .val (.map Option.none) => some true
  | .mp _ => some false
  | _ => Option.none
def isNilS : AV → Option Bool
  | .sl h _ _ => some (h == .nil)
  | .osl .. => some false
  | _ => Option.none
def isNilF : AV → Option Bool
  | .val .nilFunc => some true
  | .fn .. => some false
  | _ => Option.none
def isNil : NK → AV → Option Bool
  | .ptr, x => isNilP x
  | .map, x => isNilM x
  | .sl, x => isNilS x
  | .fn, x => isNilF x

/-- Parts laid over cells. -/
def lay (zero : List AV) (off : Nat) (cs : List AV) : List AV := zero.take off ++ cs ++ zero.drop (off + cs.length)

def sBuild (fr : Fr) : List AV → List (Nat × Nat × Opd) → (List AV → Prop) → Prop
  | zero, [], K => K zero
  | zero, (off, sz, x) :: rest, K => (x.ev fr).cells.length = sz ∧ off + sz ≤ zero.length ∧ ((x.ev fr).cells.all AV.one = true) ∧ sBuild fr (lay zero off (x.ev fr).cells) rest K

def rep (n : Nat) (zero : List AV) : List AV := (List.replicate n zero).flatten

/-- Where a pointer leads, for reading. -/
def cellsAt (m : Mem) : AV → Option (List AV × Nat)
  | .ptr o off => match m o with
    | some (.cells cs) => some (cs, off)
    | _ => Option.none
  | .sptr cs off => some (cs, off)
  | _ => Option.none

def sLoad (m : Mem) (a : AV) (K : AV → Prop) : Prop :=
  match cellsAt m a with
  | some (cs, off) => match cs[off]? with
    | some x => K x
    | Option.none => False
  | Option.none => False

def sLoadA (m : Mem) (sz : Nat) (a : AV) (K : AV → Prop) : Prop :=
  match cellsAt m a with
  | some (cs, off) => off + sz ≤ cs.length ∧ K (.agg ((cs.drop off).take sz))
  | Option.none => False

def sStore (B : Nat → Prop) (m : Mem) (sz : Nat) (a x : AV) (K : Mem → Prop) : Prop :=
  match a with
  | .ptr o off => ¬ B o ∧ match m o with
    | some (.cells cs) => x.cells.length = sz ∧ x.cells.all AV.one = true ∧ off + sz ≤ cs.length ∧ K (m.set o (.cells (lay cs off x.cells)))
    | _ => False
  | _ => False

/-- The bounds of a slice expression; no bound lies beyond the length. -/
def sBounds (n : Nat) (lo hi : Option AV) (K : Nat → Nat → Prop) : Prop :=
  match hi with
  | some (.int _ h) => 0 ≤ h ∧ h ≤ n ∧ (match lo with
    | some (.int _ l) => 0 ≤ l ∧ l ≤ h ∧ K l.toNat h.toNat
    | Option.none => K 0 h.toNat
    | _ => False)
  | Option.none => (match lo with
    | some (.int _ l) => 0 ≤ l ∧ l ≤ n ∧ K l.toNat n
    | Option.none => K 0 n
    | _ => False)
  | _ => False

/-- A part of cells. -/
def cut (cs : List AV) (a b : Nat) : List AV := (cs.drop a).take (b - a)

def sSlice (sz : Nat) (x : AV) (lo hi mx : Option AV) (K : AV → Prop) : Prop :=
  match x with
  | .sl h n cs => n * sz = cs.length ∧ sBounds n lo hi fun l r =>
      (match mx with
      | Option.none => K (.sl (if h = .nil then .nil else if h = .full ∧ r = n then .full else .any) (r - l) (cut cs (l * sz) (r * sz)))
      | some (.int _ x) => x = r ∧ hi.isSome = true ∧ K (.sl (if h = .nil then .nil else .full) (r - l) (cut cs (l * sz) (r * sz)))
      | _ => False)
  | .osl o sz' off n => sz' = sz ∧ sBounds n lo hi fun l r =>
      (match mx with
      | Option.none => K (.osl o sz (off + l * sz) (r - l))
      | some (.int _ x) => x = r ∧ hi.isSome = true ∧ K (.osl o sz (off + l * sz) (r - l))
      | _ => False)
  | _ => False

def sSliceS (x : AV) (lo hi : Option AV) (K : AV → Prop) : Prop :=
  match x with
  | .str s => sBounds s.length lo hi fun l r => K (.str ((s.take r).drop l))
  | _ => False

def sSliceA (m : Mem) (sz n : Nat) (x : AV) (lo hi : Option AV) (K : AV → Prop) : Prop :=
  match x with
  | .ptr o off => (match m o with
    | some (.cells cs) => off + n * sz ≤ cs.length ∧ sBounds n lo hi fun l r => K (.osl o sz (off + l * sz) (r - l))
    | _ => False)
  | _ => False

def sIdxS (sz : Nat) (x i : AV) (K : AV → Prop) : Prop :=
  match x, i with
  | .sl _ n cs, .int _ j => 0 ≤ j ∧ j < n ∧ K (.sptr cs (j.toNat * sz))
  | .osl o sz' off n, .int _ j => sz' = sz ∧ 0 ≤ j ∧ j < n ∧ K (.ptr o (off + j.toNat * sz))
  | _, _ => False

def sIdxA (sz n : Nat) (x i : AV) (K : AV → Prop) : Prop :=
  match x, i with
  | .ptr o off, .int _ j => 0 ≤ j ∧ j < n ∧ K (.ptr o (off + j.toNat * sz))
  | .sptr cs off, .int _ j => 0 ≤ j ∧ j < n ∧ K (.sptr cs (off + j.toNat * sz))
  | _, _ => False

def sIndex (sz : Option Nat) (esz n : Nat) (x i : AV) (K : AV → Prop) : Prop :=
  match x, i with
  | .agg cs, .int _ j => 0 ≤ j ∧ j < n ∧ (match sz with
    | some k => j.toNat * esz + k ≤ cs.length ∧ K (.agg ((cs.drop (j.toNat * esz)).take k))
    | Option.none => match cs[j.toNat * esz]? with
      | some x => K x
      | Option.none => False)
  | _, _ => False

def sIndexS (x i : AV) (K : AV → Prop) : Prop :=
  match x, i with
  | .str s, .int _ j => 0 ≤ j ∧ (match s[j.toNat]? with
    | some b => K (.int .u8 b.toNat)
    | Option.none => False)
  | _, _ => False

def sField (off : Nat) (sz : Option Nat) (x : AV) (K : AV → Prop) : Prop :=
  match x with
  | .agg cs => (match sz with
    | some k => off + k ≤ cs.length ∧ K (.agg ((cs.drop off).take k))
    | Option.none => match cs[off]? with
      | some x => K x
      | Option.none => False)
  | _ => False

/-- A value as a key of a map of a kind. -/
def keyOf (ik : Option IntKind) : AV → Option Key
  | .str l => if ik.isNone then some (.s l) else Option.none
  | .int k n => if ik = some k then some (.i n) else Option.none
  | _ => Option.none

def findA (k : Key) : List (Key × AV × Nat) → Option AV
  | [] => Option.none
  | e :: es => if k = e.1 then some e.2.1 else findA k es

def putA (k : Key) (v : AV) (clk : Nat) : List (Key × AV × Nat) → List (Key × AV × Nat)
  | [] => [(k, v, clk)]
  | e :: es => if k = e.1 then (k, v, e.2.2) :: es else e :: putA k v clk es

def delA (k : Key) : List (Key × AV × Nat) → List (Key × AV × Nat)
  | [] => []
  | e :: es => if k = e.1 then es else e :: delA k es

def sLookup (m : Mem) (ik : Option IntKind) (ok : Bool) (zero : AV) (x k : AV) (K : AV → Prop) : Prop :=
  match keyOf ik k with
  | Option.none => False
  | some k => (match x with
    | .val (.map Option.none) => K (if ok then .tup [zero, .bool false] else zero)
    | .mp o => (match m o with
      | some (.map ik' es _) => ik' = ik ∧ (match findA k es with
        | some v => K (if ok then .tup [v, .bool true] else v)
        | Option.none => K (if ok then .tup [zero, .bool false] else zero))
      | _ => False)
    | _ => False)

def AV.storable (x : AV) : Bool := x.cells.all AV.one

def sMupd (B : Nat → Prop) (m : Mem) (ik : Option IntKind) (x k v : AV) (K : Mem → Prop) : Prop :=
  match keyOf ik k with
  | Option.none => False
  | some k => v.storable = true ∧ (match x with
    | .mp o => ¬ B o ∧ (match m o with
      | some (.map ik' es clk) => ik' = ik ∧ K (m.set o (.map ik (putA k v clk es) (if (findA k es).isSome then clk else clk + 1)))
      | _ => False)
    | _ => False)

def sDel (B : Nat → Prop) (m : Mem) (ik : Option IntKind) (x k : AV) (K : Mem → Prop) : Prop :=
  match keyOf ik k with
  | Option.none => False
  | some k => (match x with
    | .val (.map Option.none) => K m
    | .mp o => ¬ B o ∧ (match m o with
      | some (.map ik' es clk) => ik' = ik ∧ K (m.set o (.map ik (delA k es) clk))
      | _ => False)
    | _ => False)

def sLenS (x : AV) (K : AV → Prop) : Prop :=
  match x with
  | .str s => K (.int .i64 s.length)
  | _ => False

def sLen (x : AV) (K : AV → Prop) : Prop :=
  match x with
  | .sl _ n _ => K (.int .i64 n)
  | .osl _ _ _ n => K (.int .i64 n)
  | _ => False

def sLenM (m : Mem) (x : AV) (K : AV → Prop) : Prop :=
  match x with
  | .val (.map Option.none) => K (.int .i64 0)
  | .mp o => (match m o with
    | some (.map _ es _) => K (.int .i64 es.length)
    | _ => False)
  | _ => False

def bytesOf (l : List UInt8) : List AV := l.map fun b => .int .u8 b.toNat

/-- What a slice or a string holds. -/
def source (m : Mem) (sz : Nat) : AV → Option (Nat × List AV)
  | .sl _ n cs => if n * sz = cs.length then some (n, cs) else Option.none
  | .osl o sz' off n => if sz' = sz then (match m o with
    | some (.cells cs) => if off + n * sz ≤ cs.length then some (n, (cs.drop off).take (n * sz)) else Option.none
    | _ => Option.none) else Option.none
  | .str l => if sz = 1 then some (l.length, bytesOf l) else Option.none
  | _ => Option.none

def room : Nat := 4294967296

def sApp (B : Nat → Prop) (m : Mem) (sz : Nat) (s x : AV) (K : AV → Mem → Prop) : Prop :=
  match source m sz x with
  | Option.none => False
  | some (k, xs) =>
    match s with
    | .sl h n cs => n * sz = cs.length ∧ h ≠ .any ∧ n + k ≤ room ∧ (if k = 0 then K s m else K (.osl m.nx sz 0 (n + k)) (m.new (.cells (cs ++ xs))))
    | .osl o sz' off n => sz' = sz ∧ ¬ B o ∧ n + k ≤ room ∧ (match m o with
      | some (.cells cs) => off + n * sz ≤ cs.length ∧ K (.osl m.nx sz 0 (n + k)) ((m.del o).new (.cells ((cs.drop off).take (n * sz) ++ xs)))
      | _ => False)
    | _ => False

def sCopy (B : Nat → Prop) (m : Mem) (sz : Nat) (d s : AV) (K : AV → Mem → Prop) : Prop :=
  match source m sz s, d with
  | some (k, xs), .osl o sz' off n => sz' = sz ∧ ¬ B o ∧ (match m o with
    | some (.cells cs) => off + n * sz ≤ cs.length ∧ K (.int .i64 (min k n : Nat)) (m.set o (.cells (X.lay cs off (xs.take (min k n * sz)))))
    | _ => False)
  | _, _ => False

def sClear (B : Nat → Prop) (m : Mem) (sz : Nat) (zero : List AV) (x : AV) (K : Mem → Prop) : Prop :=
  match x with
  | .sl _ 0 _ => K m
  | .osl o sz' off n => if n = 0 then K m else sz' = sz ∧ ¬ B o ∧ (match m o with
    | some (.cells cs) => off + n * sz ≤ cs.length ∧ K (m.set o (.cells (X.lay cs off (rep n zero))))
    | _ => False)
  | _ => False

def sNext (B : Nat → Prop) (m : Mem) (it : AV) (K : AV → Mem → Prop) : Prop :=
  match it with
  | .ptr i 0 => (match m i with
    | some .iter0 => K (.tup [.bool false]) m
    | some (.iter o since seen last) => ¬ B i ∧ (match m o with
      | some (.map ik es clk) => since = clk ∧ last = clk ∧ (∀ e ∈ es, e.2.2 < clk) ∧
        ((∀ e ∈ es, e.2.2 ∈ seen) → K (.tup [.bool false]) m) ∧
        (∀ e ∈ es, e.2.2 ∉ seen → K (.tup [.bool true, e.1.av ik, e.2.1]) (m.set i (.iter o since (seen ++ [e.2.2]) clk)))
      | _ => False)
    | _ => False)
  | _ => False

def sEntry (m : Mem) (it : AV) (K : AV → Prop) : Prop :=
  match it with
  | .ptr i 0 => (match m i with
    | some (.iter o since seen last) => (match m o with
      | some (.map ik es clk) => clk = last ∧ (match seen.getLast? with
        | some s => (match es.find? (fun e => e.2.2 == s) with
          | some e => K (.tup [e.1.av ik, e.2.1])
          | Option.none => False)
        | Option.none => False)
      | _ => False)
    | _ => False)
  | _ => False

def sPick (c a b : AV) (K : AV → Prop) : Prop :=
  match c with
  | .bool t => (t = true → K a) ∧ (t = false → K b)
  | _ => False

def sNilchk (x : AV) (K : AV → Prop) : Prop :=
  match x with
  | .ptr o off => K (.ptr o off)
  | .sptr cs off => K (.sptr cs off)
  | .fn f a b => K (.fn f a b)
  | _ => False

def sBinB (neg : Bool) (x y : AV) (K : AV → Prop) : Prop :=
  match x, y with
  | .bool a, .bool b => K (.bool (if neg then a != b else a == b))
  | _, _ => False

def sBinF (op : BinOp) (x y : AV) (K : AV → Prop) : Prop :=
  match x, y with
  | .f64 a, .f64 b => (match op with
    | .eql => K (.bool (FloatKind.f64.format.order a b == some .eq))
    | .neq => K (.bool (FloatKind.f64.format.order a b != some .eq))
    | .lss => K (.bool (FloatKind.f64.format.order a b == some .lt))
    | _ => False)
  | _, _ => False

def sEqNil (k : NK) (neg : Bool) (x y : AV) (K : AV → Prop) : Prop :=
  match isNil k x, isNil k y with
  | some a, some true => K (.bool (a != neg))
  | some true, some b => K (.bool (b != neg))
  | _, _ => False

def sEqSt (kinds : List Bool) (x y : AV) (K : AV → Prop) : Prop :=
  match x, y with
  | .agg [.str a, .bool b], .agg [.str c, .bool d] => kinds = [true, false] ∧ K (.bool (decide (a = c) && b == d))
  | _, _ => False

def sNeg (ik : IntKind) (x : AV) (K : AV → Prop) : Prop :=
  match x with
  | .int k1 a => k1 = ik ∧ fitK ik (0 - a) K
  | _ => False

def sCompl (ik : IntKind) (x : AV) (K : AV → Prop) : Prop :=
  match x with
  | .int k1 a => k1 = ik ∧ K (.int ik (bitsK .xor ik (if ik.signed then -1 else ik.max) a))
  | _ => False

def sNot (x : AV) (K : AV → Prop) : Prop :=
  match x with
  | .bool b => K (.bool !b)
  | _ => False

def sCvtI (ik : IntKind) (x : AV) (K : AV → Prop) : Prop :=
  match x with
  | .int _ a => K (.int ik (ik.wrap a))
  | _ => False

def sCvtF (x : AV) (K : AV → Prop) : Prop :=
  match x with
  | .int _ a => K (.f64 (FloatKind.f64.nearest a))
  | _ => False

def sCvtSS (x : AV) (K : AV → Prop) : Prop :=
  match x with
  | .str l => K (.str l)
  | _ => False

def sCvtSB (x : AV) (K : AV → Prop) : Prop :=
  match x with
  | .str l => l.length ≤ room ∧ K (.sl .any l.length (bytesOf l))
  | _ => False

def AV.isStr : AV → Bool
  | .str _ => true
  | _ => false

def sCvtBS (m : Mem) (x : AV) (K : AV → Prop) : Prop :=
  x.isStr = false ∧ match source m 1 x with
  | some (_, cs) => ∃ l, cs = bytesOf l ∧ K (.str l)
  | Option.none => False

def sMkslice (m : Mem) (sz : Nat) (zero : List AV) (l c : AV) (K : AV → Mem → Prop) : Prop :=
  match l, c with
  | .int _ a, .int _ b => 0 ≤ a ∧ a = b ∧ a ≤ room ∧ K (.osl m.nx sz 0 a.toNat) (m.new (.cells (rep a.toNat zero)))
  | _, _ => False

def sFieldAddr (off : Nat) (x : AV) (K : AV → Prop) : Prop :=
  match x with
  | .ptr o a => K (.ptr o (a + off))
  | .sptr cs a => K (.sptr cs (a + off))
  | _ => False

def sRange (m : Mem) (x : AV) (K : AV → Mem → Prop) : Prop :=
  match x with
  | .val (.map Option.none) => K (.ptr m.nx 0) (m.new .iter0)
  | .mp o => (match m o with
    | some (.map _ es clk) => K (.ptr m.nx 0) (m.new (.iter o clk [] clk))
    | _ => False)
  | _ => False

def sExtract (t : AV) (j : Nat) (K : AV → Prop) : Prop :=
  match t with
  | .tup vs => (match vs[j]? with
    | some v => K v
    | Option.none => False)
  | _ => False

def sMax (x y : AV) (K : AV → Prop) : Prop :=
  match x, y with
  | .int k1 a, .int _ b => K (.int k1 (if b > a then b else a))
  | _, _ => False

def sMin (x y : AV) (K : AV → Prop) : Prop :=
  match x, y with
  | .int k1 a, .int _ b => K (.int k1 (if b < a then b else a))
  | _, _ => False

def sMark (m : Mem) (x : AV) (K : AV → Prop) : Prop :=
  match x with
  | .osl o sz off n => (match m o with
    | some (.cells _) => K (.osl o sz off n)
    | _ => False)
  | _ => False

def sF64bits (x : AV) (K : AV → Prop) : Prop :=
  match x with
  | .f64 b => K (.int .u64 b)
  | _ => False

def sF64from (x : AV) (K : AV → Prop) : Prop :=
  match x with
  | .int .u64 b => 0 ≤ b ∧ K (.f64 b.toNat)
  | _ => False

abbrev CallP := (Nat → Prop) → FuncId → List AV → Mem → (ARet → Mem → Prop) → Prop

def back (K : AV → Mem → Prop) (E : List PanicEntry → Mem → Prop) : ARet → Mem → Prop
  | .ret v, m => K v m
  | .pan c, m => E c m

def sPanic (x : AV) (E : List PanicEntry → Prop) : Prop :=
  match x with
  | .ifc t (.agg []) => E [{ v := .iface t (.agg #[]), recovered := false }]
  | _ => False

def sCallv (C : CallP) (B : Nat → Prop) (f : AV) (args : List AV) (m : Mem) (K : AV → Mem → Prop) (E : List PanicEntry → Mem → Prop) : Prop :=
  match f with
  | .fn g fst caps => C B g (fst ++ args ++ caps) m (back K E)
  | _ => False

def stepI (C : CallP) (B : Nat → Prop) (i : AI) (fr : Fr) (m : Mem) (K : AV → Mem → Prop) (E : List PanicEntry → Mem → Prop) : Prop :=
  match i with
  | .mv x => K (x.ev fr) m
  | .pick c a b => sPick (c.ev fr) (a.ev fr) (b.ev fr) fun z => K z m
  | .alloc zero => K (.ptr m.nx 0) (m.new (.cells zero))
  | .box x => (x.ev fr).storable = true ∧ K (.ptr m.nx 0) (m.new (.cells (x.ev fr).cells))
  | .build zero parts => sBuild fr zero parts fun cs => K (.agg cs) m
  | .bslice sz len zero parts => sBuild fr (rep len zero) parts fun cs => K (.osl m.nx sz 0 len) (m.new (.cells cs))
  | .load a => sLoad m (a.ev fr) fun z => K z m
  | .loadA sz a => sLoadA m sz (a.ev fr) fun z => K z m
  | .store sz a x => sStore B m sz (a.ev fr) (x.ev fr) fun m' => K .junk m'
  | .nilchk x => sNilchk (x.ev fr) fun z => K z m
  | .binI fx op ik x y => sBinI fx op ik (x.ev fr) (y.ev fr) fun z => K z m
  | .binS op x y => sBinS op (x.ev fr) (y.ev fr) fun z => K z m
  | .binB neg x y => sBinB neg (x.ev fr) (y.ev fr) fun z => K z m
  | .binF op x y => sBinF op (x.ev fr) (y.ev fr) fun z => K z m
  | .eqNil k neg x y => sEqNil k neg (x.ev fr) (y.ev fr) fun z => K z m
  | .eqSt kinds x y => sEqSt kinds (x.ev fr) (y.ev fr) fun z => K z m
  | .neg ik x => sNeg ik (x.ev fr) fun z => K z m
  | .compl ik x => sCompl ik (x.ev fr) fun z => K z m
  | .not x => sNot (x.ev fr) fun z => K z m
  | .cvtI ik x => sCvtI ik (x.ev fr) fun z => K z m
  | .cvtF x => sCvtF (x.ev fr) fun z => K z m
  | .cvtSS x => sCvtSS (x.ev fr) fun z => K z m
  | .cvtSB x => sCvtSB (x.ev fr) fun z => K z m
  | .cvtBS x => sCvtBS m (x.ev fr) fun z => K z m
  | .mkfn f fst caps => K (.fn f (fst.map (·.ev fr)) (caps.map (·.ev fr))) m
  | .mkmap ik => K (.mp m.nx) (m.new (.map ik [] 0))
  | .mkslice sz bytes zero l c => sMkslice m sz zero (l.ev fr) (c.ev fr) K
  | .slice sz x lo hi mx => sSlice sz (x.ev fr) (lo.map (·.ev fr)) (hi.map (·.ev fr)) (mx.map (·.ev fr)) fun z => K z m
  | .sliceS x lo hi => sSliceS (x.ev fr) (lo.map (·.ev fr)) (hi.map (·.ev fr)) fun z => K z m
  | .sliceA sz n x lo hi => sSliceA m sz n (x.ev fr) (lo.map (·.ev fr)) (hi.map (·.ev fr)) fun z => K z m
  | .fieldAddr off x => sFieldAddr off (x.ev fr) fun z => K z m
  | .field off sz x => sField off sz (x.ev fr) fun z => K z m
  | .idxA sz n x j => sIdxA sz n (x.ev fr) (j.ev fr) fun z => K z m
  | .idxS sz x j => sIdxS sz (x.ev fr) (j.ev fr) fun z => K z m
  | .index sz esz n x j => sIndex sz esz n (x.ev fr) (j.ev fr) fun z => K z m
  | .indexS x j => sIndexS (x.ev fr) (j.ev fr) fun z => K z m
  | .lookup ik ok zero x y => sLookup m ik ok zero (x.ev fr) (y.ev fr) fun z => K z m
  | .mupd ik x y v => sMupd B m ik (x.ev fr) (y.ev fr) (v.ev fr) fun m' => K .junk m'
  | .range x => sRange m (x.ev fr) K
  | .next it => sNext B m (it.ev fr) K
  | .entry it => sEntry m (it.ev fr) fun z => K z m
  | .extract t j => sExtract (t.ev fr) j fun z => K z m
  | .lenS x => sLenS (x.ev fr) fun z => K z m
  | .len x => sLen (x.ev fr) fun z => K z m
  | .lenM x => sLenM m (x.ev fr) fun z => K z m
  | .lenC n => K (.int .i64 n) m
  | .app sz _ s x => sApp B m sz (s.ev fr) (x.ev fr) K
  | .copy sz d s => sCopy B m sz (d.ev fr) (s.ev fr) K
  | .del ik x y => sDel B m ik (x.ev fr) (y.ev fr) fun m' => K .junk m'
  | .clear sz zero x => sClear B m sz zero (x.ev fr) fun m' => K .junk m'
  | .maxI x y => sMax (x.ev fr) (y.ev fr) fun z => K z m
  | .minI x y => sMin (x.ev fr) (y.ev fr) fun z => K z m
  | .iface t x => K (.ifc t (x.ev fr)) m
  | .panic x => sPanic (x.ev fr) fun c => E c m
  | .call f args => C B f (args.map (·.ev fr)) m (back K E)
  | .callv f args => sCallv C B (f.ev fr) (args.map (·.ev fr)) m K E
  | .mark x => sMark m (x.ev fr) fun z => K z m
  | .f64bits x => sF64bits (x.ev fr) fun z => K z m
  | .f64from x => sF64from (x.ev fr) fun z => K z m
  | .none => False

end Go.X

/- The translation of the model's operations into the abstract ones. -/
import Derived.Test.YtnieadkafeohlaaGreatDoorGoxDoes11
set_option linter.unusedVariables false
set_option linter.unusedSimpArgs false
namespace Go.X

/-- A type's zero value, cell by cell. -/
def zeroOf (P : Program) (t : TypeId) : Option (List AV) :=
  match P.info? t with
  | some i => match i.zero with
    | some z => if z.cells.size = i.size then cVals z.cells.toList else none
    | none => none
  | none => none

/-- A type's zero value as one value. -/
def zero1 (P : Program) (t : TypeId) : Option AV :=
  match P.info? t with
  | some i => match i.zero with
    | some z => cVal z
    | none => none
  | none => none

def szOf (P : Program) (t : TypeId) : Option Nat := (P.info? t).map (·.size)

def cOpds (ng : Glob) (n : Nat) : List Operand → Option (List Opd)
  | [] => some []
  | x :: xs => match cOpd ng n x, cOpds ng n xs with
    | some y, some ys => some (y :: ys)
    | _, _ => none

def cOpt (ng : Glob) (n : Nat) : Option Operand → Option (Option Opd)
  | none => some none
  | some x => (cOpd ng n x).map some

/-- A key's kind. -/
def keyK (P : Program) (t : TypeId) : Option (Option IntKind) :=
  match P.underlying t with
  | some .string => some none
  | some (.int k) => some (some k)
  | _ => none

def binI? : BinOp → Option BinI
  | .add => some .add | .sub => some .sub | .mul => some .mul | .quo => some .quo | .rem => some .rem | .and => some .and | .or => some .or | .xor => some .xor | .andNot => some .andNot
  | .eql => some .eql | .neq => some .neq | .lss => some .lss | .leq => some .leq | .gtr => some .gtr | .geq => some .geq | .shl => some .shl | .shr => some .shr
def binS? : BinOp → Option BinS
  | .add => some .add | .eql => some .eql | .neq => some .neq | .lss => some .lss | .leq => some .leq | .gtr => some .gtr | .geq => some .geq
  | _ => none
def negOf : BinOp → Option Bool
  | .eql => some false
  | .neq => some true
  | _ => none

def cBin (P : Program) (ng : Glob) (op : BinOp) (t : TypeId) (x y : Opd) : AI :=
  match P.underlying t with
  | some (.int k) => match binI? op with
    | some o => .binI ng.fx o k x y
    | none => .none
  | some .string => match binS? op with
    | some o => .binS o x y
    | none => .none
  | some .bool => match negOf op with
    | some b => .binB b x y
    | none => .none
  | some (.float .f64) => .binF op x y
  | some (.pointer _) => match negOf op with
    | some b => .eqNil .ptr b x y
    | none => .none
  | some (.map _ _) => match negOf op with
    | some b => .eqNil .map b x y
    | none => .none
  | some (.slice _) => match negOf op with
    | some b => .eqNil .sl b x y
    | none => .none
  | some (.func ..) => match negOf op with
    | some b => .eqNil .fn b x y
    | none => .none
  | _ => .none

def isU8 (P : Program) (t : TypeId) : Bool :=
  match P.underlying t with
  | some (.int .u8) => true
  | _ => false

def cConv (P : Program) (src dst : TypeId) (x : Opd) : AI :=
  match P.underlying src, P.underlying dst with
  | some (.int _), some (.int k) => .cvtI k x
  | some (.int _), some (.float .f64) => .cvtF x
  | some .string, some .string => .cvtSS x
  | some .string, some (.slice e) => if isU8 P e then .cvtSB x else .none
  | some (.slice e), some .string => if isU8 P e then .cvtBS x else .none
  | some (.slice e), some (.slice _) => if src == dst && isU8 P e then .mark x else .none
  | _, _ => .none

def cBuild (P : Program) (ng : Glob) (n : Nat) (t : TypeId) (parts : List (Nat × Operand)) : AI :=
  match zeroOf P t, P.underlying t with
  | some zero, some (.struct fields) =>
    match fields.toList.mapM (fun f => (P.info? f.type).map fun i => (f.offset, i.size)) with
    | some places => match partsAt (places.toArray[·]?) ng n parts with
      | some ps => .build zero ps
      | none => .none
    | none => .none
  | some zero, some (.array _ e) =>
    match szOf P e with
    | some sz => match partsAt (fun i => some (i * sz, sz)) ng n parts with
      | some ps => .build zero ps
      | none => .none
    | none => .none
  | _, _ => .none

def cBSlice (P : Program) (ng : Glob) (n : Nat) (t : TypeId) (len : Nat) (parts : List (Nat × Operand)) : AI :=
  match P.underlying t with
  | some (.slice e) =>
    match szOf P e, zeroOf P e with
    | some sz, some zero =>
      if len * sz ≤ 16777216 then
        match partsAt (fun j => some (j * sz, sz)) ng n parts with
        | some ps => .bslice sz len zero ps
        | none => .none
      else .none
    | _, _ => .none
  | _ => .none

def isRow : TypeDesc → Bool
  | .slice _ | .string => true
  | _ => false

def cBuiltin (P : Program) (b : Builtin) (ts : List TypeId) (xs : List Opd) : AI :=
  match b, ts, xs with
  | .len, [t], [x] => match P.underlying t with
    | some .string => .lenS x
    | some (.slice _) => .len x
    | some (.map _ _) => .lenM x
    | _ => .none
  | .append, [st, xt], [s, x] => match P.underlying st, P.underlying xt with
    | some (.slice e), some d => match P.info? e, zeroOf P e with
      | some i, some _ => if isRow d && decide (0 < i.bytes) && decide (i.bytes ≤ 1024) then .app i.size i.bytes s x else .none
      | _, _ => .none
    | _, _ => .none
  | .copy, [dt, st], [d, s] => match P.underlying dt with
    | some (.slice e) => match szOf P e with
      | some sz => .copy sz d s
      | none => .none
    | _ => .none
  | .delete, [t, _], [x, k] => match P.underlying t with
    | some (.map kt _) => match keyK P kt with
      | some ik => .del ik x k
      | none => .none
    | _ => .none
  | .clear, [t], [x] => match P.underlying t with
    | some (.slice e) => match szOf P e, zeroOf P e with
      | some sz, some zero => .clear sz zero x
      | _, _ => .none
    | _ => .none
  | .max, _, [x, y] => .maxI x y
  | .min, _, [x, y] => .minI x y
  | _, _, _ => .none

/-- A function with a body of its own. -/
def bodied (P : Program) (f : FuncId) : Bool :=
  match P.funcs[f]? with
  | some fn => fn.body.isSome && fn.name != "runtime.NumGoroutine"
  | none => false

/-- A function of the library without a body, by its name. -/
def extName (P : Program) (f : FuncId) : Option String :=
  match P.funcs[f]? with
  | some fn => if fn.body.isNone && fn.origin == "" then some fn.name else none
  | none => none

def cExt (name : String) (f : FuncId) (xs : List Opd) : AI :=
  if name = "math.Float64bits" then (match xs with
    | [x] => .f64bits x
    | _ => .none)
  else if name = "math.Float64frombits" then (match xs with
    | [x] => .f64from x
    | _ => .none)
  else .call f xs

def cCall (P : Program) (ng : Glob) (n : Nat) (c : Call) : AI :=
  match cOpds ng n c.args.toList with
  | none => .none
  | some xs =>
    match c.callee with
    | .builtin b => cBuiltin P b c.argTypes.toList xs
    | .value (.func f) => (match extName P f with
      | some name => cExt name f xs
      | none => .call f xs)
    | .value f => match cOpd ng n f with
      | some y => .callv y xs
      | none => .none
    | _ => .none

def oneC (ng : Glob) (n : Nat) (x : Operand) (k : Opd → AI) : AI := match cOpd ng n x with
  | some y => k y
  | none => .none
def twoC (ng : Glob) (n : Nat) (x y : Operand) (k : Opd → Opd → AI) : AI := match cOpd ng n x, cOpd ng n y with
  | some a, some b => k a b
  | _, _ => .none

def cT : Op → Program → Glob → Nat → AI
  | .move x => fun P ng n => oneC ng n x .mv
  | .assign x => fun P ng n => oneC ng n x .mv
  | .pick c a b => fun P ng n => oneC ng n c fun c => twoC ng n a b fun a b => .pick c a b
  | .alloc t => fun P ng n => match zeroOf P t with
    | some zero => .alloc zero
    | none => .none
  | .box _ x => fun P ng n => oneC ng n x .box
  | .build t parts => fun P ng n => cBuild P ng n t parts.toList
  | .buildSlice t len parts => fun P ng n => cBSlice P ng n t len parts.toList
  | .load t a => fun P ng n => oneC ng n a fun a => match P.underlying t, szOf P t with
    | some d, some sz => if isAggD d then .loadA sz a else .load a
    | _, _ => .none
  | .store t a x => fun P ng n => twoC ng n a x fun a x => match szOf P t with
    | some sz => .store sz a x
    | none => .none
  | .nilCheck x => fun P ng n => oneC ng n x .nilchk
  | .binOp op t x y _ => fun P ng n => twoC ng n x y fun x y => cBin P ng op t x y
  | .unOp .neg t x => fun P ng n => oneC ng n x fun x => match P.underlying t with
    | some (.int k) => .neg k x
    | _ => .none
  | .unOp .xor t x => fun P ng n => oneC ng n x fun x => match P.underlying t with
    | some (.int k) => .compl k x
    | _ => .none
  | .unOp .not _ x => fun P ng n => oneC ng n x .not
  | .convert src dst x => fun P ng n => oneC ng n x fun x => cConv P src dst x
  | .makeInterface t x => fun P ng n => oneC ng n x fun x => match P.underlying t with
    | some (.interface _) => .none
    | some _ => .iface t x
    | none => .none
  | .makeFunc (.func f) first captured => fun P ng n => match cOpds ng n first.toList, cOpds ng n captured.toList with
    | some a, some b => .mkfn f a b
    | _, _ => .none
  | .makeMap t none => fun P ng n => match P.underlying t with
    | some (.map k _) => match keyK P k with
      | some ik => .mkmap ik
      | none => .none
    | _ => .none
  | .makeSlice t l c => fun P ng n => twoC ng n l c fun l c => match P.underlying t with
    | some (.slice e) => match P.info? e, zeroOf P e with
      | some i, some zero => if i.bytes ≤ 1024 then .mkslice i.size i.bytes zero l c else .none
      | _, _ => .none
    | _ => .none
  | .slice t x lo hi mx => fun P ng n => oneC ng n x fun x => match cOpt ng n lo, cOpt ng n hi, cOpt ng n mx with
    | some lo, some hi, some mx => match P.underlying t with
      | some .string => if mx.isSome then .none else .sliceS x lo hi
      | some (.slice e) => match szOf P e with
        | some sz => .slice sz x lo hi mx
        | none => .none
      | some (.array len e) => if mx.isSome then .none else match szOf P e with
        | some sz => .sliceA sz len x lo hi
        | none => .none
      | _ => .none
    | _, _, _ => .none
  | .fieldAddr s x f => fun P ng n => oneC ng n x fun x => match P.underlying s with
    | some (.struct fs) => match fs[f]? with
      | some fd => match szOf P fd.type with
        | some sz => if sz = 0 then .none else .fieldAddr fd.offset x
        | none => .none
      | none => .none
    | _ => .none
  | .field s x f => fun P ng n => oneC ng n x fun x => match P.underlying s with
    | some (.struct fs) => match fs[f]? with
      | some fd => match P.underlying fd.type, szOf P fd.type with
        | some d, some sz => .field fd.offset (if isAggD d then some sz else none) x
        | _, _ => .none
      | none => .none
    | _ => .none
  | .indexAddr t x i => fun P ng n => twoC ng n x i fun x i => match P.underlying t with
    | some (.slice e) => match szOf P e with
      | some sz => .idxS sz x i
      | none => .none
    | some (.array len e) => match szOf P e with
      | some sz => .idxA sz len x i
      | none => .none
    | _ => .none
  | .index t x i => fun P ng n => twoC ng n x i fun x i => match P.underlying t with
    | some .string => .indexS x i
    | some (.array len e) => match P.underlying e, szOf P e with
      | some d, some sz => .index (if isAggD d then some sz else none) sz len x i
      | _, _ => .none
    | _ => .none
  | .lookup t x k ok => fun P ng n => twoC ng n x k fun x k => match P.underlying t with
    | some (.map kt et) => match keyK P kt, zero1 P et with
      | some ik, some z => .lookup ik ok z x k
      | _, _ => .none
    | _ => .none
  | .mapUpdate t x k v => fun P ng n => twoC ng n x k fun x k => oneC ng n v fun v => match P.underlying t with
    | some (.map kt _) => match keyK P kt with
      | some ik => .mupd ik x k v
      | none => .none
    | _ => .none
  | .extract t i => fun P ng n => oneC ng n t fun t => .extract t i
  | .panic x => fun P ng n => oneC ng n x .panic
  | .call c => fun P ng n => cCall P ng n c
  | _ => fun _ _ _ => .none
def cI (P : Program) (ng : Glob) (n : Nat) (op : Op) : AI := cT op P ng n

def cGuard (ops : Array Oper) (n : Nat) : Option (Nat × Bool) → Option (Option (Nat × Bool))
  | none => some none
  | some (j, want) => match (ops[j]?).bind (·.dst) with
    | some s => if s < n then some (some (s, want)) else none
    | none => none

def cO (P : Program) (ng : Glob) (n : Nat) (ops : Array Oper) (o : Oper) : Option AO :=
  match cGuard ops n o.guard, (match o.dst with | some d => decide (d < n) | none => true) with
  | some g, true => some ⟨o.dst, g, cI P ng n o.op⟩
  | _, _ => none

def cOs (P : Program) (ng : Glob) (n : Nat) (ops : Array Oper) : List Oper → Option (List AO)
  | [] => some []
  | o :: os => match cO P ng n ops o, cOs P ng n ops os with
    | some a, some as => some (a :: as)
    | _, _ => none

inductive AC where
  | skip
  | region (ops : List AO)
  | draw (ops : List AO) (edges : List (List Nat))
  | seq (a b : AC)
  | cond (c : Opd) (a b : AC)
  | block (id : Nat) (a : AC)
  | loop (a : AC)
  | exit (id : Nat)
  | ret
  | bad

def edgesOf (ops : Array Oper) : List (List Nat) := ops.toList.map fun o => (o.after.toList.filter (Region.binds .any)).map (·.on)

/-- Each edge of a mode leads back, by a rank. -/
def backOk (md : Region.Mode) (r : Nat → Nat) (ops : Array Oper) : Bool :=
  ops.toList.zipIdx.all fun (o, i) => o.after.toList.all fun e => !Region.binds md e || (decide (e.on < ops.size) && decide (r e.on < r i))

def drawOk (ops : Array Oper) : Bool :=
  backOk .any id ops && (!Region.departs ops || (backOk .text id ops && backOk .gc (fun i => (Region.linearise .gc ops 0).idxOf i) ops))

def cCode (P : Program) (ng : Glob) (n : Nat) : Code → AC
  | .skip => .skip
  | .region _ ops false => match cOs P ng n ops ops.toList with
    | some l => .region l
    | none => .bad
  | .region _ ops true => match cOs P ng n ops ops.toList with
    | some l => if drawOk ops then .draw l (edgesOf ops) else .bad
    | none => .bad
  | .seq a b => .seq (cCode P ng n a) (cCode P ng n b)
  | .cond c a b => match cOpd ng n c with
    | some x => .cond x (cCode P ng n a) (cCode P ng n b)
    | none => .bad
  | .block id a => .block id (cCode P ng n a)
  | .loop a => .loop (cCode P ng n a)
  | .exit id => .exit id
  | .ret => .ret
  | _ => .bad

end Go.X

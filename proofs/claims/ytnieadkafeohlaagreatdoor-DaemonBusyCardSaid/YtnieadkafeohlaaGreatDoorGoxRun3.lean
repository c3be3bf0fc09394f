/- The abstract machine, run: code and calls. -/
import Derived.Test.YtnieadkafeohlaaGreatDoorGoxRun2
import Derived.Test.YtnieadkafeohlaaGreatDoorGoxRec
set_option linter.unusedVariables false
set_option linter.unusedSimpArgs false
namespace Go.X
noncomputable section

def putL (fr : FL) : Option Nat → AV → FL
  | some d, v => fr.set d v
  | none, _ => fr

theorem frT_putL (fr : FL) (d : Option Nat) (v : AV) : frT (putL fr d v) = putF (frT fr) d v := by
  cases d with
  | none => rfl
  | some d => exact frT_set fr d v

inductive LEx where
  | normal
  | exit (id : Nat)
  | ret
  | pan (c : List PanicEntry)

def resL (fr : FL) (m : Mem) : List ARes → Option (List AV)
  | [] => some []
  | .tmp t :: l => match resL fr m l with
    | some vs => some (fr.get t :: vs)
    | none => none
  | .cell t :: l => match oLoad m (fr.get t), resL fr m l with
    | some v, some vs => some (v :: vs)
    | _, _ => none
  | .cellA t sz :: l => match oLoadA m sz (fr.get t), resL fr m l with
    | some v, some vs => some (v :: vs)
    | _, _ => none

theorem resL_ok {fr : FL} {m : Mem} : ∀ {l : List ARes} {vs : List AV} {K : List AV → Prop}, resL fr m l = some vs → K vs → resK (frT fr) m l K
  | [], vs, K, h, hk => by simp [resL] at h; subst h; exact hk
  | .tmp t :: l, vs, K, h, hk => by
    simp only [resL] at h
    split at h
    · rename_i vs' hr
      simp at h; subst h
      exact resL_ok (K := fun vs => K (frT fr t :: vs)) hr hk
    · simp at h
  | .cell t :: l, vs, K, h, hk => by
    simp only [resL] at h
    split at h
    · rename_i v vs' hv hr
      simp at h; subst h
      exact oLoad_ok (m := m) (a := frT fr t) hv (resL_ok (K := fun vs => K (v :: vs)) hr hk)
    · simp at h
  | .cellA t sz :: l, vs, K, h, hk => by
    simp only [resL] at h
    split at h
    · rename_i v vs' hv hr
      simp at h; subst h
      exact oLoadA_ok (m := m) (a := frT fr t) hv (resL_ok (K := fun vs => K (v :: vs)) hr hk)
    · simp at h

/-- Is it the one panic? -/
def panIs (wt : Nat) : List PanicEntry → Bool
  | [{ v := .iface t (.agg a), recovered := false, goexit := false }] => Nat.beq t wt && Nat.beq a.size 0
  | _ => false

theorem panIs_ok {wt : Nat} {c : List PanicEntry} (h : panIs wt c = true) : c = [{ v := .iface wt (.agg #[]), recovered := false }] := by
  unfold panIs at h
  split at h
  · rename_i t a
    simp only [Bool.and_eq_true] at h
    have h1 := Nat.eq_of_beq_eq_true h.1
    have h2 := Nat.eq_of_beq_eq_true h.2
    rw [h1, Array.size_eq_zero_iff.1 h2]
  · simp at h

abbrev Rec := List Nat → AC → FL → EM → Option (LEx × FL × EM)
abbrev Nat1 := Nat → List AV → EM → Option (AV × EM)

section
variable (T : Nat → Option AFn) (N : Nat1)

def callX (ih : Rec) (B : List Nat) (f : Nat) (args : List AV) (m : EM) : Option (ARet × EM) :=
  match N f args m with
  | some (v, m') => some (.ret v, m')
  | none => match T f with
    | none => none
    | some fn => bif Nat.ble args.length fn.n then (match fn.rcv with
      | none => (match ih B fn.code (FL.ofL args) m with
        | some (.normal, fr, m') => (match resL fr m'.mem fn.res with
          | some vs => some (.ret (oneOr vs), m')
          | none => none)
        | some (.ret, fr, m') => (match resL fr m'.mem fn.res with
          | some vs => some (.ret (oneOr vs), m')
          | none => none)
        | some (.pan c, _, m') => some (.pan c, m')
        | _ => none)
      | some r => (match ih B r.pre (FL.ofL args) m with
        | some (.normal, fr1, m1) => (match ih B fn.code (fr1.set r.t6 .junk) m1 with
          | some (.normal, fr, m') => (match resL fr m'.mem fn.res with
            | some vs => some (.ret (oneOr vs), m')
            | none => none)
          | some (.ret, fr, m') => (match resL fr m'.mem fn.res with
            | some vs => some (.ret (oneOr vs), m')
            | none => none)
          | some (.pan c, _, m') => bif panIs r.wt c then (match ih B r.code (FL.ofL (ls3 r.rn r.pos (fr1.get r.i) (fr1.get r.j))) m' with
            | some (.normal, _, m2) => (match resL (FL.ofL (ls2 fn.n r.i r.j (fr1.get r.i) (fr1.get r.j))) m2.mem fn.res with
              | some vs => some (.ret (oneOr vs), m2)
              | none => none)
            | _ => none) else none
          | _ => none)
        | _ => none)) else none

def opX (ih : Rec) (B : List Nat) (i : AI) (fr : FL) (m : EM) : Option (ARet × EM) :=
  match i with
  | .call f args => callX T N ih B f (args.map (evL fr)) m
  | .callv f args => (match evL fr f with
    | .fn g fst caps => callX T N ih B g (fst ++ args.map (evL fr) ++ caps) m
    | _ => none)
  | .panic x => (match evL fr x with
    | .ifc t (.agg []) => some (.pan [{ v := .iface t (.agg #[]), recovered := false }], m)
    | _ => none)
  | i => match execI B i fr m with
    | some (v, m') => some (.ret v, m')
    | none => none

def guardX (fr : FL) (o : AO) : Option Bool :=
  match o.guard with
  | none => some true
  | some (j, want) => gOf (fr.get j) want

def runK (go : FL → EM → Option (LEx × FL × EM)) (o : AO) (fr : FL) : Option (ARet × EM) → Option (LEx × FL × EM)
  | some (.ret v, m') => go (putL fr o.dst v) m'
  | some (.pan c, m') => some (.pan c, fr, m')
  | none => none

def runX (ih : Rec) (B : List Nat) (ops : List AO) : FL → EM → Option (LEx × FL × EM) :=
  List.rec (motive := fun _ => FL → EM → Option (LEx × FL × EM)) (fun fr m => some (.normal, fr, m)) (fun o _ go fr m =>
    match guardX fr o with
    | some true => runK go o fr (opX T N ih B o.op fr m)
    | some false => go (putL fr o.dst (.tup [])) m
    | none => none) ops
theorem runX_nil (ih : Rec) (B : List Nat) (fr : FL) (m : EM) : runX T N ih B [] fr m = some (.normal, fr, m) := rfl
theorem runX_cons (ih : Rec) (B : List Nat) (o : AO) (os : List AO) (fr : FL) (m : EM) : runX T N ih B (o :: os) fr m = match guardX fr o with
    | some true => (match opX T N ih B o.op fr m with
      | some (.ret v, m') => runX T N ih B os (putL fr o.dst v) m'
      | some (.pan c, m') => some (.pan c, fr, m')
      | none => none)
    | some false => runX T N ih B os (putL fr o.dst (.tup [])) m
    | none => none := rfl

/-! ### Drawn regions -/
def objOf : AV → List Nat
  | .ptr o _ => [o]
  | .mp o => [o]
  | .osl o _ _ _ => [o]
  | _ => []

/-- Which objects an operation that only reads may read. -/
def objsOf (i : AI) (fr : FL) : List Nat :=
  match i with
  | .load a => objOf (evL fr a)
  | .loadA _ a => objOf (evL fr a)
  | .cvtBS x => objOf (evL fr x)
  | .sliceA _ _ x _ _ => objOf (evL fr x)
  | .lookup _ _ _ x _ => objOf (evL fr x)
  | .lenM x => objOf (evL fr x)
  | .mark x => objOf (evL fr x)
  | _ => []

/-- A memory's part. -/
def part1 (S : List Nat) (m : EM) : Mem := ⟨fun o => bif inB S o then m.t.get o else none, m.nx⟩

def okS (S : List Nat) (m : EM) : Bool := S.all fun s => Nat.blt s m.nx && (m.t.get s).isSome

def drawX (ih : Rec) (B : List Nat) (ops : List AO) (anc : List (List Nat)) : List Nat → List (Nat × List Nat) → FL → EM → Option (LEx × FL × EM)
  | [], _, fr, m => some (.normal, fr, m)
  | i :: τ, pend, fr, m =>
    match ops[i]? with
    | none => none
    | some o =>
      match guardX fr o with
      | some true =>
        bif o.op.rd then
          bif okS (objsOf o.op fr) m then (match rdI o.op fr (part1 (objsOf o.op fr) m) with
            | some v => drawX ih B ops anc τ ((i, objsOf o.op fr) :: pend) (putL fr o.dst v) m
            | none => none) else none
        else bif okS (protOf (fun i => anc.getD i []) pend i) m then (match opX T N ih (protOf (fun i => anc.getD i []) pend i ++ B) o.op fr m with
          | some (.ret v, m') => drawX ih B ops anc τ pend (putL fr o.dst v) m'
          | _ => none) else none
      | some false => bif o.op.rd then drawX ih B ops anc τ ((i, []) :: pend) (putL fr o.dst (.tup [])) m
          else bif okS (protOf (fun i => anc.getD i []) pend i) m then drawX ih B ops anc τ pend (putL fr o.dst (.tup [])) m else none
      | none => none

/-- An order: readers first. -/
def pickOrder (ops : List AO) (edges : List (List Nat)) : Nat → List Nat → List Nat → List Nat
  | 0, _, acc => acc
  | k + 1, left, acc =>
    let ready := left.filter fun i => (edges.getD i []).all fun j => acc.contains j
    match ready.filter fun i => match ops[i]? with | some o => o.op.rd | none => false with
    | i :: _ => pickOrder ops edges k (left.filter fun j => !Nat.beq j i) (acc ++ [i])
    | [] => match ready with
      | i :: _ => pickOrder ops edges k (left.filter fun j => !Nat.beq j i) (acc ++ [i])
      | [] => acc

def orderOf (ops : List AO) (edges : List (List Nat)) : List Nat := pickOrder ops edges ops.length (List.range ops.length) []

def dstOf (o : AO) : List Nat := match o.dst with | some d => [d] | none => []
def sepB (a b : AO) : Bool := (dstOf a).all (fun d => !(usesOf b).contains d) && (dstOf b).all (fun d => !(usesOf a).contains d) && (dstOf a).all fun d => !(dstOf b).contains d

def orderOk (ops : List AO) (anc : List (List Nat)) : List Nat → Bool
  | [] => true
  | i :: τ => (match ops[i]? with
    | some o => bif o.op.rd then τ.all fun j => (anc.getD j []).contains i || (match ops[j]? with | some oj => sepB o oj | none => true) else τ.all fun j => (anc.getD j []).contains i
    | none => false) && orderOk ops anc τ

def permOk (n : Nat) (τ : List Nat) : Bool := Nat.beq τ.length n && τ.all (Nat.blt · n) && (List.range n).all τ.contains

def staticOk (ops : List AO) (edges : List (List Nat)) : Bool :=
  Nat.beq ops.length edges.length && permOk edges.length (orderOf ops edges) && orderOk ops (ancs [] edges) (orderOf ops edges)

def execX (fuel : Nat) : Rec :=
  Nat.rec (motive := fun _ => Rec) (fun _ _ _ _ => none) (fun _ ih B x fr m => match x with
    | .skip => some (.normal, fr, m)
    | .region ops => runX T N ih B ops fr m
    | .draw ops edges => bif staticOk ops edges then drawX T N ih B ops (ancs [] edges) (orderOf ops edges) [] fr m else none
    | .seq a b => (match ih B a fr m with
      | some (.normal, fr', m') => ih B b fr' m'
      | r => r)
    | .cond c a b => (match evL fr c with
      | .bool true => ih B a fr m
      | .bool false => ih B b fr m
      | _ => none)
    | .block id a => (match ih B a fr m with
      | some (.exit id', fr', m') => if id' = id then some (.normal, fr', m') else some (.exit id', fr', m')
      | r => r)
    | .loop a => (match ih B a fr m with
      | some (.normal, fr', m') => ih B (.loop a) fr' m'
      | r => r)
    | .exit id => some (.exit id, fr, m)
    | .ret => some (.ret, fr, m)
    | .bad => none) fuel
end

end
end Go.X

/- The abstract machine's operations, run. -/
import Derived.Test.YtnieadkafeohlaaGreatDoorGoxExec
set_option linter.unusedVariables false
set_option linter.unusedSimpArgs false
namespace Go.X
noncomputable section

instance (x : Int) : Decidable (inI64 x) := by unfold inI64; infer_instance

def oFit (k : IntKind) (x : Int) : Option AV :=
  match k with
  | .i64 => if inI64 x then some (.int .i64 x) else none
  | k => some (.int k (k.wrap x))

theorem oFit_ok {k : IntKind} {x : Int} {v : AV} {K : AV → Prop} (h : oFit k x = some v) (hk : K v) : fitK k x K := by
  unfold oFit at h; unfold fitK
  split at h
  · split at h
    · simp at h; subst h; exact ⟨‹_›, hk⟩
    · simp at h
  · simp at h; subst h
    split
    · simp_all
    · exact hk

/-- Numbers compared so that the kernel sees it at symbols too. -/
def ltZ : Int → Int → Bool
  | .ofNat a, .ofNat b => Nat.blt a b
  | .negSucc a, .negSucc b => Nat.blt b a
  | .negSucc _, .ofNat _ => true
  | .ofNat _, .negSucc _ => false
def eqZ : Int → Int → Bool
  | .ofNat a, .ofNat b => Nat.beq a b
  | .negSucc a, .negSucc b => Nat.beq a b
  | _, _ => false
theorem blt_dec (a b : Nat) : Nat.blt a b = decide (a < b) := by
  cases h : Nat.blt a b with
  | true => rw [Nat.blt_eq] at h; exact (decide_eq_true h).symm
  | false =>
    have : ¬ a < b := fun e => by rw [← Nat.blt_eq, h] at e; cases e
    exact (decide_eq_false this).symm
theorem ltZ_eq (a b : Int) : ltZ a b = decide (a < b) := by
  cases a <;> cases b <;> simp only [ltZ, blt_dec, decide_eq_decide, Int.ofNat_eq_natCast] <;> first
    | (rw [decide_eq_decide]; omega)
    | (symm; simp; omega)
    | omega
theorem eqZ_eq (a b : Int) : eqZ a b = decide (a = b) := by
  cases a with
  | ofNat a => cases b with
    | ofNat b =>
      show Nat.beq a b = _
      cases h : Nat.beq a b with
      | true => rw [Nat.eq_of_beq_eq_true h]; simp
      | false =>
        have : ¬ a = b := fun e => by subst e; rw [Nat.beq_refl] at h; cases h
        symm; apply decide_eq_false; intro e; exact this (Int.ofNat.inj e)
    | negSucc b => symm; apply decide_eq_false; intro e; cases e
  | negSucc a => cases b with
    | ofNat b => symm; apply decide_eq_false; intro e; cases e
    | negSucc b =>
      show Nat.beq a b = _
      cases h : Nat.beq a b with
      | true => rw [Nat.eq_of_beq_eq_true h]; simp
      | false =>
        have : ¬ a = b := fun e => by subst e; rw [Nat.beq_refl] at h; cases h
        symm; apply decide_eq_false; intro e; exact this (Int.negSucc.inj e)
def leZ (a b : Int) : Bool := !ltZ b a
theorem leZ_eq (a b : Int) : leZ a b = decide (a ≤ b) := by
  rw [leZ, ltZ_eq]
  by_cases h : b < a
  · rw [decide_eq_true h, decide_eq_false (by omega)]; rfl
  · rw [decide_eq_false h, decide_eq_true (by omega)]; rfl

def oBinI (fx : Fx) (op : BinI) (k : IntKind) (x y : AV) : Option AV :=
  match x, y with
  | .int k1 a, .int k2 b =>
    if k1 = k then match op with
    | .add => if k2 = k then oFit k (a + b) else none
    | .sub => if k2 = k then oFit k (a - b) else none
    | .mul => if k2 = k then oFit k (a * b) else none
    | .quo => if k2 = k then (if b = 0 then none else oFit k (a.tdiv b)) else none
    | .rem => if k2 = k then (if b = 0 then none else some (.int k (a.tmod b))) else none
    | .eql => if k2 = k then some (.bool (eqZ a b)) else none
    | .neq => if k2 = k then some (.bool (!eqZ a b)) else none
    | .lss => if k2 = k then some (.bool (ltZ a b)) else none
    | .leq => if k2 = k then some (.bool (leZ a b)) else none
    | .gtr => if k2 = k then some (.bool (ltZ b a)) else none
    | .geq => if k2 = k then some (.bool (leZ b a)) else none
    | .shl => if 0 ≤ b then some (.int k (k.wrap (a * 2 ^ (min b.toNat k.bits)))) else none
    | .shr => if 0 ≤ b then some (.int k (a.fdiv (2 ^ (min b.toNat k.bits)))) else none
    | op => if k2 = k then some (.int k (bitsK op k a b)) else none
    else none
  | .isym k1 i, .int k2 c => if k1 = k then (if k2 = k then fxI fx op k i c else none) else none
  | _, _ => none

theorem oBinI_ok {fx : Fx} {op : BinI} {k : IntKind} {x y v : AV} {K : AV → Prop} (h : oBinI fx op k x y = some v) (hk : K v) : sBinI fx op k x y K := by
  unfold oBinI at h; unfold sBinI
  simp only [leZ_eq, ltZ_eq, eqZ_eq] at h
  split at h
  · split at h
    · refine ⟨‹_›, ?_⟩
      cases op <;> simp only at h ⊢ <;> split at h <;> first
        | (exfalso; simp at h; done)
        | exact ⟨‹_›, oFit_ok h hk⟩
        | (simp only [Option.some.injEq] at h; subst h; exact ⟨‹_›, hk⟩)
        | (split at h <;> first
            | (exfalso; simp at h; done)
            | exact ⟨‹_›, ‹_›, oFit_ok h hk⟩
            | (simp only [Option.some.injEq] at h; subst h; exact ⟨‹_›, ‹_›, hk⟩))
    · simp at h
  · split at h
    · split at h
      · exact ⟨‹_›, ‹_›, v, h, hk⟩
      · simp at h
    · simp at h
  · simp at h

def oBinS (op : BinS) (x y : AV) : Option AV :=
  match x, y with
  | .str a, .str b =>
    match op with
    | .add => if a.length + b.length ≤ 9223372036854775807 then some (.str (a ++ b)) else none
    | .eql => some (.bool (decide (a = b)))
    | .neq => some (.bool (!decide (a = b)))
    | .lss => some (.bool (Op.bytesLess a b))
    | .leq => some (.bool (Op.bytesLess a b || decide (a = b)))
    | .gtr => some (.bool (!(Op.bytesLess a b || decide (a = b))))
    | .geq => some (.bool (!Op.bytesLess a b))
  | _, _ => none

theorem oBinS_ok {op : BinS} {x y v : AV} {K : AV → Prop} (h : oBinS op x y = some v) (hk : K v) : sBinS op x y K := by
  unfold oBinS at h; unfold sBinS
  split at h
  · cases op <;> simp only at h ⊢ <;> first
      | (simp only [Option.some.injEq] at h; subst h; exact hk)
      | (split at h <;> first
          | (exfalso; simp at h; done)
          | (simp only [Option.some.injEq] at h; subst h; exact ⟨‹_›, hk⟩))
  · simp at h

def oBinB (neg : Bool) (x y : AV) : Option AV :=
  match x, y with
  | .bool a, .bool b => some (.bool (if neg then a != b else a == b))
  | _, _ => none
theorem oBinB_ok {neg : Bool} {x y v : AV} {K : AV → Prop} (h : oBinB neg x y = some v) (hk : K v) : sBinB neg x y K := by
  unfold oBinB at h; unfold sBinB; split at h <;> simp at h; subst h; exact hk

def oBinF (op : BinOp) (x y : AV) : Option AV :=
  match x, y with
  | .f64 a, .f64 b => (match op with
    | .eql => some (.bool (FloatKind.f64.format.order a b == some .eq))
    | .neq => some (.bool (FloatKind.f64.format.order a b != some .eq))
    | .lss => some (.bool (FloatKind.f64.format.order a b == some .lt))
    | _ => none)
  | _, _ => none
theorem oBinF_ok {op : BinOp} {x y v : AV} {K : AV → Prop} (h : oBinF op x y = some v) (hk : K v) : sBinF op x y K := by
  unfold oBinF at h; unfold sBinF; split at h
  · cases op <;> simp only at h ⊢ <;> first | (simp at h; done) | (simp only [Option.some.injEq] at h; subst h; exact hk)
  · simp at h

def oEqNil (k : NK) (neg : Bool) (x y : AV) : Option AV :=
  match isNil k x, isNil k y with
  | some a, some true => some (.bool (a != neg))
  | some true, some b => some (.bool (b != neg))
  | _, _ => none
theorem oEqNil_ok {k : NK} {neg : Bool} {x y v : AV} {K : AV → Prop} (h : oEqNil k neg x y = some v) (hk : K v) : sEqNil k neg x y K := by
  unfold oEqNil at h; unfold sEqNil; split at h
  · rename_i h1 h2; rw [h1, h2]; simp at h; subst h; exact hk
  · rename_i h1 h2 h3; rw [h2, h3]; simp at h; subst h; rename_i b _ ; cases b <;> simpa using hk
  · simp at h

def oBuild (fr : FL) : List AV → List (Nat × Nat × Opd) → Option (List AV)
  | zero, [] => some zero
  | zero, (off, sz, x) :: rest => if (evL fr x).cells.length = sz ∧ off + sz ≤ zero.length ∧ ((evL fr x).cells.all AV.one = true) then oBuild fr (lay zero off (evL fr x).cells) rest else none
theorem oBuild_ok {fr : FL} {K : List AV → Prop} : ∀ {zero : List AV} {ps : List (Nat × Nat × Opd)} {cs : List AV}, oBuild fr zero ps = some cs → K cs → sBuild (frT fr) zero ps K
  | zero, [], cs, h, hk => by simp [oBuild] at h; subst h; exact hk
  | zero, (off, sz, x) :: rest, cs, h, hk => by
    unfold oBuild at h
    split at h
    · rename_i hc
      unfold sBuild
      rw [evL_eq]
      exact ⟨hc.1, hc.2.1, hc.2.2, oBuild_ok h hk⟩
    · simp at h

def oLoad (m : Mem) (a : AV) : Option AV :=
  match cellsAt m a with
  | some (cs, off) => cs[off]?
  | none => none
theorem oLoad_ok {m : Mem} {a v : AV} {K : AV → Prop} (h : oLoad m a = some v) (hk : K v) : sLoad m a K := by
  unfold oLoad at h; unfold sLoad; split at h
  · rename_i h1; rw [h1]; simp only [h]; exact hk
  · simp at h

def oLoadA (m : Mem) (sz : Nat) (a : AV) : Option AV :=
  match cellsAt m a with
  | some (cs, off) => if off + sz ≤ cs.length then some (.agg ((cs.drop off).take sz)) else none
  | none => none
theorem oLoadA_ok {m : Mem} {sz : Nat} {a v : AV} {K : AV → Prop} (h : oLoadA m sz a = some v) (hk : K v) : sLoadA m sz a K := by
  unfold oLoadA at h; unfold sLoadA; split at h
  · rename_i h1; rw [h1]; split at h
    · simp at h; subst h; exact ⟨‹_›, hk⟩
    · simp at h
  · simp at h

/-- Is an object protected? -/
def inB (B : List Nat) (o : Nat) : Bool := B.any (Nat.beq o)
theorem inB_no {B : List Nat} {o : Nat} (h : inB B o = false) : ¬ o ∈ B := by
  intro hm
  simp only [inB, List.any_eq_false] at h
  exact h o hm (by simp)

def oStore (B : List Nat) (m : EM) (sz : Nat) (a x : AV) : Option EM :=
  match a with
  | .ptr o off => if inB B o then none else match m.mem o with
    | some (.cells cs) => if x.cells.length = sz ∧ x.cells.all AV.one = true ∧ off + sz ≤ cs.length then m.set o (.cells (lay cs off x.cells)) else none
    | _ => none
  | _ => none
theorem oStore_ok {B : List Nat} {m m' : EM} {sz : Nat} {a x : AV} {K : Mem → Prop} (h : oStore B m sz a x = some m') (hk : K m'.mem) : sStore (· ∈ B) m.mem sz a x K := by
  unfold oStore at h; unfold sStore; split at h
  · split at h
    · simp at h
    · rename_i hb
      refine ⟨inB_no (by simpa using hb), ?_⟩
      split at h
      · rename_i cs hm
        rw [hm]
        split at h
        · rename_i hc
          exact ⟨hc.1, hc.2.1, hc.2.2, by rw [← EM.set_mem h]; exact hk⟩
        · simp at h
      · simp at h
  · simp at h

def oBounds (n : Nat) (lo hi : Option AV) : Option (Nat × Nat) :=
  match hi with
  | some (.int _ h) => if 0 ≤ h ∧ h ≤ n then (match lo with
    | some (.int _ l) => if 0 ≤ l ∧ l ≤ h then some (l.toNat, h.toNat) else none
    | none => some (0, h.toNat)
    | _ => none) else none
  | none => (match lo with
    | some (.int _ l) => if 0 ≤ l ∧ l ≤ n then some (l.toNat, n) else none
    | none => some (0, n)
    | _ => none)
  | _ => none
theorem oBounds_ok {n : Nat} {lo hi : Option AV} {r : Nat × Nat} {K : Nat → Nat → Prop} (h : oBounds n lo hi = some r) (hk : K r.1 r.2) : sBounds n lo hi K := by
  unfold oBounds at h; unfold sBounds; split at h
  · split at h
    · rename_i hc
      refine ⟨hc.1, hc.2, ?_⟩
      split at h
      · split at h
        · rename_i hc2; simp at h; subst h; exact ⟨hc2.1, hc2.2, hk⟩
        · simp at h
      · simp at h; subst h; exact hk
      · simp at h
    · simp at h
  · split at h
    · split at h
      · rename_i hc2; simp at h; subst h; exact ⟨hc2.1, hc2.2, hk⟩
      · simp at h
    · simp at h; subst h; exact hk
    · simp at h
  · simp at h

def oSlice (sz : Nat) (x : AV) (lo hi mx : Option AV) : Option AV :=
  match x with
  | .sl h n cs => if n * sz = cs.length then (match oBounds n lo hi with
    | some (l, r) => (match mx with
      | none => some (.sl (if h = .nil then .nil else if h = .full ∧ r = n then .full else .any) (r - l) (cut cs (l * sz) (r * sz)))
      | some (.int _ x) => if x = r ∧ hi.isSome = true then some (.sl (if h = .nil then .nil else .full) (r - l) (cut cs (l * sz) (r * sz))) else none
      | _ => none)
    | none => none) else none
  | .osl o sz' off n => if sz' = sz then (match oBounds n lo hi with
    | some (l, r) => (match mx with
      | none => some (.osl o sz (off + l * sz) (r - l))
      | some (.int _ x) => if x = r ∧ hi.isSome = true then some (.osl o sz (off + l * sz) (r - l)) else none
      | _ => none)
    | none => none) else none
  | _ => none
theorem oSlice_ok {sz : Nat} {x v : AV} {lo hi mx : Option AV} {K : AV → Prop} (h : oSlice sz x lo hi mx = some v) (hk : K v) : sSlice sz x lo hi mx K := by
  unfold oSlice at h; unfold sSlice; split at h
  · split at h
    · refine ⟨‹_›, ?_⟩
      split at h
      · rename_i l r hb
        refine oBounds_ok hb ?_
        split at h
        · simp at h; subst h; exact hk
        · split at h
          · rename_i hc; simp at h; subst h; exact ⟨hc.1, hc.2, hk⟩
          · simp at h
        · simp at h
      · simp at h
    · simp at h
  · split at h
    · refine ⟨‹_›, ?_⟩
      split at h
      · rename_i l r hb
        refine oBounds_ok hb ?_
        split at h
        · simp at h; subst h; exact hk
        · split at h
          · rename_i hc; simp at h; subst h; exact ⟨hc.1, hc.2, hk⟩
          · simp at h
        · simp at h
      · simp at h
    · simp at h
  · simp at h

def oSliceS (x : AV) (lo hi : Option AV) : Option AV :=
  match x with
  | .str s => (match oBounds s.length lo hi with
    | some (l, r) => some (.str ((s.take r).drop l))
    | none => none)
  | _ => none
theorem oSliceS_ok {x v : AV} {lo hi : Option AV} {K : AV → Prop} (h : oSliceS x lo hi = some v) (hk : K v) : sSliceS x lo hi K := by
  unfold oSliceS at h; unfold sSliceS; split at h
  · split at h
    · rename_i hb; refine oBounds_ok hb ?_; simp at h; subst h; exact hk
    · simp at h
  · simp at h

def oSliceA (m : Mem) (sz n : Nat) (x : AV) (lo hi : Option AV) : Option AV :=
  match x with
  | .ptr o off => (match m o with
    | some (.cells cs) => if off + n * sz ≤ cs.length then (match oBounds n lo hi with
      | some (l, r) => some (.osl o sz (off + l * sz) (r - l))
      | none => none) else none
    | _ => none)
  | _ => none
theorem oSliceA_ok {m : Mem} {sz n : Nat} {x v : AV} {lo hi : Option AV} {K : AV → Prop} (h : oSliceA m sz n x lo hi = some v) (hk : K v) : sSliceA m sz n x lo hi K := by
  unfold oSliceA at h; unfold sSliceA; split at h
  · split at h
    · rename_i hm
      simp only [hm]
      split at h
      · refine ⟨‹_›, ?_⟩
        split at h
        · rename_i hb; refine oBounds_ok hb ?_; simp at h; subst h; exact hk
        · simp at h
      · simp at h
    · simp at h
  · simp at h

end
end Go.X

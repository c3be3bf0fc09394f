/- What it is for one of the model's operations to do what the abstract one says: the operations that only read. -/
import Derived.Test.YtnieadkafeohlaaGreatDoorGoxOps
import Derived.Laws.Sem
import Derived.Laws.Entries
import Derived.Laws.Cells
import Derived.Laws.Pointers
import Derived.Laws.Slices
import GoSem.Dispatch
set_option linter.unusedVariables false
set_option linter.unusedSimpArgs false
namespace Go.X

/-- A computation of a value does what the abstract one says. -/
def DoesV (ng : Glob) (P : Program) (B : Nat → Prop) (κ : Kap) (m : Mem) (w : World) (s : Sem Value) (K : AV → Mem → Prop) : Prop :=
  ∃ v w' κ' m' av, s.run P w = .ok v w' ∧ Evo κ w κ' w' ∧ RelW ng κ' m' w' ∧ V κ' w' av v ∧ K av m' ∧ ∀ o, B o → m' o = m o

def DoesU (ng : Glob) (P : Program) (B : Nat → Prop) (κ : Kap) (m : Mem) (w : World) (s : Sem Unit) (K : Mem → Prop) : Prop :=
  ∃ w' κ' m', s.run P w = .ok () w' ∧ Evo κ w κ' w' ∧ RelW ng κ' m' w' ∧ K m' ∧ ∀ o, B o → m' o = m o

section
variable {ng : Glob} {P : Program} {B : Nat → Prop} {κ : Kap} {m : Mem} {w : World}

theorem DoesV.here (hw : RelW ng κ m w) {s : Sem Value} {v : Value} {av : AV} {K : AV → Mem → Prop} (hr : s.run P w = .ok v w) (hv : V κ w av v) (hk : K av m) : DoesV ng P B κ m w s K :=
  ⟨v, w, κ, m, av, hr, Evo.refl _ _, hw, hv, hk, fun _ _ => rfl⟩

/-- Constants. -/
def cVal1 : Value → Option AV
  | .int k n => some (.int k n)
  | .bool b => some (.bool b)
  | .string s => some (.str s.data.toList)
  | .float .f64 b => some (.f64 b)
  | .slice none 0 0 => some (.sl .nil 0 [])
  | .pointer none => some (.val (.pointer none))
  | .map none => some (.val (.map none))
  | .nilFunc => some (.val .nilFunc)
  | .nilIface => some (.val .nilIface)
  | _ => none

theorem cVal1_sound {v : Value} {x : AV} (h : cVal1 v = some x) : V κ w x v ∧ x.one = true := by
  unfold cVal1 at h
  split at h <;> simp at h <;> subst h
  · exact ⟨.int _ _, rfl⟩
  · exact ⟨.bool _, rfl⟩
  · rename_i s
    have : (⟨s.data.toList.toArray⟩ : ByteArray) = s := by cases s; simp
    exact ⟨by have := V.str (κ := κ) (w := w) s.data.toList; simpa using this, rfl⟩
  · exact ⟨.f64 _, rfl⟩
  · exact ⟨.nil, rfl⟩
  · exact ⟨.val _, rfl⟩
  · exact ⟨.val _, rfl⟩
  · exact ⟨.val _, rfl⟩
  · exact ⟨.val _, rfl⟩

def cVals : List Value → Option (List AV)
  | [] => some []
  | v :: vs => match cVal1 v, cVals vs with
    | some x, some xs => some (x :: xs)
    | _, _ => none

theorem cVals_sound : ∀ {vs : List Value} {xs : List AV}, cVals vs = some xs → VL κ w xs vs ∧ ∀ x ∈ xs, x.one = true
  | [], xs, h => by simp [cVals] at h; subst h; exact ⟨VL.nil, fun x hx => by simp at hx⟩
  | v :: vs, xs, h => by
    unfold cVals at h
    split at h
    · rename_i x ys h1 h2
      simp at h; subst h
      obtain ⟨a, b⟩ := cVal1_sound (κ := κ) (w := w) h1
      obtain ⟨c, d⟩ := cVals_sound h2
      refine ⟨VL.cons a c, fun y hy => ?_⟩
      simp at hy
      rcases hy with rfl | hy
      · exact b
      · exact d y hy
    · simp at h

def cVal : Value → Option AV
  | .agg cs => (cVals cs.toList).map .agg
  | v => cVal1 v

theorem cVal_sound {v : Value} {x : AV} (h : cVal v = some x) : V κ w x v := by
  unfold cVal at h
  split at h
  · rename_i cs
    simp at h
    obtain ⟨xs, h1, rfl⟩ := h
    obtain ⟨a, b⟩ := cVals_sound (κ := κ) (w := w) h1
    have := V.agg (κ := κ) (w := w) xs cs.toList a.1 a.2
    simpa using this
  · exact (cVal1_sound h).1

/-- The abstract frame tells of the temporaries. -/
def RelF (n : Nat) (κ : Kap) (w : World) (fr : Fr) (a : Act) : Prop := a.tmps.size = n ∧ ∀ k, k < n → V κ w (fr k) (a.tmps.getD k undef)

theorem RelF.mono {n : Nat} {κ' : Kap} {w' : World} {fr : Fr} {a : Act} (h : RelF n κ w fr a) (e : Evo κ w κ' w') : RelF n κ' w' fr a := ⟨h.1, fun k hk => (h.2 k hk).mono e⟩

def cOpd (ng : Glob) (n : Nat) : Operand → Option Opd
  | .tmp t => if t < n then some (.t t) else none
  | .const v => (cVal v).map .c
  | .global g => match ng g with
    | some cs => some (.c (.sptr cs 0))
    | none => none
  | .func f => some (.c (.fn f [] []))

theorem opd_sound {n : Nat} {fr : Fr} {a : Act} {x : Operand} {y : Opd} (h : cOpd ng n x = some y) (hw : RelW ng κ m w) (hf : RelF n κ w fr a) : V κ w (y.ev fr) (a.eval x) := by
  cases x with
  | tmp t =>
    simp only [cOpd] at h
    split at h
    · simp at h; subst h; exact hf.2 t ‹_›
    · simp at h
  | const v =>
    simp [cOpd] at h
    obtain ⟨x, h1, rfl⟩ := h
    exact cVal_sound h1
  | global g =>
    simp only [cOpd] at h
    split at h
    · rename_i cs hg
      simp at h; subst h
      exact hw.glob g cs hg
    · simp at h
  | func f =>
    simp [cOpd] at h; subst h
    have := V.fn (κ := κ) (w := w) f [] [] [] [] rfl (fun i c v h => by simp at h) rfl (fun i c v h => by simp at h)
    simpa [Opd.ev, Act.eval] using this

/-- Reading through a pointer. -/
theorem cellsAt_sound (hw : RelW ng κ m w) {x : AV} {v : Value} (hv : V κ w x v) {cs : List AV} {off : Nat} (h : cellsAt m x = some (cs, off)) :
    ∃ b base vs, v = .pointer (some ⟨b, base + off, none⟩) ∧ VL κ w cs vs ∧ (∀ i u, vs[i]? = some u → w.cell? ⟨b, base + i, none⟩ = some u) ∧ (∀ u ∈ cs, u.one = true ∨ True) := by
  unfold cellsAt at h
  split at h
  · rename_i o off'
    cases hv with
    | ptr _ _ b base hr =>
      split at h
      · rename_i cs' hm
        simp at h; obtain ⟨rfl, rfl⟩ := h
        obtain ⟨b1, base1, hr1, hx, hn⟩ := hw.obj _ _ hm
        rw [hr] at hr1; simp at hr1; obtain ⟨rfl, rfl⟩ := hr1
        obtain ⟨c, e, fz, hc, hf, hsz, vs, hvl, hi, ho⟩ := hx
        refine ⟨b, base, vs, rfl, hvl, fun i u hu => ?_, fun _ _ => Or.inr trivial⟩
        simp only [World.cell?, hc]
        simpa using hi i u hu
      · simp at h
  · rename_i cs' off'
    simp at h; obtain ⟨rfl, rfl⟩ := h
    cases hv with
    | sptr _ _ b base vs hr hl hc hx hone => exact ⟨b, base, vs, rfl, ⟨hl, hx⟩, hc, fun _ _ => Or.inr trivial⟩
  · simp at h

theorem run_loadVar1 {t : TypeId} {a : Addr} {v : Value} {d : TypeDesc} (hd : P.underlying t = some d) (ha : (∀ fs, d ≠ .struct fs) ∧ ∀ n e, d ≠ .array n e) (hc : w.cell? a = some v) : (loadVar t a).run P w = .ok v w := by
  have h1 : (isAgg t).run P w = .ok false w := by
    simp only [isAgg, underlying, Sem.run_bind, run_program, Result.andThen_ok, hd]
    cases d <;> first | rfl | (exact absurd rfl (ha.1 _)) | (exact absurd rfl (ha.2 _ _))
  simp only [loadVar, Sem.run_bind, h1, Result.andThen_ok]
  simp [hc]

theorem run_isAgg_true {t : TypeId} {d : TypeDesc} (hd : P.underlying t = some d) (ha : (∃ fs, d = .struct fs) ∨ ∃ n e, d = .array n e) : (isAgg t).run P w = .ok true w := by
  simp only [isAgg, underlying, Sem.run_bind, run_program, Result.andThen_ok, hd]
  rcases ha with ⟨fs, rfl⟩ | ⟨n, e, rfl⟩ <;> rfl

theorem run_sizeOf {t : TypeId} {i : TypeInfo} (hi : P.info? t = some i) : (sizeOf t).run P w = .ok i.size w := by
  simp [sizeOf, typeInfo, hi]

theorem add_eq (b o k : Nat) : Addr.add ⟨b, o, none⟩ k = ⟨b, o + k, none⟩ := by
  unfold Addr.add; split
  · subst k; rfl
  · rfl

theorem run_loadVarA {t : TypeId} {b o : Nat} {vs : List Value} {d : TypeDesc} {i : TypeInfo} (hd : P.underlying t = some d) (ha : (∃ fs, d = .struct fs) ∨ ∃ n e, d = .array n e) (hi : P.info? t = some i)
    (hs : i.size = vs.length) (hc : ∀ j u, vs[j]? = some u → w.cell? ⟨b, o + j, none⟩ = some u) : (loadVar t ⟨b, o, none⟩).run P w = .ok (.agg vs.toArray) w := by
  simp only [loadVar, Sem.run_bind, run_isAgg_true hd ha, Result.andThen_ok, if_true, run_sizeOf hi, hs]
  rw [run_loadCells_list w ⟨b, o, none⟩ vs (fun j u hu => by rw [add_eq]; exact hc j u hu)]
  rfl

def isAggD : TypeDesc → Bool
  | .struct _ | .array _ _ => true
  | _ => false

theorem isAggD_false {d : TypeDesc} (h : isAggD d = false) : (∀ fs, d ≠ .struct fs) ∧ ∀ n e, d ≠ .array n e :=
  ⟨by rintro fs rfl; simp [isAggD] at h, by rintro n e rfl; simp [isAggD] at h⟩
theorem isAggD_true {d : TypeDesc} (h : isAggD d = true) : (∃ fs, d = .struct fs) ∨ ∃ n e, d = .array n e := by
  cases d <;> simp [isAggD] at h
  · exact Or.inr ⟨_, _, rfl⟩
  · exact Or.inl ⟨_, rfl⟩

theorem load_sound (hw : RelW ng κ m w) {t : TypeId} {d : TypeDesc} (hd : P.underlying t = some d) (ha : isAggD d = false) {x : AV} {v : Value} (hv : V κ w x v) {K : AV → Mem → Prop}
    (h : sLoad m x (fun y => K y m)) : DoesV ng P B κ m w (Instr.loadAt t v) K := by
  unfold sLoad at h
  split at h
  · rename_i cs off hcs
    split at h
    · rename_i y hy
      obtain ⟨b, base, vs, rfl, hvl, hc, _⟩ := cellsAt_sound hw hv hcs
      obtain ⟨u, hu, hyu⟩ := hvl.get hy
      refine DoesV.here hw ?_ hyu h
      simp only [Instr.loadAt, Instr.sureAddr, pure_bind]
      exact run_loadVar1 hd (isAggD_false ha) (hc off u hu)
    · exact h.elim
  · exact h.elim

theorem loadA_sound (hw : RelW ng κ m w) {t : TypeId} {d : TypeDesc} {i : TypeInfo} (hd : P.underlying t = some d) (ha : isAggD d = true) (hi : P.info? t = some i) {x : AV} {v : Value} (hv : V κ w x v) {K : AV → Mem → Prop}
    (h : sLoadA m i.size x (fun y => K y m)) : DoesV ng P B κ m w (Instr.loadAt t v) K := by
  unfold sLoadA at h
  split at h
  · rename_i cs off hcs
    obtain ⟨hl, hk⟩ := h
    obtain ⟨b, base, vs, rfl, hvl, hc, _⟩ := cellsAt_sound hw hv hcs
    have hvl2 := (hvl.drop off).take i.size
    have hlen : ((vs.drop off).take i.size).length = i.size := by simp [← hvl.1]; omega
    refine DoesV.here hw (v := .agg ((vs.drop off).take i.size).toArray) ?_ (.agg _ _ hvl2.1 hvl2.2) hk
    simp only [Instr.loadAt, Instr.sureAddr, pure_bind]
    refine run_loadVarA hd (isAggD_true ha) hi hlen.symm fun j u hu => ?_
    rw [List.getElem?_take] at hu
    split at hu
    · rw [List.getElem?_drop] at hu
      have := hc _ u hu
      rw [show base + off + j = base + (off + j) by omega]; exact this
    · simp at hu
  · exact h.elim
end
end Go.X

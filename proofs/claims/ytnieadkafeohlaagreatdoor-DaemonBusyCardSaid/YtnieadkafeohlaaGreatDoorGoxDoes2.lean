/- The operations that only compute: addresses, numbers, strings, truth. -/
import Derived.Test.YtnieadkafeohlaaGreatDoorGoxDoes
set_option linter.unusedVariables false
set_option linter.unusedSimpArgs false
namespace Go.X
section
variable {ng : Glob} {P : Program} {B : Nat → Prop} {κ : Kap} {m : Mem} {w : World}

theorem run_underlying' {t : TypeId} {d : TypeDesc} (hd : P.underlying t = some d) : (underlying t).run P w = .ok d w := by
  simp [underlying, hd]

theorem fieldAddr_sound (hw : RelW ng κ m w) {s : TypeId} {fs : Array Field} {f : Field} {j : Nat} {i : TypeInfo} (hd : P.underlying s = some (.struct fs)) (hf : fs[j]? = some f) (hi : P.info? f.type = some i) (hs : i.size ≠ 0)
    {x : AV} {v : Value} (hv : V κ w x v) {K : AV → Mem → Prop} (h : sFieldAddr f.offset x (fun z => K z m)) : DoesV ng P B κ m w (Instr.fieldAt s v j) K := by
  have run : ∀ b o, (Instr.fieldAt s (.pointer (some ⟨b, o, none⟩)) j).run P w = .ok (.pointer (some ⟨b, o + f.offset, none⟩)) w := by
    intro b o
    simp only [Instr.fieldAt, Sem.run_bind, run_underlying' hd, Result.andThen_ok, hf, Instr.sureAddr, Sem.run_pure, fieldPlace, run_sizeOf hi, if_neg hs, add_eq]
  unfold sFieldAddr at h
  split at h
  · rename_i o a
    cases hv with
    | ptr _ _ b base hr =>
      exact DoesV.here hw (run b _) (by have := V.ptr (κ := κ) (w := w) o (a + f.offset) b base hr; rwa [← Nat.add_assoc] at this) h
  · rename_i cs a
    cases hv with
    | sptr _ _ b base vs hr hl hc hx hone =>
      exact DoesV.here hw (run b _) (by have := V.sptr (κ := κ) (w := w) cs (a + f.offset) b base vs hr hl hc hx hone; rwa [← Nat.add_assoc] at this) h
  · exact h.elim

theorem idxS_sound (hw : RelW ng κ m w) {t e : TypeId} {i : TypeInfo} (hd : P.underlying t = some (.slice e)) (hi : P.info? e = some i) {x y : AV} {v u : Value} (hv : V κ w x v) (hu : V κ w y u) {K : AV → Mem → Prop}
    (h : sIdxS i.size x y (fun z => K z m)) : DoesV ng P B κ m w (Instr.indexAt t v u) K := by
  have run : ∀ b o n c k (j : Int), 0 ≤ j → j < (n : Nat) → (Instr.indexAt t (.slice (some ⟨b, o, none⟩) n c) (.int k j)).run P w = .ok (.pointer (some ⟨b, o + j.toNat * i.size, none⟩)) w := by
    intro b o n c k j h0 h1
    simp only [Instr.indexAt, asIntOf, Sem.run_bind, Sem.run_pure, Result.andThen_ok, run_underlying' hd, Sem.run_ite, if_pos (And.intro h0 h1), run_sizeOf hi, add_eq]
  unfold sIdxS at h
  split at h
  · rename_i hh n cs k j
    obtain ⟨h0, h1, hk⟩ := h
    cases hu
    cases hv with
    | nil => simp at h1; omega
    | sl _ _ _ b off cap vs hn hf hc hr hl hcc hx hone =>
      refine DoesV.here hw (run b off n cap k j h0 h1) (.sptr cs _ b off vs hr hl hcc hx hone) hk
  · rename_i o sz' off n k j
    obtain ⟨rfl, h0, h1, hk⟩ := h
    cases hu
    cases hv with
    | osl _ _ _ _ b base off2 cap c el fz hr hc ho hs hn =>
      obtain rfl := ho (by omega)
      refine DoesV.here hw (run b _ n cap k j h0 h1) ?_ hk
      have := V.ptr (κ := κ) (w := w) o (off2 + j.toNat * i.size) b base hr
      rwa [← Nat.add_assoc] at this
  · exact h.elim

theorem idxA_sound (hw : RelW ng κ m w) {t e : TypeId} {n : Nat} {i : TypeInfo} (hd : P.underlying t = some (.array n e)) (hi : P.info? e = some i) {x y : AV} {v u : Value} (hv : V κ w x v) (hu : V κ w y u) {K : AV → Mem → Prop}
    (h : sIdxA i.size n x y (fun z => K z m)) : DoesV ng P B κ m w (Instr.indexAt t v u) K := by
  have run : ∀ b o k (j : Int), 0 ≤ j → j < (n : Nat) → (Instr.indexAt t (.pointer (some ⟨b, o, none⟩)) (.int k j)).run P w = .ok (.pointer (some ⟨b, o + j.toNat * i.size, none⟩)) w := by
    intro b o k j h0 h1
    simp only [Instr.indexAt, asIntOf, Sem.run_bind, Sem.run_pure, Result.andThen_ok, run_underlying' hd, Instr.sureAddr, Sem.run_ite, if_pos (And.intro h0 h1), run_sizeOf hi, add_eq]
  unfold sIdxA at h
  split at h
  · rename_i o a k j
    obtain ⟨h0, h1, hk⟩ := h
    cases hu
    cases hv with
    | ptr _ _ b base hr =>
      refine DoesV.here hw (run b _ k j h0 h1) ?_ hk
      have := V.ptr (κ := κ) (w := w) o (a + j.toNat * i.size) b base hr
      rwa [← Nat.add_assoc] at this
  · rename_i cs a k j
    obtain ⟨h0, h1, hk⟩ := h
    cases hu
    cases hv with
    | sptr _ _ b base vs hr hl hc hx hone =>
      refine DoesV.here hw (run b _ k j h0 h1) ?_ hk
      have := V.sptr (κ := κ) (w := w) cs (a + j.toNat * i.size) b base vs hr hl hc hx hone
      rwa [← Nat.add_assoc] at this
  · exact h.elim

/-- A part of an aggregate. -/
theorem run_part1 {t : TypeId} {d : TypeDesc} (hd : P.underlying t = some d) (ha : isAggD d = false) {cs : Array Value} {off : Nat} {v : Value} (hc : cs[off]? = some v) : (part t cs off).run P w = .ok v w := by
  have h1 : (isAgg t).run P w = .ok false w := by
    simp only [isAgg, underlying, Sem.run_bind, run_program, Result.andThen_ok, hd]
    cases d <;> first | rfl | simp [isAggD] at ha
  simp only [part, Sem.run_bind, h1, Result.andThen_ok, Bool.false_eq_true, if_false, hc]
  rfl
theorem run_partA {t : TypeId} {d : TypeDesc} {i : TypeInfo} (hd : P.underlying t = some d) (ha : isAggD d = true) (hi : P.info? t = some i) {cs : Array Value} {off : Nat} : (part t cs off).run P w = .ok (.agg (cs.extract off (off + i.size))) w := by
  simp only [part, Sem.run_bind, run_isAgg_true hd (isAggD_true ha), Result.andThen_ok, if_true, run_sizeOf hi]
  rfl

theorem extract_list (vs : List Value) (a k : Nat) : (vs.toArray.extract a (a + k)) = ((vs.drop a).take k).toArray := by
  simp [List.extract_toArray, List.extract_eq_take_drop]

theorem part_sound {t : TypeId} {d : TypeDesc} {i : TypeInfo} (hd : P.underlying t = some d) (hi : P.info? t = some i) {cs : List AV} {vs : List Value} (hv : VL κ w cs vs) {off : Nat} {K : AV → Prop}
    (h : match (if isAggD d then some i.size else none) with
      | some k => off + k ≤ cs.length ∧ K (.agg ((cs.drop off).take k))
      | none => match cs[off]? with
        | some x => K x
        | none => False) : ∃ v x, (part t vs.toArray off).run P w = .ok v w ∧ V κ w x v ∧ K x := by
  cases ha : isAggD d with
  | true =>
    rw [ha] at h; simp only [if_true] at h
    have h2 := (hv.drop off).take i.size
    exact ⟨_, _, (run_partA hd ha hi).trans (by rw [extract_list]), .agg _ _ h2.1 h2.2, h.2⟩
  | false =>
    rw [ha] at h; simp only [Bool.false_eq_true, if_false] at h
    split at h
    · rename_i x hx
      obtain ⟨v, h1, h2⟩ := hv.get hx
      exact ⟨v, x, run_part1 hd ha (by simpa using h1), h2, h⟩
    · exact h.elim

theorem field_sound (hw : RelW ng κ m w) {s : TypeId} {fs : Array Field} {f : Field} {j : Nat} {d : TypeDesc} {i : TypeInfo} (hd : P.underlying s = some (.struct fs)) (hf : fs[j]? = some f) (hdf : P.underlying f.type = some d) (hi : P.info? f.type = some i)
    {x : AV} {v : Value} (hv : V κ w x v) {K : AV → Mem → Prop} (h : sField f.offset (if isAggD d then some i.size else none) x (fun z => K z m)) : DoesV ng P B κ m w (Instr.field s v j) K := by
  unfold sField at h
  split at h
  · rename_i cs
    cases hv with
    | agg _ vs hl hx =>
      obtain ⟨u, y, hr, hy, hk⟩ := part_sound (P := P) (w := w) (K := fun z => K z m) (off := f.offset) hdf hi ⟨hl, hx⟩ h
      refine DoesV.here hw ?_ hy hk
      simp only [Instr.field, Sem.run_bind, run_underlying' hd, Result.andThen_ok, hf, asAgg, Sem.run_pure, hr]
  · exact h.elim

theorem index_sound (hw : RelW ng κ m w) {t e : TypeId} {n : Nat} {d : TypeDesc} {i : TypeInfo} (hd : P.underlying t = some (.array n e)) (hde : P.underlying e = some d) (hi : P.info? e = some i) {x y : AV} {v u : Value} (hv : V κ w x v) (hu : V κ w y u) {K : AV → Mem → Prop}
    (h : sIndex (if isAggD d then some i.size else none) i.size n x y (fun z => K z m)) : DoesV ng P B κ m w (Instr.index t v u) K := by
  unfold sIndex at h
  split at h
  · rename_i cs k j
    obtain ⟨h0, h1, h2⟩ := h
    cases hu
    cases hv with
    | agg _ vs hl hx =>
      obtain ⟨u, z, hr, hz, hk⟩ := part_sound (P := P) (w := w) (K := fun z => K z m) (off := j.toNat * i.size) hde hi ⟨hl, hx⟩ h2
      refine DoesV.here hw ?_ hz hk
      simp only [Instr.index, asIntOf, Sem.run_bind, Sem.run_pure, Result.andThen_ok, run_underlying' hd, Sem.run_ite, if_pos (And.intro h0 h1), run_sizeOf hi, hr]
  · exact h.elim

theorem indexS_sound (hw : RelW ng κ m w) {t : TypeId} (hd : P.underlying t = some .string) {x y : AV} {v u : Value} (hv : V κ w x v) (hu : V κ w y u) {K : AV → Mem → Prop}
    (h : sIndexS x y (fun z => K z m)) : DoesV ng P B κ m w (Instr.index t v u) K := by
  unfold sIndexS at h
  split at h
  · rename_i s k j
    obtain ⟨h0, h1⟩ := h
    cases hu
    cases hv
    split at h1
    · rename_i b hb
      refine DoesV.here hw ?_ (.int _ _) h1
      have hb2 : (⟨s.toArray⟩ : ByteArray)[j.toNat]? = some b := by
        have := List.getElem?_eq_some_iff.1 hb
        obtain ⟨hlt, he⟩ := this
        rw [getElem?_pos _ _ (by simpa [ByteArray.size] using hlt)]
        simp [← he]; rfl
      simp only [Instr.index, asIntOf, Sem.run_bind, Sem.run_pure, Result.andThen_ok, run_underlying' hd, if_pos h0, hb2]
    · exact h1.elim
  · exact h.elim

theorem extract_sound (hw : RelW ng κ m w) {x : AV} {v : Value} {j : Nat} (hv : V κ w x v) {K : AV → Mem → Prop} (h : sExtract x j (fun z => K z m)) : DoesV ng P B κ m w (Instr.extract v j) K := by
  unfold sExtract at h
  split at h
  · rename_i cs
    split at h
    · rename_i y hy
      cases hv with
      | tup _ vs hl hx =>
        obtain ⟨u, hu, hyu⟩ := VL.get (κ := κ) (w := w) ⟨hl, hx⟩ hy
        refine DoesV.here hw ?_ hyu h
        have : vs.toArray[j]? = some u := by simpa using hu
        simp only [Instr.extract, this, Sem.run_pure]
    · exact h.elim
  · exact h.elim

def BinI.op : BinI → BinOp
  | .add => .add | .sub => .sub | .mul => .mul | .quo => .quo | .rem => .rem | .and => .and | .or => .or | .xor => .xor | .andNot => .andNot
  | .eql => .eql | .neq => .neq | .lss => .lss | .leq => .leq | .gtr => .gtr | .geq => .geq | .shl => .shl | .shr => .shr

theorem wrap_i64_in {x : Int} (h : inI64 x) : IntKind.i64.wrap x = x := by
  unfold inI64 at h
  simp only [IntKind.wrap, IntKind.bits, IntKind.signed]
  simp
  omega

theorem fitK_run {k : IntKind} {x : Int} {K : AV → Prop} (h : fitK k x K) : K (.int k (k.wrap x)) := by
  unfold fitK at h
  cases k <;> first | exact h | (obtain ⟨a, b⟩ := h; rw [wrap_i64_in a]; exact b)

theorem eqGuard_int (op : BinOp) (t : TypeId) (x y : Operand) (k : IntKind) (a : Int) (v : Value) : eqGuard op t x y (.int k a) v = pure () := by
  unfold eqGuard; cases op <;> rfl

/-- A named number stands for itself. -/
theorem sBinI_sym {fx : Fx} {sig : Nat → Int} (hfx : fx.Ok sig) {op : BinI} {k k1 k2 : IntKind} {i : Nat} {c : Int} {K : AV → Prop} (h : sBinI fx op k (.isym k1 i) (.int k2 c) K) : sBinI fx op k (.int k1 (sig i)) (.int k2 c) K := by
  obtain ⟨rfl, rfl, z, hz, hk⟩ := h
  unfold fxI at hz
  have le : ∀ a b : Int, decide (a ≤ b) = !decide (b < a) := fun a b => by
    by_cases h : b < a
    · rw [decide_eq_true h, decide_eq_false (by omega)]; rfl
    · rw [decide_eq_false h, decide_eq_true (by omega)]; rfl
  cases op <;> simp only [Option.map_eq_some_iff] at hz <;> first
    | (cases hz; done)
    | (obtain ⟨r, hr, rfl⟩ := hz; obtain ⟨h1, h2⟩ := hfx.rem _ _ _ hr; exact ⟨rfl, rfl, h1, by rw [h2]; exact hk⟩)
    | (obtain ⟨r, hr, rfl⟩ := hz; have h1 := hfx.lt _ _ _ hr; exact ⟨rfl, rfl, by simp only [le, h1]; exact hk⟩)
    | (obtain ⟨r, hr, rfl⟩ := hz; have h1 := hfx.gt _ _ _ hr; exact ⟨rfl, rfl, by simp only [le, h1]; exact hk⟩)
    | (obtain ⟨r, hr, rfl⟩ := hz; have h1 := hfx.eq _ _ _ hr; exact ⟨rfl, rfl, by simp only [h1]; exact hk⟩)

theorem binI_sound0 (hw : RelW ng κ m w) (op : BinI) (k : IntKind) (t : TypeId) (xo yo : Operand) {x y : AV} {v u : Value} (hv : V κ w x v) (hu : V κ w y u) {K : AV → Mem → Prop}
    (hns : ∀ k i, x ≠ .isym k i) (h : sBinI ng.fx op k x y (fun z => K z m)) : DoesV ng P B κ m w (do eqGuard op.op t xo yo v u; binOp op.op t v u) K := by
  unfold sBinI at h
  split at h
  · rename_i k1 a k2 b
    obtain ⟨rfl, h⟩ := h
    cases hv; cases hu
    rw [eqGuard_int, pure_bind]
    cases op <;> simp only [BinI.op] at h ⊢
    case add => obtain ⟨rfl, h⟩ := h; exact DoesV.here hw (by simp [binOp, Op.intArith]) (.int _ _) (fitK_run h)
    case sub => obtain ⟨rfl, h⟩ := h; exact DoesV.here hw (by simp [binOp, Op.intArith]) (.int _ _) (fitK_run h)
    case mul => obtain ⟨rfl, h⟩ := h; exact DoesV.here hw (by simp [binOp, Op.intArith]) (.int _ _) (fitK_run h)
    case quo => obtain ⟨rfl, h0, h⟩ := h; exact DoesV.here hw (by simp [binOp, Op.intDiv, h0]) (.int _ _) (fitK_run h)
    case rem => obtain ⟨rfl, h0, h⟩ := h; exact DoesV.here hw (by simp [binOp, Op.intDiv, h0]) (.int _ _) h
    case and => obtain ⟨rfl, h⟩ := h; exact DoesV.here hw (by simp [binOp, Op.intBits]; rfl) (.int _ _) h
    case or => obtain ⟨rfl, h⟩ := h; exact DoesV.here hw (by simp [binOp, Op.intBits]; rfl) (.int _ _) h
    case xor => obtain ⟨rfl, h⟩ := h; exact DoesV.here hw (by simp [binOp, Op.intBits]; rfl) (.int _ _) h
    case andNot => obtain ⟨rfl, h⟩ := h; exact DoesV.here hw (by simp only [binOp, ne_eq, not_true, if_false]; rfl) (.int _ _) h
    case eql => obtain ⟨rfl, h⟩ := h; exact DoesV.here hw (by simp [binOp, Op.intCmp]; rfl) (.bool _) h
    case neq => obtain ⟨rfl, h⟩ := h; exact DoesV.here hw (by simp [binOp, Op.intCmp]; rfl) (.bool _) h
    case lss => obtain ⟨rfl, h⟩ := h; exact DoesV.here hw (by simp [binOp, Op.intCmp]) (.bool _) h
    case leq => obtain ⟨rfl, h⟩ := h; exact DoesV.here hw (by simp [binOp, Op.intCmp]) (.bool _) h
    case gtr => obtain ⟨rfl, h⟩ := h; exact DoesV.here hw (by simp [binOp, Op.intCmp]) (.bool _) h
    case geq => obtain ⟨rfl, h⟩ := h; exact DoesV.here hw (by simp [binOp, Op.intCmp]) (.bool _) h
    case shl =>
      obtain ⟨h0, h⟩ := h
      refine DoesV.here hw ?_ (.int _ _) h
      simp only [binOp, Op.shift, if_neg (show ¬ b < 0 by omega), Sem.run_pure]
    case shr =>
      obtain ⟨h0, h⟩ := h
      refine DoesV.here hw ?_ (.int _ _) h
      simp only [binOp, Op.shift, if_neg (show ¬ b < 0 by omega), Sem.run_pure]
  · exact (hns _ _ rfl).elim
  · exact h.elim

theorem binI_sound (hw : RelW ng κ m w) (op : BinI) (k : IntKind) (t : TypeId) (xo yo : Operand) {x y : AV} {v u : Value} (hv : V κ w x v) (hu : V κ w y u) {K : AV → Mem → Prop}
    (h : sBinI ng.fx op k x y (fun z => K z m)) : DoesV ng P B κ m w (do eqGuard op.op t xo yo v u; binOp op.op t v u) K := by
  have toInt : ∃ x', V κ w x' v ∧ sBinI ng.fx op k x' y (fun z => K z m) ∧ ∀ k i, x' ≠ .isym k i := by
    by_cases hx : ∃ k i, x = .isym k i
    · obtain ⟨k1, i, rfl⟩ := hx
      cases y with
      | int k2 c =>
        refine ⟨.int k1 (ng.sig i), ?_, sBinI_sym ng.ok h, fun _ _ e => by cases e⟩
        rw [← hw.sig]
        cases hv with
        | isym => exact .int _ _
      | _ => exact h.elim
    · exact ⟨x, hv, h, fun k i e => hx ⟨k, i, e⟩⟩
  obtain ⟨x', hv', h', hns⟩ := toInt
  exact binI_sound0 hw op k t xo yo hv' hu hns h'
end
end Go.X

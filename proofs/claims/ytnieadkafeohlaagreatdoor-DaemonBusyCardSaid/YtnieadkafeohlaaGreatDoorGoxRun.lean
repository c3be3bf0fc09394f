/- What an operation reads of the frame; operations that only read; which objects are left alone. -/
import Derived.Test.YtnieadkafeohlaaGreatDoorGoxDraw2
import Derived.Test.YtnieadkafeohlaaGreatDoorGoxExec3
set_option linter.unusedVariables false
set_option linter.unusedSimpArgs false
namespace Go.X
noncomputable section

def AI.opds : AI → List Opd
  | .mv x => [x]
  | .pick c a b => [c, a, b]
  | .alloc _ => []
  | .box x => [x]
  | .build _ ps => ps.map (·.2.2)
  | .bslice _ _ _ ps => ps.map (·.2.2)
  | .load a => [a]
  | .loadA _ a => [a]
  | .store _ a x => [a, x]
  | .nilchk x => [x]
  | .binI _ _ _ x y => [x, y]
  | .binS _ x y => [x, y]
  | .binB _ x y => [x, y]
  | .binF _ x y => [x, y]
  | .eqNil _ _ x y => [x, y]
  | .eqSt _ x y => [x, y]
  | .neg _ x => [x]
  | .compl _ x => [x]
  | .not x => [x]
  | .cvtI _ x => [x]
  | .cvtF x => [x]
  | .cvtSS x => [x]
  | .cvtSB x => [x]
  | .cvtBS x => [x]
  | .mkfn _ a b => a ++ b
  | .mkmap _ => []
  | .mkslice _ _ _ l c => [l, c]
  | .slice _ x lo hi mx => x :: (lo.toList ++ hi.toList ++ mx.toList)
  | .sliceS x lo hi => x :: (lo.toList ++ hi.toList)
  | .sliceA _ _ x lo hi => x :: (lo.toList ++ hi.toList)
  | .fieldAddr _ x => [x]
  | .field _ _ x => [x]
  | .idxA _ _ x i => [x, i]
  | .idxS _ x i => [x, i]
  | .index _ _ _ x i => [x, i]
  | .indexS x i => [x, i]
  | .lookup _ _ _ m k => [m, k]
  | .mupd _ m k x => [m, k, x]
  | .range m => [m]
  | .next it => [it]
  | .entry it => [it]
  | .extract t _ => [t]
  | .lenS x => [x]
  | .len x => [x]
  | .lenM x => [x]
  | .lenC _ => []
  | .app _ _ s x => [s, x]
  | .copy _ d s => [d, s]
  | .del _ m k => [m, k]
  | .clear _ _ x => [x]
  | .maxI x y => [x, y]
  | .minI x y => [x, y]
  | .iface _ x => [x]
  | .panic x => [x]
  | .call _ args => args
  | .callv f args => f :: args
  | .mark x => [x]
  | .f64bits x => [x]
  | .f64from x => [x]
  | .none => []

theorem map_ev {fr fr' : Fr} {l : List Opd} (h : ∀ x ∈ l, x.ev fr = x.ev fr') : l.map (·.ev fr) = l.map (·.ev fr') := List.map_congr_left h
theorem opt_ev {fr fr' : Fr} {l : Option Opd} (h : ∀ x ∈ l.toList, x.ev fr = x.ev fr') : l.map (·.ev fr) = l.map (·.ev fr') := by
  cases l with
  | none => rfl
  | some x => simp [h x (by simp)]
theorem sBuild_ev {fr fr' : Fr} : ∀ {ps : List (Nat × Nat × Opd)} {zero : List AV} {K : List AV → Prop}, (∀ x ∈ ps.map (·.2.2), x.ev fr = x.ev fr') → sBuild fr zero ps K = sBuild fr' zero ps K
  | [], zero, K, h => rfl
  | (off, sz, x) :: ps, zero, K, h => by
    have h1 := h x (by simp)
    simp only [sBuild, h1]
    rw [sBuild_ev fun y hy => h y (by simp at hy ⊢; exact Or.inr hy)]

theorem stepI_congr {C : CallP} {B : Nat → Prop} {i : AI} {fr fr' : Fr} {m : Mem} {K : AV → Mem → Prop} {E : List PanicEntry → Mem → Prop} (h : ∀ x ∈ i.opds, x.ev fr = x.ev fr') :
    stepI C B i fr m K E = stepI C B i fr' m K E := by
  cases i
  case build zero ps => simp only [stepI]; exact sBuild_ev h
  case bslice sz len zero ps => simp only [stepI]; exact sBuild_ev h
  case mkfn f a b =>
    simp only [stepI]
    rw [map_ev (l := a) fun x hx => h x (by simp [AI.opds, hx]), map_ev (l := b) fun x hx => h x (by simp [AI.opds, hx])]
  case slice sz x lo hi mx =>
    simp only [stepI]
    rw [h x (by simp [AI.opds]), opt_ev (l := lo) fun x hx => h x (by simp only [AI.opds, List.mem_cons, List.mem_append]; exact Or.inr (Or.inl (Or.inl hx))),
      opt_ev (l := hi) fun x hx => h x (by simp only [AI.opds, List.mem_cons, List.mem_append]; exact Or.inr (Or.inl (Or.inr hx))),
      opt_ev (l := mx) fun x hx => h x (by simp only [AI.opds, List.mem_cons, List.mem_append]; exact Or.inr (Or.inr hx))]
  case sliceS x lo hi =>
    simp only [stepI]
    rw [h x (by simp [AI.opds]), opt_ev (l := lo) fun x hx => h x (by simp only [AI.opds, List.mem_cons, List.mem_append]; exact Or.inr (Or.inl hx)),
      opt_ev (l := hi) fun x hx => h x (by simp only [AI.opds, List.mem_cons, List.mem_append]; exact Or.inr (Or.inr hx))]
  case sliceA sz n x lo hi =>
    simp only [stepI]
    rw [h x (by simp [AI.opds]), opt_ev (l := lo) fun x hx => h x (by simp only [AI.opds, List.mem_cons, List.mem_append]; exact Or.inr (Or.inl hx)),
      opt_ev (l := hi) fun x hx => h x (by simp only [AI.opds, List.mem_cons, List.mem_append]; exact Or.inr (Or.inr hx))]
  case call f args => simp only [stepI]; rw [map_ev (l := args) h]
  case callv f args =>
    simp only [stepI]
    rw [h f (by simp [AI.opds]), map_ev (l := args) fun x hx => h x (by simp [AI.opds, hx])]
  all_goals
    simp only [AI.opds, List.mem_cons, List.not_mem_nil, or_false, forall_eq_or_imp, forall_eq] at h
    simp only [stepI, h]

/-- The temporaries that an operation reads. -/
def Opd.slot : Opd → List Nat
  | .t k => [k]
  | .c _ => []
def usesOf (o : AO) : List Nat := (match o.guard with | some (j, _) => [j] | none => []) ++ o.op.opds.flatMap Opd.slot

theorem same_opds {o : AO} {fr fr' : Fr} (h : Same usesOf o fr' fr) : ∀ x ∈ o.op.opds, x.ev fr' = x.ev fr := by
  intro x hx
  cases x with
  | t k => exact h k (List.mem_append.2 (Or.inr (List.mem_flatMap.2 ⟨.t k, hx, by simp [Opd.slot]⟩)))
  | c v => rfl

theorem stepV_congr {C : CallP} {B : Nat → Prop} {o : AO} {fr fr' : Fr} {m : Mem} {K : AV → Mem → Prop} {E : List PanicEntry → Mem → Prop} (h : Same usesOf o fr' fr) :
    stepV C B o fr' m K E = stepV C B o fr m K E := by
  unfold stepV
  cases hg : o.guard with
  | none => exact stepI_congr (same_opds h)
  | some jw =>
    obtain ⟨j, want⟩ := jw
    have : fr' j = fr j := h j (by simp [usesOf, hg])
    simp only [this]
    split
    · exact stepI_congr (same_opds h)
    · rfl
    · rfl

/-- Operations that only read. -/
def rdT : AI → FL → Mem → Option AV
  | .mv x => fun fr m => some (evL fr x)
  | .pick c a b => fun fr m => oPick (evL fr c) (evL fr a) (evL fr b)
  | .build zero parts => fun fr m => (match oBuild fr zero parts with | some cs => some (.agg cs) | none => none)
  | .load a => fun fr m => oLoad m (evL fr a)
  | .loadA sz a => fun fr m => oLoadA m sz (evL fr a)
  | .nilchk x => fun fr m => oNilchk (evL fr x)
  | .binI fx op ik x y => fun fr m => oBinI fx op ik (evL fr x) (evL fr y)
  | .binS op x y => fun fr m => oBinS op (evL fr x) (evL fr y)
  | .binB neg x y => fun fr m => oBinB neg (evL fr x) (evL fr y)
  | .binF op x y => fun fr m => oBinF op (evL fr x) (evL fr y)
  | .eqNil k neg x y => fun fr m => oEqNil k neg (evL fr x) (evL fr y)
  | .neg ik x => fun fr m => oNeg ik (evL fr x)
  | .compl ik x => fun fr m => oCompl ik (evL fr x)
  | .not x => fun fr m => oNot (evL fr x)
  | .cvtI ik x => fun fr m => oCvtI ik (evL fr x)
  | .cvtF x => fun fr m => oCvtF (evL fr x)
  | .cvtSS x => fun fr m => oCvtSS (evL fr x)
  | .cvtSB x => fun fr m => oCvtSB (evL fr x)
  | .cvtBS x => fun fr m => oCvtBS m (evL fr x)
  | .mkfn f fst caps => fun fr m => some (.fn f (fst.map (evL fr)) (caps.map (evL fr)))
  | .slice sz x lo hi mx => fun fr m => oSlice sz (evL fr x) (lo.map (evL fr)) (hi.map (evL fr)) (mx.map (evL fr))
  | .sliceS x lo hi => fun fr m => oSliceS (evL fr x) (lo.map (evL fr)) (hi.map (evL fr))
  | .sliceA sz n x lo hi => fun fr m => oSliceA m sz n (evL fr x) (lo.map (evL fr)) (hi.map (evL fr))
  | .fieldAddr off x => fun fr m => oFieldAddr off (evL fr x)
  | .field off sz x => fun fr m => oField off sz (evL fr x)
  | .idxA sz n x j => fun fr m => oIdxA sz n (evL fr x) (evL fr j)
  | .idxS sz x j => fun fr m => oIdxS sz (evL fr x) (evL fr j)
  | .index sz esz n x j => fun fr m => oIndex sz esz n (evL fr x) (evL fr j)
  | .indexS x j => fun fr m => oIndexS (evL fr x) (evL fr j)
  | .lookup ik ok zero x y => fun fr m => oLookup m ik ok zero (evL fr x) (evL fr y)
  | .extract t j => fun fr m => oExtract (evL fr t) j
  | .lenS x => fun fr m => oLenS (evL fr x)
  | .len x => fun fr m => oLen (evL fr x)
  | .lenM x => fun fr m => oLenM m (evL fr x)
  | .lenC n => fun fr m => some (.int .i64 n)
  | .maxI x y => fun fr m => oMax (evL fr x) (evL fr y)
  | .minI x y => fun fr m => oMin (evL fr x) (evL fr y)
  | .iface t x => fun fr m => some (.ifc t (evL fr x))
  | .mark x => fun fr m => oMark m (evL fr x)
  | .f64bits x => fun fr m => oF64bits (evL fr x)
  | .f64from x => fun fr m => oF64from (evL fr x)
  | _ => fun _ _ => none
def rdI (i : AI) (fr : FL) (m : Mem) : Option AV := rdT i fr m

def AI.rd : AI → Bool
  | .mv _ | .pick .. | .build .. | .load _ | .loadA .. | .nilchk _ | .binI .. | .binS .. | .binB .. | .binF .. | .eqNil .. | .neg .. | .compl .. | .not _ | .cvtI .. | .cvtF _ | .cvtSS _ | .cvtSB _ | .cvtBS _ | .mkfn .. | .slice .. | .sliceS .. | .sliceA ..
  | .fieldAddr .. | .field .. | .idxA .. | .idxS .. | .index .. | .indexS .. | .lookup .. | .extract .. | .lenS _ | .len _ | .lenM _ | .lenC _ | .maxI .. | .minI .. | .iface .. | .mark _ | .f64bits _ | .f64from _ => true
  | _ => false

theorem rdI_ok {C : CallP} {B : Nat → Prop} {i : AI} {fr : FL} {m : Mem} {v : AV} {K : AV → Mem → Prop} {E : List PanicEntry → Mem → Prop} (h : rdI i fr m = some v) (hk : K v m) : stepI C B i (frT fr) m K E := by
  cases i <;> simp only [rdI, rdT, stepI, evL_eq, ev_map, ev_maps, Option.some.injEq, reduceCtorEq] at h ⊢
  case mv => subst h; exact hk
  case mkfn => subst h; exact hk
  case iface => subst h; exact hk
  case lenC => subst h; exact hk
  case build =>
    split at h <;> simp only [Option.some.injEq, reduceCtorEq] at h
    rename_i hb; subst h
    exact oBuild_ok hb hk
  case pick => exact oPick_ok h hk
  case load => exact oLoad_ok h hk
  case loadA => exact oLoadA_ok h hk
  case nilchk => exact oNilchk_ok h hk
  case binI => exact oBinI_ok h hk
  case binS => exact oBinS_ok h hk
  case binB => exact oBinB_ok h hk
  case binF => exact oBinF_ok h hk
  case eqNil => exact oEqNil_ok h hk
  case neg => exact oNeg_ok h hk
  case compl => exact oCompl_ok h hk
  case not => exact oNot_ok h hk
  case cvtI => exact oCvtI_ok h hk
  case cvtF => exact oCvtF_ok h hk
  case cvtSS => exact oCvtSS_ok h hk
  case cvtSB => exact oCvtSB_ok h hk
  case cvtBS => exact oCvtBS_ok h hk
  case slice => exact oSlice_ok h hk
  case sliceS => exact oSliceS_ok h hk
  case sliceA => exact oSliceA_ok h hk
  case fieldAddr => exact oFieldAddr_ok h hk
  case field => exact oField_ok h hk
  case idxA => exact oIdxA_ok h hk
  case idxS => exact oIdxS_ok h hk
  case index => exact oIndex_ok h hk
  case indexS => exact oIndexS_ok h hk
  case lookup => exact oLookup_ok h hk
  case extract => exact oExtract_ok h hk
  case lenS => exact oLenS_ok h hk
  case len => exact oLen_ok h hk
  case lenM => exact oLenM_ok h hk
  case maxI => exact oMax_ok h hk
  case minI => exact oMin_ok h hk
  case mark => exact oMark_ok h hk
  case f64bits => exact oF64bits_ok h hk
  case f64from => exact oF64from_ok h hk

/-- A memory that holds what another one does. -/
def Sub (m m' : Mem) : Prop := ∀ o x, m o = some x → m' o = some x

theorem cellsAt_mono {m m' : Mem} (h : Sub m m') {x : AV} {r : List AV × Nat} (hr : cellsAt m x = some r) : cellsAt m' x = some r := by
  unfold cellsAt at hr ⊢
  split at hr
  · split at hr
    · rename_i hm; simp only [h _ _ hm]; exact hr
    · simp at hr
  · exact hr
  · simp at hr

theorem source_mono {m m' : Mem} (h : Sub m m') {sz : Nat} {x : AV} {r : Nat × List AV} (hr : source m sz x = some r) : source m' sz x = some r := by
  unfold source at hr ⊢
  split at hr
  · exact hr
  · split at hr
    · rename_i hs
      rw [if_pos hs]
      split at hr
      · rename_i hm; simp only [h _ _ hm]; exact hr
      · simp at hr
    · simp at hr
  · exact hr
  · simp at hr

theorem rdI_mono {i : AI} {fr : FL} {m m' : Mem} {v : AV} (hs : Sub m m') (h : rdI i fr m = some v) : rdI i fr m' = some v := by
  cases i <;> simp only [rdI, rdT] at h ⊢ <;> try exact h
  case load =>
    unfold oLoad at h ⊢
    split at h
    · rename_i hc; rw [cellsAt_mono hs hc]; exact h
    · simp at h
  case loadA =>
    unfold oLoadA at h ⊢
    split at h
    · rename_i hc; rw [cellsAt_mono hs hc]; exact h
    · simp at h
  case cvtBS =>
    unfold oCvtBS at h ⊢
    split at h
    · rename_i hc0; rw [if_pos hc0]
      split at h
      · rename_i hc; rw [source_mono hs hc]; exact h
      · simp at h
    · simp at h
  case sliceA =>
    unfold oSliceA at h ⊢
    split at h
    · split at h
      · rename_i hm; simp only [hs _ _ hm]; exact h
      · simp at h
    · simp at h
  case lookup =>
    unfold oLookup at h ⊢
    split at h
    · simp at h
    · rename_i k' hk
      split at h
      · exact h
      · split at h
        · rename_i hm; simp only [hs _ _ hm]; exact h
        · simp at h
      · simp at h
  case lenM =>
    unfold oLenM at h ⊢
    split at h
    · exact h
    · split at h
      · rename_i hm; simp only [hs _ _ hm]; exact h
      · simp at h
    · simp at h
  case mark =>
    unfold oMark at h ⊢
    split at h
    · split at h
      · rename_i hm; simp only [hs _ _ hm]; exact h
      · simp at h
    · simp at h

end
end Go.X

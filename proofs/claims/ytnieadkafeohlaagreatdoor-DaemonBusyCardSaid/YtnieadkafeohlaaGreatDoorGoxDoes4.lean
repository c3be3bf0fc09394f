/- The operations that only compute or read: slices cut, bytes as texts, maps asked, lengths. -/
import Derived.Test.YtnieadkafeohlaaGreatDoorGoxDoes3
import Derived.Laws.BytesArg
set_option linter.unusedVariables false
set_option linter.unusedSimpArgs false
namespace Go.X
section
variable {ng : Glob} {P : Program} {B : Nat → Prop} {κ : Kap} {m : Mem} {w : World}

/-- Options of values. -/
def VO (κ : Kap) (w : World) : Option AV → Option Value → Prop
  | none, none => True
  | some x, some v => V κ w x v
  | _, _ => False

theorem bounds_sound {isS : Bool} {n cap : Nat} (hc : n ≤ cap) {lo hi : Option AV} {lo' hi' : Option Value} (hl : VO κ w lo lo') (hh : VO κ w hi hi') {K : Nat → Nat → Prop} (h : sBounds n lo hi K) :
    ∃ l r, l ≤ r ∧ r ≤ n ∧ K l r ∧ (Instr.sliceBounds isS n cap lo' hi' none).run P w = .ok (l, r, cap) w := by
  have hb : ∀ (k : IntKind) (i : Int) (y : Nat) (code : BoundsCode), 0 ≤ i → i ≤ y → (Instr.sliceBound (.int k i) y code).run P w = .ok i.toNat w := fun k i y code h0 h1 => run_sliceBound w k i y code h0 h1
  unfold sBounds at h
  split at h
  · rename_i k r
    obtain ⟨h0, h1, h2⟩ := h
    cases hi' with
    | none => exact hh.elim
    | some v =>
      cases hh
      split at h2
      · rename_i k2 l
        obtain ⟨h3, h4, h5⟩ := h2
        cases lo' with
        | none => exact hl.elim
        | some v =>
          cases hl
          refine ⟨l.toNat, r.toNat, by omega, by omega, h5, ?_⟩
          have e : ((r.toNat : Nat) : Int) = r := by omega
          simp only [Instr.sliceBounds, Sem.run_bind, Sem.run_pure, Result.andThen_ok]
          rw [hb k r cap _ h0 (by omega)]; simp only [Result.andThen_ok]
          rw [hb k2 l _ _ h3 (by omega)]; rfl
      · cases lo' with
        | some v => exact hl.elim
        | none =>
          refine ⟨0, r.toNat, by omega, by omega, h2, ?_⟩
          simp only [Instr.sliceBounds, Sem.run_bind, Sem.run_pure, Result.andThen_ok]
          rw [hb k r cap _ h0 (by omega)]; rfl
      · exact h2.elim
  · cases hi' with
    | some v => exact hh.elim
    | none =>
      split at h
      · rename_i k2 l
        obtain ⟨h3, h4, h5⟩ := h
        cases lo' with
        | none => exact hl.elim
        | some v =>
          cases hl
          refine ⟨l.toNat, n, by omega, by omega, h5, ?_⟩
          simp only [Instr.sliceBounds, Sem.run_bind, Sem.run_pure, Result.andThen_ok]
          rw [hb k2 l _ _ h3 (by omega)]; rfl
      · cases lo' with
        | some v => exact hl.elim
        | none => exact ⟨0, n, by omega, by omega, h, by simp only [Instr.sliceBounds, Sem.run_bind, Sem.run_pure, Result.andThen_ok]⟩
      · exact h.elim
  · exact h.elim

/-- A slice expression with a third bound that is the second. -/
theorem bounds3_sound {n cap : Nat} (hc : n ≤ cap) {lo hi : Option AV} {lo' hi' : Option Value} (hl : VO κ w lo lo') (hh : VO κ w hi hi') {K : Nat → Nat → Prop} (h : sBounds n lo hi K) {k : IntKind} {x : Int}
    (hx : ∀ l r, K l r → x = r ∧ hi.isSome = true) :
    ∃ l r, l ≤ r ∧ r ≤ n ∧ K l r ∧ (Instr.sliceBounds true n cap lo' hi' (some (.int k x))).run P w = .ok (l, r, r) w := by
  have hb : ∀ (k : IntKind) (i : Int) (y : Nat) (code : BoundsCode), 0 ≤ i → i ≤ y → (Instr.sliceBound (.int k i) y code).run P w = .ok i.toNat w := fun k i y code h0 h1 => run_sliceBound w k i y code h0 h1
  unfold sBounds at h
  split at h
  · rename_i k0 r
    obtain ⟨h0, h1, h2⟩ := h
    cases hi' with
    | none => exact hh.elim
    | some v =>
      cases hh
      split at h2
      · rename_i k2 l
        obtain ⟨h3, h4, h5⟩ := h2
        cases lo' with
        | none => exact hl.elim
        | some v =>
          cases hl
          have e : x = r := by have := (hx _ _ h5).1; omega
          subst e
          refine ⟨l.toNat, x.toNat, by omega, by omega, h5, ?_⟩
          simp only [Instr.sliceBounds, Sem.run_bind, Sem.run_pure, Result.andThen_ok]
          rw [hb k x cap _ h0 (by omega)]; simp only [Result.andThen_ok]
          rw [hb k0 x _ _ h0 (by omega)]; simp only [Result.andThen_ok]
          rw [hb k2 l _ _ h3 (by omega)]; rfl
      · cases lo' with
        | some v => exact hl.elim
        | none =>
          have e : x = r := by have := (hx _ _ h2).1; omega
          subst e
          refine ⟨0, x.toNat, by omega, by omega, h2, ?_⟩
          simp only [Instr.sliceBounds, Sem.run_bind, Sem.run_pure, Result.andThen_ok]
          rw [hb k x cap _ h0 (by omega)]; simp only [Result.andThen_ok]
          rw [hb k0 x _ _ h0 (by omega)]; rfl
      · exact h2.elim
  · exfalso
    split at h
    · have := (hx _ _ h.2.2).2; simp at this
    · have := (hx _ _ h).2; simp at this
    · exact h
  · exact h.elim

theorem VL.cut {cs : List AV} {vs : List Value} (h : VL κ w cs vs) (a b : Nat) : VL κ w (X.cut cs a b) ((vs.drop a).take (b - a)) := (h.drop a).take _

theorem sl_cut {hd0 h2 : Hdr} {n n2 : Nat} {cs : List AV} {sz b off cap l r m2 : Nat} {vs : List Value} (hr : κ.ret b) (hlr : l ≤ r) (hrm : r ≤ m2) (hn : n2 = r - l) (hh : h2 ≠ .nil) (hf : h2 = .full → m2 = r)
    (hl : VL κ w cs vs) (hc : ∀ i v, vs[i]? = some v → w.cell? ⟨b, off + i, none⟩ = some v) (hone : ∀ c ∈ cs, c.one = true) :
    V κ w (.sl h2 n2 (cut cs (l * sz) (r * sz))) (.slice (some (if m2 = l then ⟨b, off, none⟩ else ⟨b, off + l * sz, none⟩)) (r - l) (m2 - l)) := by
  subst hn
  have h3 := hl.cut (l * sz) (r * sz)
  by_cases hm : m2 = l
  · have hrl : r = l := by omega
    subst hrl; subst hm
    simp only [if_true]
    have e1 : cut cs (m2 * sz) (m2 * sz) = [] := by simp [cut]
    rw [e1]
    refine .sl _ _ _ b off _ [] hh (by intro; omega) (by omega) hr rfl (fun i v h => by simp at h) (fun i c v h => by simp at h) (fun c h => by simp at h)
  · rw [if_neg hm]
    refine .sl _ _ _ b _ _ _ hh (by intro h; have := hf h; omega) (by omega) hr h3.1 (fun i v hi => ?_) h3.2 (fun c hcm => hone c (List.mem_of_mem_drop (List.mem_of_mem_take hcm)))
    rw [List.getElem?_take] at hi
    split at hi
    · rw [List.getElem?_drop] at hi
      rw [Nat.add_assoc]; exact hc _ v hi
    · simp at hi

theorem slice_sound (hw : RelW ng κ m w) {t e : TypeId} {i : TypeInfo} (hd : P.underlying t = some (.slice e)) (hin : P.info? e = some i) {x : AV} {v : Value} (hv : V κ w x v) {lo hi mx : Option AV} {lo' hi' mx' : Option Value}
    (hl : VO κ w lo lo') (hh : VO κ w hi hi') (hm : VO κ w mx mx') {K : AV → Mem → Prop}
    (h : sSlice i.size x lo hi mx (fun z => K z m)) : DoesV ng P B κ m w (Instr.sliceAt t v lo' hi' mx') K := by
  have hat : ∀ v lo hi mx, (Instr.sliceAt t v lo hi mx).run P w = (Instr.slice t v lo hi mx).run P w := fun v lo hi mx => by simp only [Instr.sliceAt, Sem.run_bind, run_underlying' hd, Result.andThen_ok]
  have run : ∀ a len cap l r mm lo' hi' mx', (Instr.sliceBounds true len cap lo' hi' mx').run P w = .ok (l, r, mm) w →
      (Instr.sliceAt t (.slice a len cap) lo' hi' mx').run P w = .ok (.slice (if mm = l then a else a.map (·.add (l * i.size))) (r - l) (mm - l)) w := by
    intro a len cap l r mm lo' hi' mx' hb
    rw [hat]
    simp only [Instr.slice, Sem.run_bind, run_underlying' hd, Result.andThen_ok, hb, run_sizeOf hin, Sem.run_pure]
  unfold sSlice at h
  split at h
  · rename_i hh0 n cs
    obtain ⟨hn, h⟩ := h
    split at h
    · cases mx' with
      | some v => cases hm
      | none =>
        cases hv with
        | nil =>
          obtain ⟨l, r, hlr, hrn, hk, hb⟩ := bounds_sound (P := P) (isS := true) (Nat.le_refl 0) hl hh h
          obtain rfl : r = 0 := by omega
          obtain rfl : l = 0 := by omega
          refine DoesV.here hw (run none 0 0 0 0 0 _ _ _ hb) (av := .sl .nil 0 []) (by simpa using V.nil) (by simpa [cut] using hk)
        | sl _ _ _ b off cap vs hn0 hf hc hr hlen hcc hx hone =>
          obtain ⟨l, r, hlr, hrn, hk, hb⟩ := bounds_sound (P := P) (isS := true) hc hl hh h
          refine DoesV.here hw (run _ _ _ _ _ _ _ _ _ hb) ?_ hk
          have := sl_cut (κ := κ) (w := w) (hd0 := hh0) (n := n) (cap := cap) (h2 := if hh0 = .nil then .nil else if hh0 = .full ∧ r = n then .full else .any) (sz := i.size) (m2 := cap) hr hlr (by omega) rfl
            (by rw [if_neg hn0]; split <;> simp) (by rw [if_neg hn0]; split; (rename_i h9; intro _; rw [hf h9.1, h9.2]); (intro h9; simp at h9)) ⟨hlen, hx⟩ hcc hone
          simpa only [Option.map_some, add_eq, apply_ite some] using this
    · rename_i k x
      cases mx' with
      | none => cases hm
      | some v =>
        cases hm
        cases hv with
        | nil =>
          obtain ⟨l, r, hlr, hrn, hk, hb⟩ := bounds3_sound (P := P) (k := k) (x := x) (Nat.le_refl 0) hl hh h (fun l r hk => ⟨hk.1, hk.2.1⟩)
          obtain rfl : r = 0 := by omega
          obtain rfl : l = 0 := by omega
          refine DoesV.here hw (run none 0 0 0 0 0 _ _ _ hb) (av := .sl .nil 0 []) (by simpa using V.nil) (by simpa [cut] using hk.2.2)
        | sl _ _ _ b off cap vs hn0 hf hc hr hlen hcc hx hone =>
          obtain ⟨l, r, hlr, hrn, hk, hb⟩ := bounds3_sound (P := P) (k := k) (x := x) hc hl hh h (fun l r hk => ⟨hk.1, hk.2.1⟩)
          refine DoesV.here hw (run _ _ _ _ _ _ _ _ _ hb) ?_ hk.2.2
          have := sl_cut (κ := κ) (w := w) (hd0 := hh0) (n := n) (cap := cap) (h2 := if hh0 = .nil then .nil else .full) (sz := i.size) (m2 := r) hr hlr (by omega) rfl
            (by rw [if_neg hn0]; simp) (fun _ => rfl) ⟨hlen, hx⟩ hcc hone
          simpa only [Option.map_some, add_eq, apply_ite some] using this
    · obtain ⟨l, r, _, _, hk⟩ : ∃ l r : Nat, l ≤ r ∧ r ≤ n ∧ False := by
        cases hv with
        | nil => obtain ⟨l, r, a, b, c, _⟩ := bounds_sound (P := P) (w := w) (isS := true) (Nat.le_refl 0) hl hh h; exact ⟨l, r, a, b, c⟩
        | sl _ _ _ b off cap vs hn0 hf hc hr hlen hcc hx hone => obtain ⟨l, r, a, b, c, _⟩ := bounds_sound (P := P) (w := w) (isS := true) hc hl hh h; exact ⟨l, r, a, b, c⟩
      exact hk.elim
  · rename_i o sz' off n
    obtain ⟨rfl, h⟩ := h
    cases hv with
    | osl _ _ _ _ b base off2 cap c el fz hr hc ho hs hn =>
      split at h
      · cases mx' with
        | some v => cases hm
        | none =>
          obtain ⟨l, r, hlr, hrn, hk, hb⟩ := bounds_sound (P := P) (isS := true) hn hl hh h
          refine DoesV.here hw (run _ _ _ _ _ _ _ _ _ hb) ?_ hk
          by_cases hm2 : cap = l
          · rw [if_pos hm2]
            exact .osl o _ _ _ b base off2 _ c el fz hr hc (by intro; omega) (by rw [hm2, Nat.sub_self]; have := Nat.zero_mul i.size; omega) (by omega)
          · rw [if_neg hm2]
            simp only [Option.map_some, add_eq]
            have e1 : base + off2 + l * i.size + (cap - l) * i.size ≤ c.size := by
              have : l * i.size + (cap - l) * i.size = cap * i.size := by rw [← Nat.add_mul]; congr 1; omega
              omega
            have := V.osl (κ := κ) (w := w) o i.size (off + l * i.size) (r - l) b base (off2 + l * i.size) (cap - l) c el fz hr hc (by intro; have := ho (by omega); omega) (by omega) (by omega)
            rwa [← Nat.add_assoc] at this
      · rename_i k x
        cases mx' with
        | none => cases hm
        | some v =>
          cases hm
          obtain ⟨l, r, hlr, hrn, hk, hb⟩ := bounds3_sound (P := P) (k := k) (x := x) hn hl hh h (fun l r hk => ⟨hk.1, hk.2.1⟩)
          refine DoesV.here hw (run _ _ _ _ _ _ _ _ _ hb) ?_ hk.2.2
          by_cases hm2 : r = l
          · rw [if_pos hm2]
            exact .osl o _ _ _ b base off2 _ c el fz hr hc (by intro; omega) (by rw [hm2, Nat.sub_self]; have := Nat.zero_mul i.size; omega) (by omega)
          · rw [if_neg hm2]
            simp only [Option.map_some, add_eq]
            have e1 : base + off2 + l * i.size + (r - l) * i.size ≤ c.size := by
              have h1 : l * i.size + (r - l) * i.size = r * i.size := by rw [← Nat.add_mul]; congr 1; omega
              have h2 : r * i.size ≤ cap * i.size := Nat.mul_le_mul_right _ (by omega)
              omega
            have := V.osl (κ := κ) (w := w) o i.size (off + l * i.size) (r - l) b base (off2 + l * i.size) (r - l) c el fz hr hc (by intro; have := ho (by omega); omega) (by omega) (by omega)
            rwa [← Nat.add_assoc] at this
      · obtain ⟨l, r, _, _, hk, _⟩ := bounds_sound (P := P) (w := w) (isS := true) hn hl hh h
        exact hk.elim
  · exact h.elim

theorem sliceS_sound (hw : RelW ng κ m w) {t : TypeId} (hd : P.underlying t = some .string) {x : AV} {v : Value} (hv : V κ w x v) {lo hi : Option AV} {lo' hi' : Option Value}
    (hl : VO κ w lo lo') (hh : VO κ w hi hi') {K : AV → Mem → Prop} (h : sSliceS x lo hi (fun z => K z m)) : DoesV ng P B κ m w (Instr.sliceAt t v lo' hi' none) K := by
  unfold sSliceS at h
  split at h
  · rename_i s
    cases hv
    have hsz : (⟨s.toArray⟩ : ByteArray).size = s.length := by simp [ByteArray.size]
    obtain ⟨l, r, hlr, hrn, hk, hb⟩ := bounds_sound (P := P) (isS := false) (Nat.le_refl _) hl hh h
    refine DoesV.here hw (v := .string ((⟨s.toArray⟩ : ByteArray).extract l r)) ?_ ?_ hk
    · simp only [Instr.sliceAt, Sem.run_bind, run_underlying' hd, Result.andThen_ok, Instr.slice]
      simp [hsz, hb]
    · have : (⟨s.toArray⟩ : ByteArray).extract l r = ⟨((s.take r).drop l).toArray⟩ := by
        apply ByteArray.ext
        simp [ByteArray.data_extract, List.extract_toArray, List.extract_eq_take_drop, List.drop_take]
      rw [this]; exact .str _
  · exact h.elim

theorem sliceA_sound (hw : RelW ng κ m w) {t e : TypeId} {n : Nat} {i : TypeInfo} (hd : P.underlying t = some (.array n e)) (hin : P.info? e = some i) {x : AV} {v : Value} (hv : V κ w x v) {lo hi : Option AV} {lo' hi' : Option Value}
    (hl : VO κ w lo lo') (hh : VO κ w hi hi') {K : AV → Mem → Prop} (h : sSliceA m i.size n x lo hi (fun z => K z m)) : DoesV ng P B κ m w (Instr.sliceAt t v lo' hi' none) K := by
  unfold sSliceA at h
  split at h
  · rename_i o off
    cases hv with
    | ptr _ _ b base hr =>
      split at h
      · rename_i cs hm
        obtain ⟨hf, h⟩ := h
        obtain ⟨l, r, hlr, hrn, hk, hb⟩ := bounds_sound (P := P) (isS := false) (Nat.le_refl n) hl hh h
        obtain ⟨b1, base1, hr1, hx, hn⟩ := hw.obj _ _ hm
        rw [hr] at hr1; simp at hr1; obtain ⟨rfl, rfl⟩ := hr1
        obtain ⟨c, el, fz, hc, hfz, hsz, vs, hvl, hcc, ho⟩ := hx
        refine DoesV.here hw (v := .slice (some (if n = l then ⟨b, base + off, none⟩ else (⟨b, base + off, none⟩ : Addr).add (l * i.size))) (r - l) (n - l)) ?_ ?_ hk
        · simp only [Instr.sliceAt, Sem.run_bind, run_underlying' hd, Result.andThen_ok, Instr.sureAddr, Sem.run_pure, hb, run_sizeOf hin]
        · have e0 : l * i.size + (n - l) * i.size = n * i.size := by rw [← Nat.add_mul]; congr 1; omega
          by_cases hm2 : n = l
          · rw [if_pos hm2]
            exact .osl o _ _ _ b base off _ c el fz hr hc (by intro; omega) (by rw [hm2, Nat.sub_self]; have := Nat.zero_mul i.size; omega) (by omega)
          · rw [if_neg hm2, add_eq]
            have := V.osl (κ := κ) (w := w) o i.size (off + l * i.size) (r - l) b base (off + l * i.size) (n - l) c el fz hr hc (by intro; rfl) (by omega) (by omega)
            rwa [← Nat.add_assoc] at this
      · exact h.elim
  · exact h.elim

/-- What a slice holds, in the model's memory. -/
theorem source_sound (hw : RelW ng κ m w) {sz : Nat} {x : AV} {v : Value} (hv : V κ w x v) {n : Nat} {cs : List AV} (h : source m sz x = some (n, cs)) :
    (∃ l, x = .str l ∧ v = .string ⟨l.toArray⟩ ∧ sz = 1 ∧ n = l.length ∧ cs = bytesOf l) ∨
    ∃ A cap vs, v = .slice A n cap ∧ VL κ w cs vs ∧ vs.length = n * sz ∧ (A = none → vs = [] ∧ n = 0) ∧ ∀ a, A = some a → a.spot = none ∧ ∀ i u, vs[i]? = some u → w.cell? ⟨a.block, a.off + i, none⟩ = some u := by
  unfold source at h
  split at h
  · rename_i hd n' cs'
    split at h
    · rename_i hn
      simp at h; obtain ⟨rfl, rfl⟩ := h
      refine Or.inr ?_
      cases hv with
      | nil => exact ⟨none, 0, [], rfl, VL.nil, by simp, fun _ => ⟨rfl, rfl⟩, fun a ha => by simp at ha⟩
      | sl _ _ _ b off cap vs hn0 hf hc hr hlen hcc hx hone =>
        exact ⟨_, cap, vs, rfl, ⟨hlen, hx⟩, by omega, fun h => by simp at h, fun a ha => by simp at ha; subst ha; exact ⟨rfl, hcc⟩⟩
    · simp at h
  · rename_i o sz' off n'
    split at h
    · rename_i hsz
      subst hsz
      split at h
      · rename_i cs' hm
        split at h
        · rename_i hle
          simp at h; obtain ⟨rfl, rfl⟩ := h
          refine Or.inr ?_
          cases hv with
          | osl _ _ _ _ b base off2 cap c el fz hr hc ho hs hn =>
            obtain ⟨b1, base1, hr1, hx, hnr⟩ := hw.obj _ _ hm
            rw [hr] at hr1; simp at hr1; obtain ⟨rfl, rfl⟩ := hr1
            obtain ⟨c', el', fz', hc', hfz, hsz, vs, hvl, hcc, hoc⟩ := hx
            refine ⟨_, cap, (vs.drop off).take (n' * sz'), rfl, (hvl.drop off).take _, ?_, fun h => by simp at h, fun a ha => ?_⟩
            · have := hvl.1; simp; omega
            · simp at ha; subst ha
              refine ⟨rfl, fun i u hu => ?_⟩
              rw [List.getElem?_take] at hu
              split at hu
              · rename_i hi
                rw [List.getElem?_drop] at hu
                have hn0 : 0 < n' := by
                  rcases Nat.eq_zero_or_pos n' with h0 | h0
                  · subst h0; simp at hi
                  · exact h0
                have := hcc _ u hu
                rw [ho hn0]
                simp only [World.cell?, hc']
                simp only [Option.isSome_none, Bool.false_eq_true, if_false]
                rw [Nat.add_assoc]; exact this
              · simp at hu
        · simp at h
      · simp at h
    · simp at h
  · rename_i l
    split at h
    · simp at h; obtain ⟨rfl, rfl⟩ := h
      cases hv
      exact Or.inl ⟨l, rfl, rfl, ‹_›, rfl, rfl⟩
    · simp at h
  · simp at h

theorem VL.bytes (l : List UInt8) : VL κ w (bytesOf l) (l.map fun b => Value.int .u8 b.toNat) := by
  refine ⟨by simp [bytesOf], fun i c v hc hv => ?_⟩
  simp [bytesOf] at hc hv
  obtain ⟨b, h1, rfl⟩ := hc
  obtain ⟨b', h2, rfl⟩ := hv
  rw [h1] at h2; simp at h2; subst h2
  exact .int _ _

theorem VL.bytes_inv {l : List UInt8} {vs : List Value} (h : VL κ w (bytesOf l) vs) : vs = l.map fun b => Value.int .u8 b.toNat := by
  apply List.ext_getElem?
  intro i
  by_cases hi : i < l.length
  · have h1 : (bytesOf l)[i]? = some (.int .u8 (l[i].toNat : Nat)) := by simp [bytesOf, List.getElem?_eq_getElem hi]
    obtain ⟨v, h2, h3⟩ := h.get h1
    cases h3
    simp [h2, List.getElem?_eq_getElem hi]
  · have h1 : vs.length = l.length := by rw [← h.1]; simp [bytesOf]
    rw [List.getElem?_eq_none (by omega), List.getElem?_eq_none (by simp; omega)]

/-- The cells of a slice, loaded. -/
theorem run_firstCells (hw : RelW ng κ m w) {sz : Nat} {x : AV} {v : Value} (hv : V κ w x v) {n : Nat} {cs : List AV} (h : source m sz x = some (n, cs)) :
    ∃ vs, (Builtin.firstCells sz n v).run P w = .ok vs.toArray w ∧ VL κ w cs vs ∧ vs.length = n * sz ∧ (Builtin.lenOf v).run P w = .ok n w := by
  rcases source_sound hw hv h with ⟨l, rfl, rfl, rfl, rfl, rfl⟩ | ⟨A, cap, vs, rfl, hvl, hl, h0, ha⟩
  · have hsz : (⟨l.toArray⟩ : ByteArray).size = l.length := by simp [ByteArray.size]
    refine ⟨l.map fun b => Value.int .u8 b.toNat, ?_, VL.bytes l, by simp, by simp [Builtin.lenOf, hsz]⟩
    simp only [Builtin.firstCells, Sem.run_pure]
    congr 1
    rw [← hsz]
    simp [ByteArray.extract_zero_size, hsz]
  · refine ⟨vs, ?_, hvl, hl, by simp [Builtin.lenOf]⟩
    cases A with
    | none => obtain ⟨rfl, rfl⟩ := h0 rfl; simp [Builtin.firstCells]
    | some a =>
      obtain ⟨hs, hc⟩ := ha a rfl
      obtain ⟨ab, ao, as⟩ := a
      simp at hs; subst hs
      simp only [Builtin.firstCells, ← hl]
      exact run_loadCells_list w ⟨ab, ao, none⟩ vs (fun j u hu => by rw [add_eq]; exact hc j u hu)

theorem cvtBS_sound (hw : RelW ng κ m w) {src dst e : TypeId} (hs : P.underlying src = some (.slice e)) (he : P.underlying e = some (.int .u8)) (hd : P.underlying dst = some .string) {x : AV} {v : Value} (hv : V κ w x v) {K : AV → Mem → Prop}
    (h : sCvtBS m x (fun z => K z m)) : DoesV ng P B κ m w (convert src dst v) K := by
  unfold sCvtBS at h
  obtain ⟨hx0, h⟩ := h
  have hx : ∀ l, x ≠ .str l := by rintro l rfl; simp [AV.isStr] at hx0
  split at h
  · rename_i n cs hsrc
    obtain ⟨l, rfl, hk⟩ := h
    rcases source_sound hw hv hsrc with ⟨l', rfl, _⟩ | ⟨A, cap, vs, rfl, hvl, hl, h0, ha⟩
    · exact absurd rfl (hx l')
    · have hvs := hvl.bytes_inv
      have hn : n = l.length := by have := hvl.1; simp [bytesOf] at this; omega
      refine DoesV.here hw (v := .string ⟨l.toArray⟩) ?_ (.str l) hk
      cases A with
      | none =>
        obtain ⟨h1, h2⟩ := h0 rfl
        subst hvs
        have hl0 : l = [] := by simpa using h1
        subst hl0
        rw [run_convert_bytes_nil w src e hs he n cap dst hd]; rfl
      | some a =>
        obtain ⟨hsp, hc⟩ := ha a rfl
        obtain ⟨ab, ao, as⟩ := a
        simp at hsp; subst hsp
        rw [run_convert_bytes_arg w src e hs he ab ao n cap (l.map fun b => (b.toNat : Int)) (by simp [hn]) (fun i hi => ?_) dst hd]
        · congr 2
          simp only [strOfNums, List.map_map]
          have e : ((fun n : Int => UInt8.ofNat n.toNat) ∘ fun b : UInt8 => (b.toNat : Int)) = id := by funext b; simp
          rw [e, List.map_id]
        · refine hc i _ ?_
          rw [hvs]
          have hil : i < l.length := by omega
          simp [List.getElem?_eq_getElem hil, List.getD]
  · exact h.elim
end
end Go.X

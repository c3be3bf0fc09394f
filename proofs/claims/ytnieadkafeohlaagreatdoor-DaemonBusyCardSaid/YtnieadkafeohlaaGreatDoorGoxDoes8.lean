/- Append: in place or in a new row, the abstract result is one. -/
import Derived.Test.YtnieadkafeohlaaGreatDoorGoxDoes7
set_option linter.unusedVariables false
set_option linter.unusedSimpArgs false
namespace Go.X
section
variable {ng : Glob} {P : Program} {B : Nat → Prop} {κ : Kap} {m : Mem} {w : World}

theorem growBy_le (need : Nat) : ∀ (r c : Nat), c ≤ need → Builtin.growBy need r c ≤ need + (need + 768) / 4
  | 0, c, h => by simp [Builtin.growBy]; omega
  | r + 1, c, h => by
    simp only [Builtin.growBy]
    split
    · omega
    · by_cases h2 : c + (c + 768) / 4 ≤ need
      · exact growBy_le need r _ h2
      · cases r with
        | zero => simp [Builtin.growBy]; omega
        | succ r => simp only [Builtin.growBy]; rw [if_pos (by omega)]; omega

theorem nextcap_le {need cap : Nat} (h : cap < need) : Builtin.nextslicecap need cap ≤ 2 * need + 512 := by
  unfold Builtin.nextslicecap
  split
  · omega
  · split
    · omega
    · have := growBy_le need 4 cap (by omega)
      omega

theorem run_append_in {st xt e ty : TypeId} {i : TypeInfo} (hd : P.underlying st = some (.slice e)) (hx : (∃ e2, P.underlying xt = some (.slice e2)) ∨ P.underlying xt = some .string) (hi : P.info? e = some i)
    {A : Option Addr} {n cap k : Nat} {xv : Value} {us : List Value} (hlen : (Builtin.lenOf xv).run P w = .ok k w) (hsrc : (Builtin.firstCells i.size k xv).run P w = .ok us.toArray w) (hn : n + k ≤ cap) {w' : World}
    (hst : (match A with | some a => storeCells (a.add (n * i.size)) us | none => pure ()).run P w = .ok () w') :
    (Builtin.append_ #[st, xt] ty #[.slice A n cap, xv]).run P w = .ok (.slice A (n + k) cap) w' := by
  rcases hx with ⟨e2, hx⟩ | hx
  all_goals
    simp only [Builtin.append_, List.getElem?_toArray, List.getElem?_cons_zero, List.getElem?_cons_succ, Sem.run_bind, run_underlying' hd, run_underlying' hx, Result.andThen_ok, run_sizeOf hi, Sem.run_pure, Bool.false_eq_true, if_false, hlen, if_pos hn, Bool.not_false, if_true, hsrc]
    cases A with
    | none => simp only [Sem.run_pure, Result.ok.injEq, true_and] at hst; simp [hst]
    | some a => simp only [Sem.run_bind, hst, Result.andThen_ok, Sem.run_pure]

theorem run_append_grow {st xt e ty : TypeId} {i : TypeInfo} {z : Value} (hd : P.underlying st = some (.slice e)) (hx : (∃ e2, P.underlying xt = some (.slice e2)) ∨ P.underlying xt = some .string) (hi : P.info? e = some i) (hz0 : i.zero = some z) (hzs : z.cells.size = i.size) (hb1 : 0 < i.bytes) (hb : i.bytes ≤ 1024)
    {A : Option Addr} {n cap k : Nat} {xv : Value} {us os : List Value} (hlen : (Builtin.lenOf xv).run P w = .ok k w) (hsrc1 : (Builtin.firstCells i.size k xv).run P w.drew = .ok us.toArray w.drew)
    (hold : (Builtin.firstCells i.size n (.slice A n cap)).run P w.drew = .ok os.toArray w.drew) (hn : cap < n + k) (hroom : n + k ≤ room) :
    ∃ cap' spare, n + k ≤ cap' ∧ cap' * i.size ≤ (n + k) * i.size + List.length spare ∧ (Builtin.append_ #[st, xt] ty #[.slice A n cap, xv]).run P w = .ok (.slice (some ⟨w.heap.size, 0, none⟩) (n + k) cap') (w.drew.alloc (.cells (os ++ us ++ spare).toArray e)) := by
  unfold room at hroom
  have hnc := nextcap_le hn
  let cap' := (Question.appendCap (n + k) cap e).cut (w.tape w.drawn (.appendCap (n + k) cap e))
  have hcap : n + k ≤ cap' := by simp only [cap', Question.cut]; omega
  let spare := (Builtin.zeroCells z.cells (cap' - (n + k))).toList
  refine ⟨cap', spare, hcap, ?_, ?_⟩
  · have : spare.length = (cap' - (n + k)) * i.size := by simp [spare, Builtin.zeroCells, hzs]
    rw [this, ← Nat.add_mul]
    apply Nat.mul_le_mul_right; omega
  · have hzv : ∀ w : World, (zeroValue e).run P w = .ok z w := fun w => by simp [zeroValue, typeInfo, hi, hz0]
    have hti : ∀ w : World, (typeInfo e).run P w = .ok i w := fun w => by simp [typeInfo, hi]
    have hbig : ¬ (Builtin.nextslicecap (n + k) cap * i.bytes > 2 ^ 48) := by
      have h1 : Builtin.nextslicecap (n + k) cap * i.bytes ≤ (2 * (n + k) + 512) * 1024 := Nat.mul_le_mul hnc hb
      have : (2 ^ 48 : Nat) = 281474976710656 := by decide
      omega
    have hi64 : ¬ (((n + k : Nat) : Int) > IntKind.i64.max ∧ (False ∨ i.bytes = 0)) := by
      rintro ⟨h1, h2⟩
      simp [IntKind.max, IntKind.signed, IntKind.bits] at h1; omega
    have hforced : (Question.appendCap (n + k) cap e).forced = false := rfl
    have hdr : ({ w with drawn := w.drawn + 1 } : World) = w.drew := rfl
    have hfin : (os.toArray ++ us.toArray ++ Builtin.zeroCells z.cells (cap' - (n + k))) = (os ++ us ++ spare).toArray := by
      apply Array.ext'; simp [spare]
    rcases hx with ⟨e2, hx⟩ | hx
    all_goals
      simp only [Builtin.append_, List.getElem?_toArray, List.getElem?_cons_zero, List.getElem?_cons_succ, Sem.run_bind, run_underlying' hd, run_underlying' hx, Result.andThen_ok, run_sizeOf hi, Sem.run_pure, Bool.false_eq_true, if_false, hlen, if_neg (show ¬ n + k ≤ cap by omega),
        Bool.not_false, if_true, hti, if_neg hi64, if_neg hbig, run_choose, hforced, run_askRoom, hdr, hold, hsrc1, hzv, run_newRow]
      exact congrArg (fun c => Result.ok (Value.slice (some ⟨w.heap.size, 0, none⟩) (n + k) cap') (w.drew.alloc (.cells c e))) hfin

theorem RelW.drew (hw : RelW ng κ m w) : Evo κ w κ w.drew ∧ RelW ng κ m w.drew := hw.evo_heap rfl rfl rfl rfl

theorem source_one (hw : RelW ng κ m w) {sz : Nat} {x : AV} {v : Value} (hv : V κ w x v) {n : Nat} {cs : List AV} (h : source m sz x = some (n, cs)) : ∀ y ∈ cs, y.one = true := by
  unfold source at h
  split at h
  · rename_i hd n' cs'
    split at h
    · simp at h; obtain ⟨rfl, rfl⟩ := h
      cases hv with
      | nil => intro y hy; simp at hy
      | sl _ _ _ b off cap vs hn0 hf hc hr hlen hcc hx hone => exact hone
    · simp at h
  · split at h
    · split at h
      · rename_i hm
        split at h
        · simp at h; obtain ⟨rfl, rfl⟩ := h
          obtain ⟨b1, base1, hr1, hobj, hn⟩ := hw.obj _ _ hm
          obtain ⟨c, e, fz, hc, hfz, hsz, vs, hvl, hcc, hone⟩ := hobj
          exact fun y hy => hone y (List.mem_of_mem_drop (List.mem_of_mem_take hy))
        · simp at h
      · simp at h
    · simp at h
  · split at h
    · simp at h; obtain ⟨rfl, rfl⟩ := h
      intro y hy
      simp [bytesOf] at hy
      obtain ⟨b, _, rfl⟩ := hy
      rfl
    · simp at h
  · simp at h
end
end Go.X

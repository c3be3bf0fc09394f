/- What operations leave alone, run. -/
import Derived.Test.YtnieadkafeohlaaGreatDoorGoxRun
set_option linter.unusedVariables false
set_option linter.unusedSimpArgs false
namespace Go.X
noncomputable section

theorem inB_append {S B : List Nat} {o : Nat} (h : inB (S ++ B) o = false) : inB S o = false ∧ inB B o = false := by
  simpa [inB, List.any_append] using h
theorem inB_ne {S : List Nat} {o s : Nat} (h : inB S o = false) (hs : s ∈ S) : s ≠ o := by
  rintro rfl; exact inB_no h hs

/-- What a run leaves alone. -/
def Left (S : List Nat) (m m' : EM) : Prop := ∀ s ∈ S, s < m.nx → m'.mem s = m.mem s

theorem Left.refl {S : List Nat} {m : EM} : Left S m m := fun _ _ _ => rfl
theorem Left.set {S : List Nat} {m m' : EM} {o : Nat} {x : AObj} (h : m.set o x = some m') (ho : inB S o = false) : Left S m m' := by
  intro s hs _
  rw [EM.set_mem h]; simp only [Mem.set]; rw [if_neg (inB_ne ho hs)]
theorem Left.del {S : List Nat} {m m' : EM} {o : Nat} (h : m.del o = some m') (ho : inB S o = false) : Left S m m' := by
  intro s hs _
  rw [EM.del_mem h]; simp only [Mem.del]; rw [if_neg (inB_ne ho hs)]
theorem Left.new {S : List Nat} {m m' : EM} {x : AObj} (h : m.new x = some m') : Left S m m' := by
  intro s hs hl
  rw [EM.new_mem h]; simp only [Mem.new]; rw [if_neg (by show s ≠ m.nx; omega)]
theorem EM.del_nx {m m' : EM} {o : Nat} (h : m.del o = some m') : m'.nx = m.nx := by
  unfold EM.del at h; split at h <;> simp at h; subst h; rfl

theorem execI_left {S B : List Nat} {i : AI} {fr : FL} {m m' : EM} {v : AV} (h : execI (S ++ B) i fr m = some (v, m')) : execI B i fr m = some (v, m') ∧ Left S m m' := by
  cases i
  case store sz a x =>
    simp only [execI, execT, execT] at h ⊢
    obtain ⟨h2, rfl⟩ := jnk_some h
    unfold oStore at h2
    split at h2
    · rename_i o off ha
      split at h2
      · simp at h2
      · rename_i hb
        have hb := inB_append (by simpa using hb)
        split at h2
        · rename_i cs hm
          split at h2
          · rename_i hc
            refine ⟨?_, Left.set h2 hb.1⟩
            simp only [oStore, ha, hb.2, hm, hc, Bool.false_eq_true, if_false, and_self, if_true]
            rw [h2]; rfl
          · simp at h2
        · simp at h2
    · simp at h2
  case mupd ik x k y =>
    simp only [execI, execT, execT] at h ⊢
    obtain ⟨h2, rfl⟩ := jnk_some h
    unfold oMupd at h2
    split at h2
    · simp at h2
    · rename_i k' hk
      split at h2
      · rename_i hst
        split at h2
        · rename_i o hx
          split at h2
          · simp at h2
          · rename_i hb
            have hb := inB_append (by simpa using hb)
            split at h2
            · rename_i ik' es clk hm
              split at h2
              · rename_i hik
                refine ⟨?_, Left.set h2 hb.1⟩
                simp only [oMupd, hk, hst, hx, hb.2, hm, hik, Bool.false_eq_true, if_false, if_true]
                rw [h2]; rfl
              · simp at h2
            · simp at h2
        · simp at h2
      · simp at h2
  case del ik x k =>
    simp only [execI, execT, execT] at h ⊢
    obtain ⟨h2, rfl⟩ := jnk_some h
    unfold oDel at h2
    split at h2
    · simp at h2
    · rename_i k' hk
      split at h2
      · rename_i hx
        simp at h2; subst h2
        exact ⟨by simp only [oDel, hk, hx]; rfl, Left.refl⟩
      · rename_i o hx
        split at h2
        · simp at h2
        · rename_i hb
          have hb := inB_append (by simpa using hb)
          split at h2
          · rename_i ik' es clk hm
            split at h2
            · rename_i hik
              refine ⟨?_, Left.set h2 hb.1⟩
              simp only [oDel, hk, hx, hb.2, hm, hik, Bool.false_eq_true, if_false, if_true]
              rw [h2]; rfl
            · simp at h2
          · simp at h2
      · simp at h2
  case clear sz zero x =>
    simp only [execI, execT, execT] at h ⊢
    obtain ⟨h2, rfl⟩ := jnk_some h
    unfold oClear at h2
    split at h2
    · rename_i hx
      simp at h2; subst h2
      exact ⟨by simp only [oClear, hx]; rfl, Left.refl⟩
    · rename_i o sz' off n hx
      split at h2
      · rename_i h0
        simp at h2; subst h2
        exact ⟨by simp only [oClear, hx, h0, if_true]; rfl, Left.refl⟩
      · rename_i h0
        split at h2
        · rename_i hc
          have hb := inB_append hc.2
          split at h2
          · rename_i cs hm
            split at h2
            · rename_i hl
              refine ⟨?_, Left.set h2 hb.1⟩
              simp only [oClear, hx, h0, hc.1, hb.2, hm, hl, if_false, and_self, if_true]
              rw [h2]; rfl
            · simp at h2
          · simp at h2
        · simp at h2
    · simp at h2
  case app sz by_ s x =>
    simp only [execI, execT, execT] at h ⊢
    unfold oApp at h
    split at h
    · simp at h
    · rename_i k xs hs
      split at h
      · rename_i hd n cs hsl
        split at h
        · rename_i hc
          split at h
          · rename_i h0
            simp only [Option.some.injEq, Prod.mk.injEq] at h; obtain ⟨rfl, rfl⟩ := h
            exact ⟨by simp only [oApp, hs, hsl]; rw [if_pos hc, if_pos h0], Left.refl⟩
          · rename_i h0
            split at h
            · rename_i mm hn
              simp only [Option.some.injEq, Prod.mk.injEq] at h; obtain ⟨rfl, rfl⟩ := h
              refine ⟨?_, Left.new hn⟩
              simp only [oApp, hs, hsl]
              rw [if_pos hc, if_neg h0, hn]
            · simp at h
        · simp at h
      · rename_i o sz' off n hsl
        split at h
        · rename_i hc
          have hb := inB_append hc.2.1
          split at h
          · rename_i cs hm
            split at h
            · rename_i hl
              split at h
              · rename_i m1 hd
                split at h
                · rename_i m2 hn
                  simp only [Option.some.injEq, Prod.mk.injEq] at h; obtain ⟨rfl, rfl⟩ := h
                  refine ⟨?_, fun s hs2 hlt => ?_⟩
                  · simp only [oApp, hs, hsl]
                    rw [if_pos ⟨hc.1, hb.2, hc.2.2⟩]
                    simp only [hm]
                    rw [if_pos hl]
                    simp only [hd, hn]
                  · rw [Left.new (S := S) hn s hs2 (by rw [EM.del_nx hd]; exact hlt)]
                    exact Left.del hd hb.1 s hs2 hlt
                · simp at h
              · simp at h
            · simp at h
          · simp at h
        · simp at h
      · simp at h
  case copy sz d s =>
    simp only [execI, execT, execT] at h ⊢
    unfold oCopy at h
    split at h
    · rename_i k xs o sz' off n hs hd
      split at h
      · rename_i hc
        have hb := inB_append hc.2
        split at h
        · rename_i cs hm
          split at h
          · rename_i hl
            split at h
            · rename_i m2 hn
              simp only [Option.some.injEq, Prod.mk.injEq] at h; obtain ⟨rfl, rfl⟩ := h
              refine ⟨?_, Left.set hn hb.1⟩
              simp only [oCopy, hs, hd]
              rw [if_pos ⟨hc.1, hb.2⟩]
              simp only [hm]
              rw [if_pos hl]
              simp only [hn]
            · simp at h
          · simp at h
        · simp at h
      · simp at h
    · simp at h
  case alloc zero =>
    refine ⟨h, ?_⟩
    simp only [execI, execT, execT] at h
    split at h <;> simp only [Option.some.injEq, Prod.mk.injEq, reduceCtorEq] at h
    rename_i hn; obtain ⟨_, rfl⟩ := h; exact Left.new hn
  case mkmap ik =>
    refine ⟨h, ?_⟩
    simp only [execI, execT, execT] at h
    split at h <;> simp only [Option.some.injEq, Prod.mk.injEq, reduceCtorEq] at h
    rename_i hn; obtain ⟨_, rfl⟩ := h; exact Left.new hn
  case box x =>
    refine ⟨h, ?_⟩
    simp only [execI, execT, execT] at h
    split at h
    · split at h <;> simp only [Option.some.injEq, Prod.mk.injEq, reduceCtorEq] at h
      rename_i hn; obtain ⟨_, rfl⟩ := h; exact Left.new hn
    · simp at h
  case bslice sz len zero ps =>
    refine ⟨h, ?_⟩
    simp only [execI, execT, execT] at h
    split at h
    · split at h <;> simp only [Option.some.injEq, Prod.mk.injEq, reduceCtorEq] at h
      rename_i hn; obtain ⟨_, rfl⟩ := h; exact Left.new hn
    · simp at h
  case mkslice sz by_ zero l c =>
    refine ⟨h, ?_⟩
    simp only [execI, execT, oMkslice] at h
    split at h
    · split at h
      · split at h <;> simp only [Option.some.injEq, Prod.mk.injEq, reduceCtorEq] at h
        rename_i hn; obtain ⟨_, rfl⟩ := h; exact Left.new hn
      · simp at h
    · simp at h
  case build zero ps =>
    refine ⟨h, ?_⟩
    simp only [execI, execT, execT] at h
    split at h <;> simp only [Option.some.injEq, Prod.mk.injEq, reduceCtorEq] at h
    obtain ⟨_, rfl⟩ := h; exact Left.refl
  all_goals
    refine ⟨h, ?_⟩
    simp only [execI, execT, Option.some.injEq, Prod.mk.injEq, reduceCtorEq] at h <;> first
      | (obtain ⟨_, rfl⟩ := h; exact Left.refl)
      | (obtain ⟨_, rfl⟩ := pair_some h; exact Left.refl)

end
end Go.X

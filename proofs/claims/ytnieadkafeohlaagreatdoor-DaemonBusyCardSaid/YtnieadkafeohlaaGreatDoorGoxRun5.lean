/- What is run is so: all code. -/
import Derived.Test.YtnieadkafeohlaaGreatDoorGoxRun4
set_option linter.unusedVariables false
set_option linter.unusedSimpArgs false
namespace Go.X
section
variable {ng : Glob} {P : Program} {T : Nat → Option AFn} {N : Nat1}

theorem rdAt_eq (ops : List AO) : (fun i => rdAt ops i) = rdAt ops := rfl

theorem permOk_ok {n : Nat} {τ : List Nat} (h : permOk n τ = true) : τ.Nodup ∧ ∀ i, i ∈ τ ↔ i < n := by
  simp only [permOk, Bool.and_eq_true, List.all_eq_true, List.mem_range, List.contains_eq_mem, decide_eq_true_eq] at h
  obtain ⟨⟨h1, h2⟩, h3⟩ := h
  have h1 : τ.length = n := Nat.eq_of_beq_eq_true h1
  have hlt : ∀ i ∈ τ, i < n := fun i hi => by have := Nat.le_of_ble_eq_true (h2 i hi); omega
  refine ⟨?_, fun i => ⟨hlt i, h3 i⟩⟩
  -- as many as there are, and all of them: none twice
  have key : ∀ (k : Nat) (l : List Nat), l.length = k → (∀ i, i < k → i ∈ l) → l.Nodup := by
    intro k
    induction k with
    | zero => intro l hl _; have := List.eq_nil_of_length_eq_zero hl; subst this; exact List.nodup_nil
    | succ k ih =>
      intro l hl hall
      -- take out the last number
      have hk : k ∈ l := hall k (by omega)
      have hperm : l.Perm (k :: l.erase k) := List.perm_cons_erase hk
      have hlen : (l.erase k).length = k := by rw [List.length_erase_of_mem hk]; omega
      have hn := ih (l.erase k) hlen fun i hi => (List.mem_erase_of_ne (by omega)).2 (hall i (by omega))
      refine hperm.nodup_iff.2 (List.nodup_cons.2 ⟨fun hmem => ?_, hn⟩)
      -- k more than once: then k + 1 numbers among k places
      have hsub : ∀ x ∈ List.range (k + 1), x ∈ l.erase k := by
        intro x hx
        have hx := List.mem_range.1 hx
        by_cases hxk : x = k
        · subst hxk; exact hmem
        · exact (List.mem_erase_of_ne hxk).2 (hall x (by omega))
      have cnt : ∀ (l acc : List Nat), l.Nodup → (∀ x ∈ l, x ∈ acc) → l.length ≤ acc.length := by
        intro l
        induction l with
        | nil => intro acc _ _; simp
        | cons x l ih =>
          intro acc hn hs
          have hn := List.nodup_cons.1 hn
          have h5 := ih (acc.erase x) hn.2 (fun y hy => by
            have hyx : y ≠ x := by rintro rfl; exact hn.1 hy
            exact (List.mem_erase_of_ne hyx).2 (hs y (by simp [hy])))
          have h6 : x ∈ acc := hs x (by simp)
          rw [List.length_erase_of_mem h6] at h5
          have : 0 < acc.length := List.length_pos_of_mem h6
          simp; omega
      have := cnt _ _ List.nodup_range hsub
      simp [hlen] at this
      omega
  exact key n τ h1 h3

theorem execX_succ (k : Nat) (B : List Nat) (x : AC) (fr : FL) (m : EM) : execX T N (k + 1) B x fr m = (match x with
    | .skip => some (.normal, fr, m)
    | .region ops => runX T N (execX T N k) B ops fr m
    | .draw ops edges => bif staticOk ops edges then drawX T N (execX T N k) B ops (ancs [] edges) (orderOf ops edges) [] fr m else none
    | .seq a b => (match execX T N k B a fr m with
      | some (.normal, fr', m') => execX T N k B b fr' m'
      | r => r)
    | .cond c a b => (match evL fr c with
      | .bool true => execX T N k B a fr m
      | .bool false => execX T N k B b fr m
      | _ => none)
    | .block id a => (match execX T N k B a fr m with
      | some (.exit id', fr', m') => if id' = id then some (.normal, fr', m') else some (.exit id', fr', m')
      | r => r)
    | .loop a => (match execX T N k B a fr m with
      | some (.normal, fr', m') => execX T N k B (.loop a) fr' m'
      | r => r)
    | .exit id => some (.exit id, fr, m)
    | .ret => some (.ret, fr, m)
    | .bad => none) := rfl

theorem wpA_mono {C : CallP} {B : Nat → Prop} {x : AC} : True := trivial

theorem execX_ok (hE : Env ng P T N) : ∀ k, RecOk ng P (execX T N k) := by
  intro k
  induction k using Nat.strongRecOn with
  | _ k IH =>
    intro B x fr m e fr' m' Q h hq
    cases k with
    | zero => simp [execX] at h
    | succ k =>
      have ih := IH k (by omega)
      rw [execX_succ] at h
      cases x with
      | skip =>
        simp only [Option.some.injEq, Prod.mk.injEq] at h; obtain ⟨rfl, rfl, rfl⟩ := h
        exact hq
      | exit id =>
        simp only [Option.some.injEq, Prod.mk.injEq] at h; obtain ⟨rfl, rfl, rfl⟩ := h
        exact hq
      | ret =>
        simp only [Option.some.injEq, Prod.mk.injEq] at h; obtain ⟨rfl, rfl, rfl⟩ := h
        exact hq
      | bad => simp at h
      | region ops => exact runX_ok hE ih h hq
      | draw ops edges =>
        simp only at h
        cases hs : staticOk ops edges with
        | false => rw [hs] at h; simp at h
        | true =>
          rw [hs] at h
          simp only [cond_true] at h
          simp only [staticOk, Bool.and_eq_true] at hs
          obtain ⟨⟨h1, h2⟩, h3⟩ := hs
          obtain ⟨h4, h5⟩ := permOk_ok h2
          exact wpA_draw (ACalls.law ng P) usesOf (rdAt ops) (orderOf ops edges) (Nat.eq_of_beq_eq_true h1) h4 h5 (drawX_ok hE ih h h3 hq)
      | seq a b =>
        simp only at h
        split at h
        · rename_i fr1 m1 hx
          exact ih B a fr m _ _ _ (Post.then (wpA (ACalls ng P) (· ∈ B) b Q) Q) hx (ih B b fr1 m1 _ _ _ Q h hq)
        · rename_i r hne
          refine ih B a fr m _ _ _ (Post.then (wpA (ACalls ng P) (· ∈ B) b Q) Q) h ?_
          cases e with
          | normal => exact absurd h (hne _ _)
          | exit id => exact hq
          | ret => exact hq
          | pan c => exact hq
      | cond c a b =>
        simp only at h
        simp only [wpA, evL_eq]
        split at h
        · rename_i hc
          rw [hc]
          exact ⟨fun _ => ih B a fr m _ _ _ Q h hq, fun h => by simp at h⟩
        · rename_i hc
          rw [hc]
          exact ⟨fun h => by simp at h, fun _ => ih B b fr m _ _ _ Q h hq⟩
        · simp at h
      | block id a =>
        simp only at h
        split at h
        · rename_i id' fr1 m1 hx
          refine ih B a fr m _ _ _ (Post.inBlock id Q) hx ?_
          simp only [postX, Post.inBlock]
          split at h
          · rename_i he
            rw [if_pos he]
            simp only [Option.some.injEq, Prod.mk.injEq] at h; obtain ⟨rfl, rfl, rfl⟩ := h
            exact hq
          · rename_i he
            rw [if_neg he]
            simp only [Option.some.injEq, Prod.mk.injEq] at h; obtain ⟨rfl, rfl, rfl⟩ := h
            exact hq
        · rename_i r hne
          refine ih B a fr m _ _ _ (Post.inBlock id Q) h ?_
          cases e with
          | exit id' => exact absurd h (hne _ _ _)
          | normal => exact hq
          | ret => exact hq
          | pan c => exact hq
      | loop a =>
        refine ⟨fun j fr0 m0 => j ≤ k + 1 ∧ ∃ fl em, fr0 = frT fl ∧ m0 = em.mem ∧ execX T N j B (.loop a) fl em = some (e, fr', m'), ⟨k + 1, Nat.le_refl _, fr, m, rfl, rfl, by rw [execX_succ]; exact h⟩, ?_⟩
        rintro j fr0 m0 ⟨hj, fl, em, rfl, rfl, hx⟩
        cases j with
        | zero => simp [execX] at hx
        | succ j =>
          rw [execX_succ] at hx
          simp only at hx
          have ihj := IH j (by omega)
          split at hx
          · rename_i fr1 m1 hx1
            exact ihj B a fl em _ _ _ (Post.then _ Q) hx1 ⟨j, by omega, by omega, fr1, m1, rfl, rfl, hx⟩
          · rename_i r hne
            refine ihj B a fl em _ _ _ (Post.then _ Q) hx ?_
            cases e with
            | normal => exact absurd hx (hne _ _)
            | exit id => exact hq
            | ret => exact hq
            | pan c => exact hq

/-- A closed call, run. -/
theorem run_calls (hE : Env ng P T N) (k : Nat) {f : Nat} {args : List AV} {m m' : EM} {r : ARet} (h : callX T N (execX T N k) [] f args m = some (r, m')) : ACalls ng P (· ∈ []) f args m.mem fun r' mm => r' = r ∧ mm = m'.mem :=
  callX_ok hE (execX_ok hE k) h ⟨rfl, rfl⟩

end
end Go.X

/- Regions whose order is drawn: one order is run; where each operation that only reads stands as early as may be, and what it reads is left alone by those that may come ahead of it, all orders come to the same. -/
import Derived.Test.YtnieadkafeohlaaGreatDoorGoxFn
set_option linter.unusedVariables false
set_option linter.unusedSimpArgs false
namespace Go.X

/-- A call that leaves more alone may be told to leave less alone. -/
def CallLaw (C : CallP) : Prop := ∀ (B1 B2 : Nat → Prop) (f : FuncId) (args : List AV) (m : Mem) (Q Q' : ARet → Mem → Prop), (∀ o, B2 o → B1 o) → (∀ o, B1 o → B2 o ∨ m o ≠ none) →
  C B1 f args m Q → (∀ r m', (∀ o, B1 o → m' o = m o) → Q r m' → Q' r m') → C B2 f args m Q'

theorem ACalls.law (ng : Glob) (P : Program) : CallLaw (ACalls ng P) := by
  intro B1 B2 f args m Q Q' h1 h2 h hq
  refine ⟨h.1, fun κ w vs hw hv hB => (h.2 κ w vs hw hv ?_).mono fun e w' he => ?_⟩
  · intro o ho
    rcases h2 o ho with h3 | h3
    · exact hB o h3
    · exact h3
  · cases e with
    | returned v =>
      obtain ⟨κ', m', av, a, b, c, d, q⟩ := he
      exact ⟨κ', m', av, a, b, c, fun o ho => d o (h1 o ho), hq _ _ d q⟩
    | panicked c =>
      obtain ⟨κ', m', a, b, d, q⟩ := he
      exact ⟨κ', m', a, b, fun o ho => d o (h1 o ho), hq _ _ d q⟩
    | outgrown => exact he

def stepV (C : CallP) (B : Nat → Prop) (o : AO) (fr : Fr) (m : Mem) (K : AV → Mem → Prop) (E : List PanicEntry → Mem → Prop) : Prop :=
  match o.guard with
  | none => stepI C B o.op fr m K E
  | some (j, want) => match gOf (fr j) want with
    | some true => stepI C B o.op fr m K E
    | some false => K (.tup []) m
    | none => False

theorem stepO_eq (C : CallP) (B : Nat → Prop) (o : AO) (fr : Fr) (m : Mem) (K : Fr → Mem → Prop) (E : List PanicEntry → Mem → Prop) :
    stepO C B o fr m K E = stepV C B o fr m (fun v m' => K (putF fr o.dst v) m') E := by
  unfold stepO stepV
  cases o.guard with
  | none => rfl
  | some jw =>
    obtain ⟨j, want⟩ := jw
    rfl

section
variable (C : CallP) (B : Nat → Prop) (E : List PanicEntry → Mem → Prop) (uses : AO → List Nat)

/-- Frames that are alike, as far as an operation reads them. -/
def Same (o : AO) (fr' fr : Fr) : Prop := ∀ k ∈ uses o, fr' k = fr k

/-- An operation that only reads: what it comes to, and which objects it reads. -/
def Reads (o : AO) (fr : Fr) (m : Mem) (v : AV) (S : List Nat) : Prop :=
  (∀ s ∈ S, m s ≠ none) ∧ ∀ fr' m', (∀ s ∈ S, m' s = m s) → Same uses o fr' fr → ∀ Z, Z v m' → stepV C B o fr' m' Z E

/-- One operation, which leaves some objects alone. -/
def stepP (S : List Nat) (o : AO) (fr : Fr) (m : Mem) (K : AV → Mem → Prop) : Prop :=
  (∀ s ∈ S, m s ≠ none) ∧ (
    (∃ v m', (∀ fr', Same uses o fr' fr → ∀ Z, Z v m' → stepV C B o fr' m Z E) ∧ (∀ s ∈ S, m' s = m s) ∧ K v m') ∨
    (∃ f args, (∀ fr', Same uses o fr' fr → ∀ Z, C B f args m (back Z E) → stepV C B o fr' m Z E) ∧ C (fun x => B x ∨ x ∈ S) f args m (back K E)))

/-- An operation that leaves the memory. -/
def stepR (o : AO) (fr : Fr) (m : Mem) (v : AV) : Prop := ∀ fr', Same uses o fr' fr → ∀ Z, Z v m → stepV C B o fr' m Z E

def runP (rd : Nat → Bool) (ops : List AO) (prot : Nat → List Nat) (K : Fr → Mem → Prop) : List Nat → Fr → Mem → Prop
  | [], fr, m => K fr m
  | i :: σ, fr, m => ∃ o, ops[i]? = some o ∧ if rd i = true then ∃ v, stepR C B E uses o fr m v ∧ runP rd ops prot K σ (putF fr o.dst v) m
      else stepP C B E uses (prot i) o fr m fun v m' => runP rd ops prot K σ (putF fr o.dst v) m'

variable {C B E uses}

theorem stepP.imp (hC : CallLaw C) {S S' : List Nat} {o : AO} {fr fr' : Fr} {m : Mem} {K K' : AV → Mem → Prop} (hfr : Same uses o fr' fr) (hs : ∀ s ∈ S', s ∈ S) (h : stepP C B E uses S o fr m K)
    (hk : ∀ v m', (∀ s ∈ S, m' s = m s) → K v m' → K' v m') : stepP C B E uses S' o fr' m K' := by
  obtain ⟨h0, h⟩ := h
  refine ⟨fun s hs' => h0 s (hs s hs'), ?_⟩
  rcases h with ⟨v, m', h1, h2, h3⟩ | ⟨f, args, h1, h2⟩
  · exact Or.inl ⟨v, m', fun fr2 h4 => h1 fr2 fun k hkk => (h4 k hkk).trans (hfr k hkk), fun s hs' => h2 s (hs s hs'), hk v m' h2 h3⟩
  · refine Or.inr ⟨f, args, fun fr2 h4 => h1 fr2 fun k hkk => (h4 k hkk).trans (hfr k hkk), ?_⟩
    refine hC _ _ _ _ _ _ _ ?_ ?_ h2 ?_
    · rintro o (ho | ho)
      · exact Or.inl ho
      · exact Or.inr (hs o ho)
    · rintro o (ho | ho)
      · exact Or.inl (Or.inl ho)
      · exact Or.inr (h0 o ho)
    · intro r m' ha hb
      cases r with
      | ret v => exact hk v m' (fun s hs' => ha s (Or.inr hs')) hb
      | pan c => exact hb

theorem stepP.step (hC : CallLaw C) {S : List Nat} {o : AO} {fr : Fr} {m : Mem} {K : AV → Mem → Prop} (h : stepP C B E uses S o fr m K) : stepV C B o fr m K E := by
  obtain ⟨h0, h⟩ := h
  rcases h with ⟨v, m', h1, h2, h3⟩ | ⟨f, args, h1, h2⟩
  · exact h1 fr (fun _ _ => rfl) K h3
  · refine h1 fr (fun _ _ => rfl) K (hC _ _ _ _ _ _ _ (fun o ho => Or.inl ho) ?_ h2 fun r m' _ hq => hq)
    rintro o (ho | ho)
    · exact Or.inl ho
    · exact Or.inr (h0 o ho)

theorem runP.weaken (hC : CallLaw C) {rd : Nat → Bool} {ops : List AO} {prot prot' : Nat → List Nat} {K : Fr → Mem → Prop} (hp : ∀ y, ∀ s ∈ prot y, s ∈ prot' y) : ∀ (σ : List Nat) (fr : Fr) (m : Mem), runP C B E uses rd ops prot' K σ fr m → runP C B E uses rd ops prot K σ fr m
  | [], fr, m, h => h
  | i :: σ, fr, m, ⟨o, ho, h⟩ => by
    refine ⟨o, ho, ?_⟩
    split at h
    · rename_i hr
      rw [if_pos hr]
      obtain ⟨v, h1, h2⟩ := h
      exact ⟨v, h1, runP.weaken hC hp σ _ _ h2⟩
    · rename_i hr
      rw [if_neg hr]
      exact h.imp hC (fun _ _ => rfl) (hp i) fun v m' _ hk => runP.weaken hC hp σ _ _ hk

theorem runP.runA (hC : CallLaw C) {rd : Nat → Bool} {ops : List AO} {prot : Nat → List Nat} {K : Fr → Mem → Prop} : ∀ (σ : List Nat) (fr : Fr) (m : Mem), runP C B E uses rd ops prot K σ fr m → X.runA C B E (σ.filterMap (ops[·]?)) K fr m
  | [], fr, m, h => h
  | i :: σ, fr, m, ⟨o, ho, h⟩ => by
    simp only [List.filterMap_cons, ho, X.runA]
    rw [stepO_eq]
    split at h
    · obtain ⟨v, h1, h2⟩ := h
      exact h1 fr (fun _ _ => rfl) _ (runP.runA hC σ _ _ h2)
    · exact (h.imp hC (fun _ _ => rfl) (fun _ h => h) fun v m' _ hk => runP.runA hC σ _ _ hk).step hC

/-- Two operations that don't touch one another's temporaries. -/
def sepAO (uses : AO → List Nat) (a b : AO) : Prop :=
  (∀ d, a.dst = some d → d ∉ uses b) ∧ (∀ d, b.dst = some d → d ∉ uses a) ∧ ∀ d, a.dst = some d → b.dst ≠ some d

theorem same_put {o : AO} {fr : Fr} {dst : Option Nat} {v : AV} (h : ∀ d, dst = some d → d ∉ uses o) : Same uses o (putF fr dst v) fr := by
  intro k hk
  cases dst with
  | none => rfl
  | some d =>
    simp only [putF, upd]
    rw [if_neg]
    rintro rfl
    exact h k rfl hk

theorem put_comm {fr : Fr} {a b : Option Nat} {v u : AV} (h : ∀ d, a = some d → b ≠ some d) : putF (putF fr a v) b u = putF (putF fr b u) a v := by
  cases a with
  | none => rfl
  | some d =>
    cases b with
    | none => rfl
    | some e =>
      have hde : d ≠ e := by rintro rfl; exact h d rfl rfl
      funext k
      simp only [putF, upd]
      by_cases h1 : k = d
      · subst h1; simp [hde]
      · simp only [h1, if_false]

theorem Reads.move {o : AO} {fr fr' : Fr} {m m' : Mem} {v : AV} {S : List Nat} (h : Reads C B E uses o fr m v S) (hm : ∀ s ∈ S, m' s = m s) (hf : Same uses o fr' fr) : Reads C B E uses o fr' m' v S :=
  ⟨fun s hs => by rw [hm s hs]; exact h.1 s hs, fun fr2 m2 h1 h2 Z hz => h.2 fr2 m2 (fun s hs => (h1 s hs).trans (hm s hs)) (fun k hk => (h2 k hk).trans (hf k hk)) Z hz⟩

theorem Same.symm {o : AO} {fr fr' : Fr} (h : Same uses o fr' fr) : Same uses o fr fr' := fun k hk => (h k hk).symm
theorem Same.trans {o : AO} {a b c : Fr} (h : Same uses o a b) (h' : Same uses o b c) : Same uses o a c := fun k hk => (h k hk).trans (h' k hk)

/-- A reading comes later. -/
theorem runP.later (hC : CallLaw C) {rd : Nat → Bool} {ops : List AO} {prot prot' : Nat → List Nat} {K : Fr → Mem → Prop} (hp : ∀ y, ∀ s ∈ prot y, s ∈ prot' y) {x : Nat} {ox : AO} (hox : ops[x]? = some ox) (hrx : rd x = true) {S : List Nat} {v : AV} :
    ∀ (α β : List Nat) (fr : Fr) (m : Mem), Reads C B E uses ox fr m v S → (∀ y ∈ α, (rd y = false → ∀ s ∈ S, s ∈ prot' y) ∧ ∀ oy, ops[y]? = some oy → sepAO uses ox oy) →
      runP C B E uses rd ops prot' K (α ++ β) (putF fr ox.dst v) m → runP C B E uses rd ops prot K (α ++ x :: β) fr m
  | [], β, fr, m, hr, hα, h => ⟨ox, hox, by rw [if_pos hrx]; exact ⟨v, fun fr' hf Z hz => hr.2 fr' m (fun _ _ => rfl) hf Z hz, h.weaken hC hp⟩⟩
  | y :: α, β, fr, m, hr, hα, h => by
    obtain ⟨oy, hoy, h⟩ := h
    obtain ⟨h1, h3⟩ := hα y (by simp)
    obtain ⟨s1, s2, s3⟩ := h3 oy hoy
    refine ⟨oy, hoy, ?_⟩
    split at h
    · rename_i hry
      rw [if_pos hry]
      obtain ⟨u, hu, hk⟩ := h
      refine ⟨u, fun fr' hf Z hz => hu fr' (hf.trans (same_put s1).symm) Z hz, ?_⟩
      refine runP.later hC hp hox hrx α β _ m (hr.move (fun _ _ => rfl) (same_put s2)) (fun z hz => hα z (by simp [hz])) ?_
      rw [put_comm (fun d hb ha => s3 d ha hb)]
      exact hk
    · rename_i hry
      rw [if_neg hry]
      refine h.imp hC ((same_put s1).symm) (hp y) fun u m' ha hk => ?_
      refine runP.later hC hp hox hrx α β _ m' (hr.move (fun s hs => ha s (h1 (by simpa using hry) s hs)) (same_put s2)) (fun z hz => hα z (by simp [hz])) ?_
      rw [put_comm (fun d hb ha => s3 d ha hb)]
      exact hk

/-! ### The order that is run -/
variable (C B E uses)

/-- What those that come behind have to leave alone. -/
def protOf (anc : Nat → List Nat) (pend : List (Nat × List Nat)) (y : Nat) : List Nat := pend.flatMap fun p => if (anc y).contains p.1 then [] else p.2

def canonP (rd : Nat → Bool) (anc : Nat → List Nat) (ops : List AO) (K : Fr → Mem → Prop) : List Nat → List (Nat × List Nat) → Fr → Mem → Prop
  | [], _, fr, m => K fr m
  | i :: τ, pend, fr, m => ∃ o, ops[i]? = some o ∧ if rd i = true then
        (∀ j ∈ τ, i ∈ anc j ∨ ∀ oj, ops[j]? = some oj → sepAO uses o oj) ∧ ∃ v S, Reads C B E uses o fr m v S ∧ canonP rd anc ops K τ ((i, S) :: pend) (putF fr o.dst v) m
      else (∀ j ∈ τ, i ∈ anc j) ∧ stepP C B E uses (protOf anc pend i) o fr m fun v m' => canonP rd anc ops K τ pend (putF fr o.dst v) m'

variable {C B E uses}

/-- None comes behind one that has to come behind it. -/
def Ordered (anc : Nat → List Nat) (σ : List Nat) : Prop := ∀ (a : List Nat) (y : Nat) (b : List Nat), σ = a ++ y :: b → ∀ x ∈ b, x ∉ anc y

theorem Ordered.drop {anc : Nat → List Nat} {α β : List Nat} {x : Nat} (h : Ordered anc (α ++ x :: β)) : Ordered anc (α ++ β) := by
  intro a y b he z hz
  rcases List.append_eq_append_iff.1 he with ⟨c, h1, h2⟩ | ⟨c, h1, h2⟩
  · -- a = α ++ c, β = c ++ y :: b
    refine h (α ++ x :: c) y b (by rw [h2]; simp) z hz
  · -- α = a ++ c, y :: b = c ++ β
    cases c with
    | nil =>
      simp at h1 h2
      subst h1
      refine h (α ++ [x]) y b (by rw [← h2]; simp) z hz
    | cons c0 c =>
      simp at h2
      obtain ⟨rfl, rfl⟩ := h2
      refine h a y (c ++ x :: β) (by rw [h1]; simp) z ?_
      rcases List.mem_append.1 hz with hz | hz
      · exact List.mem_append.2 (Or.inl hz)
      · exact List.mem_append.2 (Or.inr (List.mem_cons_of_mem _ hz))

theorem canon_all (hC : CallLaw C) {rd : Nat → Bool} {anc : Nat → List Nat} {ops : List AO} {K : Fr → Mem → Prop} : ∀ (τ σ : List Nat) (pend : List (Nat × List Nat)) (fr : Fr) (m : Mem), τ.Nodup → σ.Nodup → (∀ i, i ∈ σ ↔ i ∈ τ) → Ordered anc σ →
    canonP C B E uses rd anc ops K τ pend fr m → runP C B E uses rd ops (protOf anc pend) K σ fr m
  | [], σ, pend, fr, m, hτ, hσ, hm, ho, h => by
    have : σ = [] := by
      cases σ with
      | nil => rfl
      | cons a l => exact absurd ((hm a).1 (by simp)) (by simp)
    subst this
    exact h
  | x :: τ, σ, pend, fr, m, hτ, hσ, hm, ho, h => by
    obtain ⟨ox, hox, h⟩ := h
    obtain ⟨α, β, rfl⟩ := List.append_of_mem ((hm x).2 (by simp))
    have hτ' := List.nodup_cons.1 hτ
    have hσ' : (α ++ β).Nodup ∧ x ∉ α ++ β := by
      have h1 : (x :: (α ++ β)).Nodup := (List.perm_middle.nodup_iff).1 hσ
      exact ⟨(List.nodup_cons.1 h1).2, (List.nodup_cons.1 h1).1⟩
    have hmem : ∀ i, i ∈ α ++ β ↔ i ∈ τ := by
      intro i
      constructor
      · intro hi
        have h2 : i ∈ x :: τ := (hm i).1 (by
          rcases List.mem_append.1 hi with h | h
          · exact List.mem_append.2 (Or.inl h)
          · exact List.mem_append.2 (Or.inr (List.mem_cons_of_mem _ h)))
        rcases List.mem_cons.1 h2 with rfl | h2
        · exact absurd hi hσ'.2
        · exact h2
      · intro hi
        have h2 := (hm i).2 (List.mem_cons_of_mem _ hi)
        have hne : i ≠ x := by rintro rfl; exact hτ'.1 hi
        rcases List.mem_append.1 h2 with h | h
        · exact List.mem_append.2 (Or.inl h)
        · rcases List.mem_cons.1 h with h | h
          · exact absurd h hne
          · exact List.mem_append.2 (Or.inr h)
    have hfront : ∀ y ∈ α, x ∉ anc y := by
      intro y hy
      obtain ⟨a, b, rfl⟩ := List.append_of_mem hy
      exact ho a y (b ++ x :: β) (by simp) x (by simp)
    split at h
    · rename_i hrx
      obtain ⟨hsep, v, S, hr, hk⟩ := h
      have ih := canon_all hC τ (α ++ β) _ _ _ hτ'.2 hσ'.1 hmem ho.drop hk
      refine runP.later hC (prot := protOf anc pend) (prot' := protOf anc ((x, S) :: pend)) ?_ hox hrx α β fr m hr ?_ ih
      · intro y s hs
        simp only [protOf, List.flatMap_cons, List.mem_append]
        exact Or.inr hs
      · intro y hy
        have hny := hfront y hy
        refine ⟨fun _ s hs => ?_, fun oy hoy => ?_⟩
        · simp only [protOf, List.flatMap_cons, List.mem_append]
          left
          rw [if_neg (by simpa using hny)]; exact hs
        · rcases hsep y ((hmem y).1 (List.mem_append.2 (Or.inl hy))) with h | h
          · exact absurd h hny
          · exact h oy hoy
    · rename_i hrx
      obtain ⟨hall, hk⟩ := h
      have hα : α = [] := by
        cases α with
        | nil => rfl
        | cons y α => exact absurd (hall y ((hmem y).1 (by simp))) (hfront y (by simp))
      subst hα
      refine ⟨ox, hox, ?_⟩
      rw [if_neg hrx]
      refine hk.imp hC (fun _ _ => rfl) (fun _ h => h) fun v m' _ hk => ?_
      exact canon_all hC τ β pend _ _ hτ'.2 (by simpa using hσ'.1) (by simpa using hmem) (by simpa using ho.drop) hk

end
end Go.X

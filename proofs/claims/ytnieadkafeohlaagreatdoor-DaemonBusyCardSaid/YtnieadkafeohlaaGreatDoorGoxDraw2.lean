/- Who comes ahead of whom; a drawn region by one order. -/
import Derived.Test.YtnieadkafeohlaaGreatDoorGoxDraw
set_option linter.unusedVariables false
set_option linter.unusedSimpArgs false
namespace Go.X

inductive Anc (edges : List (List Nat)) (x : Nat) : Nat → Prop
  | edge (i : Nat) : x ∈ edges.getD i [] → Anc edges x i
  | step (e i : Nat) : e ∈ edges.getD i [] → Anc edges x e → Anc edges x i

theorem Anc.before {edges : List (List Nat)} {σ : List Nat} (hT : Topo edges σ) {x i : Nat} (h : Anc edges x i) : ∀ (a b : List Nat), σ = a ++ i :: b → x ∈ a := by
  induction h with
  | edge i h => exact fun a b he => hT.2.2 a i b he x h
  | step e i he _ ih =>
    intro a b hs
    have hea := hT.2.2 a i b hs e he
    obtain ⟨a1, a2, rfl⟩ := List.append_of_mem hea
    have := ih a1 (a2 ++ i :: b) (by rw [hs]; simp)
    exact List.mem_append.2 (Or.inl this)

/-- All that come ahead of each. -/
def ancs : List (List Nat) → List (List Nat) → List (List Nat)
  | acc, [] => acc
  | acc, es :: rest => ancs (acc ++ [es ++ es.flatMap fun e => acc.getD e []]) rest

theorem ancs_ok {edges : List (List Nat)} : ∀ (rest acc pre : List (List Nat)), edges = pre ++ rest → acc.length = pre.length → (∀ i x, x ∈ acc.getD i [] → Anc edges x i) → ∀ i x, x ∈ (ancs acc rest).getD i [] → Anc edges x i
  | [], acc, pre, he, hl, h => h
  | es :: rest, acc, pre, he, hl, h => by
    refine ancs_ok rest _ (pre ++ [es]) (by simp [he]) (by simp [hl]) ?_
    intro i x hx
    rw [List.getD_eq_getElem?_getD] at hx
    by_cases hi : i < acc.length
    · rw [List.getElem?_append_left hi, ← List.getD_eq_getElem?_getD] at hx
      exact h i x hx
    · by_cases hi2 : i = acc.length
      · subst hi2
        simp only [List.getElem?_concat_length, Option.getD_some, List.mem_append, List.mem_flatMap] at hx
        have hes : edges.getD acc.length [] = es := by
          rw [List.getD_eq_getElem?_getD, he, hl]; simp
        rcases hx with hx | ⟨e, he1, hx⟩
        · exact .edge _ (by rw [hes]; exact hx)
        · exact .step e _ (by rw [hes]; exact he1) (h e x hx)
      · rw [List.getElem?_eq_none (by simp; omega)] at hx
        simp at hx

theorem ordered_topo {edges : List (List Nat)} {σ : List Nat} (hT : Topo edges σ) : Ordered (fun i => (ancs [] edges).getD i []) σ := by
  intro a y b he x hx hxa
  have h1 := ancs_ok edges [] [] rfl rfl (fun i x h => by simp at h) y x hxa
  have h2 := h1.before hT a b he
  -- twice in an order without doubles
  have hnd := hT.1
  rw [he] at hnd
  have h3 := (List.nodup_append.1 hnd).2.2 x h2 x (List.mem_cons_of_mem _ hx)
  exact h3 rfl

section
variable {C : CallP} {B : Nat → Prop} {uses : AO → List Nat}

/-- A drawn region, by one order of its operations. -/
theorem wpA_draw (hC : CallLaw C) (uses : AO → List Nat) {ops : List AO} {edges : List (List Nat)} {Q : Post} {fr : Fr} {m : Mem} (rd : Nat → Bool) (τ : List Nat) (hl : ops.length = edges.length) (hn : τ.Nodup) (hm : ∀ i, i ∈ τ ↔ i < edges.length)
    (h : canonP C B (fun c m => Q (.pan c) (fun _ => .junk) m) uses rd (fun i => (ancs [] edges).getD i []) ops (Q .normal) τ [] fr m) : wpA C B (.draw ops edges) Q fr m := by
  refine ⟨hl, fun σ hσ => ?_⟩
  have := canon_all hC τ σ [] fr m hn hσ.1 (fun i => by rw [hσ.2.1, hm]) (ordered_topo hσ) h
  exact this.runA hC σ fr m
end
end Go.X

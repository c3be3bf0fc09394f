/- The abstract machine, run: operations on a memory that is a tree. -/
import Derived.Test.YtnieadkafeohlaaGreatDoorGoxFn
set_option linter.unusedVariables false
set_option linter.unusedSimpArgs false
namespace Go.X

inductive Tr where
  | leaf
  | node (v : Option AObj) (l r : Tr)

/- By the recursors themselves: the kernel runs these fastest. -/
noncomputable def Tr.get (t : Tr) : Nat → Option AObj :=
  Tr.rec (motive := fun _ => Nat → Option AObj) (fun _ => none) (fun v _ _ gl gr i => bif Nat.beq i 0 then v else bif Nat.beq (i % 2) 1 then gl (i / 2) else gr (i / 2 - 1)) t
theorem Tr.get_leaf (i : Nat) : Tr.leaf.get i = none := rfl
theorem Tr.get_node (v : Option AObj) (l r : Tr) (i : Nat) : (Tr.node v l r).get i = bif Nat.beq i 0 then v else bif Nat.beq (i % 2) 1 then l.get (i / 2) else r.get (i / 2 - 1) := rfl

def Tr.putL (v : Option AObj) (r : Tr) : Option Tr → Option Tr
  | some l => some (.node v l r)
  | none => none
def Tr.putR (v : Option AObj) (l : Tr) : Option Tr → Option Tr
  | some r => some (.node v l r)
  | none => none
noncomputable def Tr.put (x : Option AObj) (k : Nat) : Tr → Nat → Option Tr :=
  Nat.rec (motive := fun _ => Tr → Nat → Option Tr) (fun _ _ => none) (fun _ ih t =>
    Tr.rec (motive := fun _ => Nat → Option Tr) (fun i => bif Nat.beq i 0 then some (.node x .leaf .leaf)
        else bif Nat.beq (i % 2) 1 then Tr.putL none .leaf (ih .leaf (i / 2)) else Tr.putR none .leaf (ih .leaf (i / 2 - 1)))
      (fun v l r _ _ i => bif Nat.beq i 0 then some (.node x l r)
        else bif Nat.beq (i % 2) 1 then Tr.putL v r (ih l (i / 2)) else Tr.putR v l (ih r (i / 2 - 1))) t) k
theorem Tr.put_zero (x : Option AObj) (t : Tr) (i : Nat) : Tr.put x 0 t i = none := rfl
theorem Tr.put_leaf (x : Option AObj) (k i : Nat) : Tr.put x (k + 1) .leaf i = bif Nat.beq i 0 then some (.node x .leaf .leaf)
      else bif Nat.beq (i % 2) 1 then (match Tr.put x k .leaf (i / 2) with | some l => some (.node none l .leaf) | none => none)
      else (match Tr.put x k .leaf (i / 2 - 1) with | some r => some (.node none .leaf r) | none => none) := rfl
theorem Tr.put_node (x : Option AObj) (k i : Nat) (v : Option AObj) (l r : Tr) : Tr.put x (k + 1) (.node v l r) i = bif Nat.beq i 0 then some (.node x l r)
      else bif Nat.beq (i % 2) 1 then (match Tr.put x k l (i / 2) with | some l => some (.node v l r) | none => none)
      else (match Tr.put x k r (i / 2 - 1) with | some r => some (.node v l r) | none => none) := rfl

theorem Tr.get_put {x : Option AObj} : ∀ {k : Nat} {t t' : Tr} {i : Nat}, Tr.put x k t i = some t' → ∀ j, t'.get j = if j = i then x else t.get j
  | 0, t, t', i, h, j => by simp [Tr.put_zero] at h
  | k + 1, .leaf, t', i, h, j => by
    rw [Tr.put_leaf] at h
    cases h0 : Nat.beq i 0 with
    | true =>
      rw [h0] at h; simp at h; subst h
      have := Nat.eq_of_beq_eq_true h0; subst this
      simp only [Tr.get_leaf, Tr.get_node]
      cases hj : Nat.beq j 0 with
      | true => have := Nat.eq_of_beq_eq_true hj; subst this; simp
      | false =>
        have : j ≠ 0 := Nat.ne_of_beq_eq_false hj
        simp [this]
    | false =>
      rw [h0] at h; simp only [cond_false] at h
      have hi := Nat.ne_of_beq_eq_false h0
      cases h1 : Nat.beq (i % 2) 1 with
      | true =>
        rw [h1] at h; simp only [cond_true] at h
        split at h
        · rename_i l hl
          simp at h; subst h
          have ih := Tr.get_put hl
          have hi1 := Nat.eq_of_beq_eq_true h1
          simp only [Tr.get_leaf, Tr.get_node]
          cases hj : Nat.beq j 0 with
          | true => have := Nat.eq_of_beq_eq_true hj; subst this; simp; omega
          | false =>
            have hj0 := Nat.ne_of_beq_eq_false hj
            cases hj1 : Nat.beq (j % 2) 1 with
            | true =>
              have hj1 := Nat.eq_of_beq_eq_true hj1
              simp only [cond_false, cond_true, ih, Tr.get_leaf, Tr.get_node]
              have : (j / 2 = i / 2) ↔ j = i := by omega
              simp [this]
            | false =>
              have hj1 := Nat.ne_of_beq_eq_false hj1
              have : j ≠ i := by omega
              simp [this]
        · simp at h
      | false =>
        rw [h1] at h; simp only [cond_false] at h
        split at h
        · rename_i r hr
          simp at h; subst h
          have ih := Tr.get_put hr
          have hi1 := Nat.ne_of_beq_eq_false h1
          simp only [Tr.get_leaf, Tr.get_node]
          cases hj : Nat.beq j 0 with
          | true => have := Nat.eq_of_beq_eq_true hj; subst this; simp; omega
          | false =>
            have hj0 := Nat.ne_of_beq_eq_false hj
            cases hj1 : Nat.beq (j % 2) 1 with
            | true =>
              have hj1 := Nat.eq_of_beq_eq_true hj1
              have : j ≠ i := by omega
              simp [this]
            | false =>
              have hj1 := Nat.ne_of_beq_eq_false hj1
              simp only [cond_false, ih, Tr.get_leaf, Tr.get_node]
              have : (j / 2 - 1 = i / 2 - 1) ↔ j = i := by omega
              simp [this]
        · simp at h
  | k + 1, .node v l r, t', i, h, j => by
    rw [Tr.put_node] at h
    cases h0 : Nat.beq i 0 with
    | true =>
      rw [h0] at h; simp at h; subst h
      have := Nat.eq_of_beq_eq_true h0; subst this
      simp only [Tr.get_leaf, Tr.get_node]
      cases hj : Nat.beq j 0 with
      | true => have := Nat.eq_of_beq_eq_true hj; subst this; simp
      | false =>
        have : j ≠ 0 := Nat.ne_of_beq_eq_false hj
        simp [this]
    | false =>
      rw [h0] at h; simp only [cond_false] at h
      have hi := Nat.ne_of_beq_eq_false h0
      cases h1 : Nat.beq (i % 2) 1 with
      | true =>
        rw [h1] at h; simp only [cond_true] at h
        split at h
        · rename_i l' hl
          simp at h; subst h
          have ih := Tr.get_put hl
          have hi1 := Nat.eq_of_beq_eq_true h1
          simp only [Tr.get_leaf, Tr.get_node]
          cases hj : Nat.beq j 0 with
          | true => have := Nat.eq_of_beq_eq_true hj; subst this; simp; omega
          | false =>
            have hj0 := Nat.ne_of_beq_eq_false hj
            cases hj1 : Nat.beq (j % 2) 1 with
            | true =>
              have hj1 := Nat.eq_of_beq_eq_true hj1
              simp only [cond_false, cond_true, ih]
              have : (j / 2 = i / 2) ↔ j = i := by omega
              simp [this]
            | false =>
              have hj1 := Nat.ne_of_beq_eq_false hj1
              have : j ≠ i := by omega
              simp [this]
        · simp at h
      | false =>
        rw [h1] at h; simp only [cond_false] at h
        split at h
        · rename_i r' hr
          simp at h; subst h
          have ih := Tr.get_put hr
          have hi1 := Nat.ne_of_beq_eq_false h1
          simp only [Tr.get_leaf, Tr.get_node]
          cases hj : Nat.beq j 0 with
          | true => have := Nat.eq_of_beq_eq_true hj; subst this; simp; omega
          | false =>
            have hj0 := Nat.ne_of_beq_eq_false hj
            cases hj1 : Nat.beq (j % 2) 1 with
            | true =>
              have hj1 := Nat.eq_of_beq_eq_true hj1
              have : j ≠ i := by omega
              simp [this]
            | false =>
              have hj1 := Nat.ne_of_beq_eq_false hj1
              simp only [cond_false, ih]
              have : (j / 2 - 1 = i / 2 - 1) ↔ j = i := by omega
              simp [this]
        · simp at h

structure EM where
  t : Tr
  nx : Nat

noncomputable def EM.mem (m : EM) : Mem := ⟨m.t.get, m.nx⟩
noncomputable def EM.at_ (m : EM) (o : Nat) : Option AObj := m.t.get o
noncomputable def EM.set (m : EM) (o : Nat) (x : AObj) : Option EM := match Tr.put (some x) 40 m.t o with
  | some t => some ⟨t, m.nx⟩
  | none => none
noncomputable def EM.del (m : EM) (o : Nat) : Option EM := match Tr.put none 40 m.t o with
  | some t => some ⟨t, m.nx⟩
  | none => none
noncomputable def EM.new (m : EM) (x : AObj) : Option EM := match Tr.put (some x) 40 m.t m.nx with
  | some t => some ⟨t, m.nx + 1⟩
  | none => none

theorem EM.set_mem {m m' : EM} {o : Nat} {x : AObj} (h : m.set o x = some m') : m'.mem = m.mem.set o x := by
  unfold EM.set at h
  split at h
  · rename_i t ht
    simp at h; subst h
    exact Mem.ext' (fun i => Tr.get_put ht i) rfl
  · simp at h
theorem EM.del_mem {m m' : EM} {o : Nat} (h : m.del o = some m') : m'.mem = m.mem.del o := by
  unfold EM.del at h
  split at h
  · rename_i t ht
    simp at h; subst h
    exact Mem.ext' (fun i => Tr.get_put ht i) rfl
  · simp at h
theorem EM.new_mem {m m' : EM} {x : AObj} (h : m.new x = some m') : m'.mem = m.mem.new x := by
  unfold EM.new at h
  split at h
  · rename_i t ht
    simp at h; subst h
    exact Mem.ext' (fun i => Tr.get_put ht i) rfl
  · simp at h

/-- A frame, as a tree. -/
inductive FL where
  | leaf
  | node (v : AV) (l r : FL)

noncomputable def FL.get (t : FL) : Nat → AV :=
  FL.rec (motive := fun _ => Nat → AV) (fun _ => .tup []) (fun v _ _ gl gr i => bif Nat.beq i 0 then v else bif Nat.beq (i % 2) 1 then gl (i / 2) else gr (i / 2 - 1)) t
theorem FL.get_leaf (i : Nat) : FL.leaf.get i = .tup [] := rfl
theorem FL.get_node (v : AV) (l r : FL) (i : Nat) : (FL.node v l r).get i = bif Nat.beq i 0 then v else bif Nat.beq (i % 2) 1 then l.get (i / 2) else r.get (i / 2 - 1) := rfl

noncomputable def FL.put (x : AV) (k : Nat) : FL → Nat → FL :=
  Nat.rec (motive := fun _ => FL → Nat → FL) (fun t _ => t) (fun _ ih t =>
    FL.rec (motive := fun _ => Nat → FL) (fun i => bif Nat.beq i 0 then .node x .leaf .leaf
        else bif Nat.beq (i % 2) 1 then .node (.tup []) (ih .leaf (i / 2)) .leaf else .node (.tup []) .leaf (ih .leaf (i / 2 - 1)))
      (fun v l r _ _ i => bif Nat.beq i 0 then .node x l r
        else bif Nat.beq (i % 2) 1 then .node v (ih l (i / 2)) r else .node v l (ih r (i / 2 - 1))) t) k
theorem FL.put_leaf (x : AV) (k i : Nat) : FL.put x (k + 1) .leaf i = bif Nat.beq i 0 then FL.node x .leaf .leaf
      else bif Nat.beq (i % 2) 1 then .node (.tup []) (FL.put x k .leaf (i / 2)) .leaf
      else .node (.tup []) .leaf (FL.put x k .leaf (i / 2 - 1)) := rfl
theorem FL.put_node (x : AV) (k i : Nat) (v : AV) (l r : FL) : FL.put x (k + 1) (.node v l r) i = bif Nat.beq i 0 then FL.node x l r
      else bif Nat.beq (i % 2) 1 then .node v (FL.put x k l (i / 2)) r
      else .node v l (FL.put x k r (i / 2 - 1)) := rfl

theorem FL.get_put {x : AV} : ∀ {k : Nat} {t : FL} {i : Nat}, i < k → ∀ j, (FL.put x k t i).get j = if j = i then x else t.get j
  | 0, t, i, h, j => by omega
  | k + 1, t, i, hk, j => by
    have key : ∀ (v : AV) (l r : FL), (bif Nat.beq i 0 then FL.node x l r else bif Nat.beq (i % 2) 1 then .node v (FL.put x k l (i / 2)) r else .node v l (FL.put x k r (i / 2 - 1))).get j = if j = i then x else (FL.node v l r).get j := by
      intro v l r
      cases h0 : Nat.beq i 0 with
      | true =>
        have := Nat.eq_of_beq_eq_true h0; subst this
        simp only [cond_true, FL.get_node, FL.get_leaf]
        cases hj : Nat.beq j 0 with
        | true => have := Nat.eq_of_beq_eq_true hj; subst this; simp
        | false =>
          have : j ≠ 0 := Nat.ne_of_beq_eq_false hj
          simp [this]
      | false =>
        simp only [cond_false]
        have hi := Nat.ne_of_beq_eq_false h0
        cases h1 : Nat.beq (i % 2) 1 with
        | true =>
          have ih := FL.get_put (x := x) (k := k) (t := l) (i := i / 2) (by omega)
          have hi1 := Nat.eq_of_beq_eq_true h1
          simp only [cond_true, FL.get_node, FL.get_leaf]
          cases hj : Nat.beq j 0 with
          | true => have := Nat.eq_of_beq_eq_true hj; subst this; simp; omega
          | false =>
            have hj0 := Nat.ne_of_beq_eq_false hj
            cases hj1 : Nat.beq (j % 2) 1 with
            | true =>
              have hj1 := Nat.eq_of_beq_eq_true hj1
              simp only [cond_false, cond_true, ih]
              have : (j / 2 = i / 2) ↔ j = i := by omega
              simp [this]
            | false =>
              have hj1 := Nat.ne_of_beq_eq_false hj1
              have : j ≠ i := by omega
              simp [this]
        | false =>
          have ih := FL.get_put (x := x) (k := k) (t := r) (i := i / 2 - 1) (by omega)
          have hi1 := Nat.ne_of_beq_eq_false h1
          simp only [cond_false, FL.get_node, FL.get_leaf]
          cases hj : Nat.beq j 0 with
          | true => have := Nat.eq_of_beq_eq_true hj; subst this; simp; omega
          | false =>
            have hj0 := Nat.ne_of_beq_eq_false hj
            cases hj1 : Nat.beq (j % 2) 1 with
            | true =>
              have hj1 := Nat.eq_of_beq_eq_true hj1
              have : j ≠ i := by omega
              simp [this]
            | false =>
              have hj1 := Nat.ne_of_beq_eq_false hj1
              simp only [cond_false, ih]
              have : (j / 2 - 1 = i / 2 - 1) ↔ j = i := by omega
              simp [this]
    cases t with
    | node v l r => rw [FL.put_node]; exact key v l r
    | leaf =>
      have := key (.tup []) .leaf .leaf
      have e : (FL.node (.tup []) .leaf .leaf).get j = FL.leaf.get j := by
        simp only [FL.get_node, FL.get_leaf]
        cases Nat.beq j 0 <;> cases Nat.beq (j % 2) 1 <;> rfl
      rw [e] at this
      rw [FL.put_leaf]; exact this

noncomputable def FL.set (t : FL) (i : Nat) (x : AV) : FL := FL.put x (i + 1) t i
noncomputable def frT (t : FL) : Fr := fun i => t.get i

theorem frT_set (t : FL) (k : Nat) (v : AV) : frT (t.set k v) = upd (frT t) k v := by
  funext i
  simp only [frT, FL.set, upd, FL.get_put (Nat.lt_succ_self k)]

/-- A frame out of a list. -/
noncomputable def FL.ofA : Nat → List AV → FL → FL
  | _, [], t => t
  | i, a :: l, t => FL.ofA (i + 1) l (t.set i a)
noncomputable def FL.ofL (l : List AV) : FL := FL.ofA 0 l .leaf

theorem FL.get_ofA : ∀ (l : List AV) (i : Nat) (t : FL) (j : Nat), (FL.ofA i l t).get j = if i ≤ j ∧ j < i + l.length then l.getD (j - i) (.tup []) else t.get j
  | [], i, t, j => by simp only [FL.ofA, List.length_nil]; rw [if_neg (by omega)]
  | a :: l, i, t, j => by
    simp only [FL.ofA, FL.get_ofA l (i + 1), List.length_cons, FL.set, FL.get_put (Nat.lt_succ_self i)]
    by_cases h : j = i
    · subst h
      rw [if_neg (by omega), if_pos rfl, if_pos (by omega)]
      simp
    · by_cases h2 : i + 1 ≤ j ∧ j < i + 1 + l.length
      · rw [if_pos h2, if_pos (by omega)]
        obtain ⟨d, rfl⟩ : ∃ d, j = i + 1 + d := ⟨j - (i + 1), by omega⟩
        rw [show i + 1 + d - (i + 1) = d by omega, show i + 1 + d - i = d + 1 by omega]
        simp
      · rw [if_neg h2, if_neg h, if_neg (by omega)]

theorem frT_ofL (l : List AV) : frT (FL.ofL l) = frOf l := by
  funext j
  simp only [frT, FL.ofL, FL.get_ofA, frOf, Nat.zero_le, true_and, Nat.zero_add, Nat.sub_zero]
  split
  · rfl
  · rename_i h
    simp only [FL.get_node, FL.get_leaf]
    rw [List.getD_eq_getElem?_getD, List.getElem?_eq_none (by omega)]; rfl

noncomputable def evL (fr : FL) : Opd → AV
  | .t k => fr.get k
  | .c v => v

theorem evL_eq (fr : FL) (x : Opd) : x.ev (frT fr) = evL fr x := by cases x <;> rfl

end Go.X

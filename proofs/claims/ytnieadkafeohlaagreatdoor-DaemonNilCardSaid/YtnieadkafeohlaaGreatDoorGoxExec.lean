/- The abstract machine, run: operations on a memory that is a tree. -/
import Derived.Test.YtnieadkafeohlaaGreatDoorGoxFn
set_option linter.unusedVariables false
set_option linter.unusedSimpArgs false
namespace Go.X

inductive Tr where
  | leaf
  | node (v : Option AObj) (l r : Tr)

def Tr.get : Tr → Nat → Option AObj
  | .leaf, _ => none
  | .node v l r, i => bif Nat.beq i 0 then v else bif Nat.beq (i % 2) 1 then l.get (i / 2) else r.get (i / 2 - 1)

def Tr.put (x : Option AObj) : Nat → Tr → Nat → Option Tr
  | 0, _, _ => none
  | k + 1, .leaf, i => bif Nat.beq i 0 then some (.node x .leaf .leaf)
      else bif Nat.beq (i % 2) 1 then (match Tr.put x k .leaf (i / 2) with | some l => some (.node none l .leaf) | none => none)
      else (match Tr.put x k .leaf (i / 2 - 1) with | some r => some (.node none .leaf r) | none => none)
  | k + 1, .node v l r, i => bif Nat.beq i 0 then some (.node x l r)
      else bif Nat.beq (i % 2) 1 then (match Tr.put x k l (i / 2) with | some l => some (.node v l r) | none => none)
      else (match Tr.put x k r (i / 2 - 1) with | some r => some (.node v l r) | none => none)

theorem Tr.get_put {x : Option AObj} : ∀ {k : Nat} {t t' : Tr} {i : Nat}, Tr.put x k t i = some t' → ∀ j, t'.get j = if j = i then x else t.get j
  | 0, t, t', i, h, j => by simp [Tr.put] at h
  | k + 1, .leaf, t', i, h, j => by
    unfold Tr.put at h
    cases h0 : Nat.beq i 0 with
    | true =>
      rw [h0] at h; simp at h; subst h
      have := Nat.eq_of_beq_eq_true h0; subst this
      simp only [Tr.get]
      cases hj : Nat.beq j 0 with
      | true => have := Nat.eq_of_beq_eq_true hj; subst this; simp
      | false =>
        have : j ≠ 0 := Nat.ne_of_beq_eq_false hj
        simp [this]
    | false =>
      rw [h0] at h; simp only [cond_false] at h
      have hi := Nat.ne_of_beq_eq_false h0
      cases h1 : Nat.beq (i % 2) 1 with
      | true =>
        rw [h1] at h; simp only [cond_true] at h
        split at h
        · rename_i l hl
          simp at h; subst h
          have ih := Tr.get_put hl
          have hi1 := Nat.eq_of_beq_eq_true h1
          simp only [Tr.get]
          cases hj : Nat.beq j 0 with
          | true => have := Nat.eq_of_beq_eq_true hj; subst this; simp; omega
          | false =>
            have hj0 := Nat.ne_of_beq_eq_false hj
            cases hj1 : Nat.beq (j % 2) 1 with
            | true =>
              have hj1 := Nat.eq_of_beq_eq_true hj1
              simp only [cond_false, cond_true, ih, Tr.get]
              have : (j / 2 = i / 2) ↔ j = i := by omega
              simp [this]
            | false =>
              have hj1 := Nat.ne_of_beq_eq_false hj1
              have : j ≠ i := by omega
              simp [this]
        · simp at h
      | false =>
        rw [h1] at h; simp only [cond_false] at h
        split at h
        · rename_i r hr
          simp at h; subst h
          have ih := Tr.get_put hr
          have hi1 := Nat.ne_of_beq_eq_false h1
          simp only [Tr.get]
          cases hj : Nat.beq j 0 with
          | true => have := Nat.eq_of_beq_eq_true hj; subst this; simp; omega
          | false =>
            have hj0 := Nat.ne_of_beq_eq_false hj
            cases hj1 : Nat.beq (j % 2) 1 with
            | true =>
              have hj1 := Nat.eq_of_beq_eq_true hj1
              have : j ≠ i := by omega
              simp [this]
            | false =>
              have hj1 := Nat.ne_of_beq_eq_false hj1
              simp only [cond_false, ih, Tr.get]
              have : (j / 2 - 1 = i / 2 - 1) ↔ j = i := by omega
              simp [this]
        · simp at h
  | k + 1, .node v l r, t', i, h, j => by
    unfold Tr.put at h
    cases h0 : Nat.beq i 0 with
    | true =>
      rw [h0] at h; simp at h; subst h
      have := Nat.eq_of_beq_eq_true h0; subst this
      simp only [Tr.get]
      cases hj : Nat.beq j 0 with
      | true => have := Nat.eq_of_beq_eq_true hj; subst this; simp
      | false =>
        have : j ≠ 0 := Nat.ne_of_beq_eq_false hj
        simp [this]
    | false =>
      rw [h0] at h; simp only [cond_false] at h
      have hi := Nat.ne_of_beq_eq_false h0
      cases h1 : Nat.beq (i % 2) 1 with
      | true =>
        rw [h1] at h; simp only [cond_true] at h
        split at h
        · rename_i l' hl
          simp at h; subst h
          have ih := Tr.get_put hl
          have hi1 := Nat.eq_of_beq_eq_true h1
          simp only [Tr.get]
          cases hj : Nat.beq j 0 with
          | true => have := Nat.eq_of_beq_eq_true hj; subst this; simp; omega
          | false =>
            have hj0 := Nat.ne_of_beq_eq_false hj
            cases hj1 : Nat.beq (j % 2) 1 with
            | true =>
              have hj1 := Nat.eq_of_beq_eq_true hj1
              simp only [cond_false, cond_true, ih]
              have : (j / 2 = i / 2) ↔ j = i := by omega
              simp [this]
            | false =>
              have hj1 := Nat.ne_of_beq_eq_false hj1
              have : j ≠ i := by omega
              simp [this]
        · simp at h
      | false =>
        rw [h1] at h; simp only [cond_false] at h
        split at h
        · rename_i r' hr
          simp at h; subst h
          have ih := Tr.get_put hr
          have hi1 := Nat.ne_of_beq_eq_false h1
          simp only [Tr.get]
          cases hj : Nat.beq j 0 with
          | true => have := Nat.eq_of_beq_eq_true hj; subst this; simp; omega
          | false =>
            have hj0 := Nat.ne_of_beq_eq_false hj
            cases hj1 : Nat.beq (j % 2) 1 with
            | true =>
              have hj1 := Nat.eq_of_beq_eq_true hj1
              have : j ≠ i := by omega
              simp [this]
            | false =>
              have hj1 := Nat.ne_of_beq_eq_false hj1
              simp only [cond_false, ih]
              have : (j / 2 - 1 = i / 2 - 1) ↔ j = i := by omega
              simp [this]
        · simp at h

structure EM where
  t : Tr
  nx : Nat

def EM.mem (m : EM) : Mem := ⟨m.t.get, m.nx⟩
def EM.at_ (m : EM) (o : Nat) : Option AObj := m.t.get o
def EM.set (m : EM) (o : Nat) (x : AObj) : Option EM := match Tr.put (some x) 40 m.t o with
  | some t => some ⟨t, m.nx⟩
  | none => none
def EM.del (m : EM) (o : Nat) : Option EM := match Tr.put none 40 m.t o with
  | some t => some ⟨t, m.nx⟩
  | none => none
def EM.new (m : EM) (x : AObj) : Option EM := match Tr.put (some x) 40 m.t m.nx with
  | some t => some ⟨t, m.nx + 1⟩
  | none => none

theorem EM.set_mem {m m' : EM} {o : Nat} {x : AObj} (h : m.set o x = some m') : m'.mem = m.mem.set o x := by
  unfold EM.set at h
  split at h
  · rename_i t ht
    simp at h; subst h
    exact Mem.ext' (fun i => Tr.get_put ht i) rfl
  · simp at h
theorem EM.del_mem {m m' : EM} {o : Nat} (h : m.del o = some m') : m'.mem = m.mem.del o := by
  unfold EM.del at h
  split at h
  · rename_i t ht
    simp at h; subst h
    exact Mem.ext' (fun i => Tr.get_put ht i) rfl
  · simp at h
theorem EM.new_mem {m m' : EM} {x : AObj} (h : m.new x = some m') : m'.mem = m.mem.new x := by
  unfold EM.new at h
  split at h
  · rename_i t ht
    simp at h; subst h
    exact Mem.ext' (fun i => Tr.get_put ht i) rfl
  · simp at h

/-- A frame's list, set. -/
def setAt : List AV → Nat → AV → List AV
  | [], 0, v => [v]
  | _ :: l, 0, v => v :: l
  | [], k + 1, v => .tup [] :: setAt [] k v
  | x :: l, k + 1, v => x :: setAt l k v

theorem frOf_setAt : ∀ (l : List AV) (k : Nat) (v : AV), frOf (setAt l k v) = upd (frOf l) k v := by
  have key : ∀ (l : List AV) (k : Nat) (v : AV) (i : Nat), (setAt l k v).getD i (.tup []) = if i = k then v else l.getD i (.tup []) := by
    intro l k
    induction k generalizing l with
    | zero =>
      intro v i
      cases l <;> cases i <;> simp [setAt]
    | succ k ih =>
      intro v i
      cases l with
      | nil =>
        cases i with
        | zero => simp [setAt]
        | succ i => simp only [setAt, List.getD_cons_succ, ih]; simp
      | cons x l =>
        cases i with
        | zero => simp [setAt]
        | succ i => simp only [setAt, List.getD_cons_succ, ih]; simp
  intro l k v
  funext i
  exact key l k v i

def evL (fr : List AV) : Opd → AV
  | .t k => fr.getD k (.tup [])
  | .c v => v

theorem evL_eq (fr : List AV) (x : Opd) : x.ev (frOf fr) = evL fr x := by cases x <;> rfl

end Go.X

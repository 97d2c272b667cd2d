/- Logical heaps for closed runs: tries. -/
import Derived.Orders
import Derived.LoopN
import Derived.Scope
import Derived.Below
import Derived.Laws.Append
import Derived.Laws.Cells
set_option linter.unusedVariables false
set_option linter.unusedSimpArgs false
namespace Go.Proofs.YtkmhbfgkhalaoaaGreatDoor.LM
open Go Go.RowKit

/-! ### Tries keyed by numbers -/
inductive Tr (α : Type) where
  | nil : Tr α
  | node : Option α → Tr α → Tr α → Tr α

noncomputable def Tr.get {α : Type} (t : Tr α) : Nat → Option α :=
  Tr.rec (motive := fun _ => Nat → Option α) (fun _ => none)
    (fun v _ _ gl gr k => Nat.rec (motive := fun _ => Option α) v (fun k' _ => Bool.rec (motive := fun _ => Nat → Option α) gr gl (Nat.beq (Nat.mod k' 2) 0) (Nat.div k' 2)) k) t

theorem Tr.get_nil {α : Type} (k : Nat) : (Tr.nil : Tr α).get k = none := rfl
theorem Tr.get_node_zero {α : Type} (v : Option α) (l r : Tr α) : (Tr.node v l r).get 0 = v := rfl
theorem Tr.get_node_succ {α : Type} (v : Option α) (l r : Tr α) (k : Nat) : (Tr.node v l r).get (k + 1) = bif Nat.beq (k % 2) 0 then l.get (k / 2) else r.get (k / 2) := by
  show Bool.rec (motive := fun _ => Nat → Option α) (fun k => r.get k) (fun k => l.get k) (Nat.beq (k % 2) 0) (k / 2) = _
  cases Nat.beq (k % 2) 0 <;> rfl

/-- The way into an empty trie. -/
noncomputable def Tr.nilK {α β : Type} (n : Nat) : Nat → α → (Tr α → β) → β :=
  Nat.rec (motive := fun _ => Nat → α → (Tr α → β) → β) (fun _ v f => f (.node (some v) .nil .nil))
    (fun _ ih k v f => Nat.rec (motive := fun _ => β) (f (.node (some v) .nil .nil))
      (fun k' _ => Bool.rec (motive := fun _ => β) (ih (Nat.div k' 2) v fun r => f (.node none .nil r)) (ih (Nat.div k' 2) v fun l => f (.node none l .nil)) (Nat.beq (Nat.mod k' 2) 0)) k) n
noncomputable def Tr.goL {α β : Type} (x : Option α) (l r : Tr α) (ihl ihr : Nat → α → (Tr α → β) → β) (k : Nat) (v : α) (f : Tr α → β) : β := ihl k v fun l' => f (.node x l' r)
noncomputable def Tr.goR {α β : Type} (x : Option α) (l r : Tr α) (ihl ihr : Nat → α → (Tr α → β) → β) (k : Nat) (v : α) (f : Tr α → β) : β := ihr k v fun r' => f (.node x l r')
noncomputable def Tr.at_ {α β : Type} (x : Option α) (l r : Tr α) (ihl ihr : Nat → α → (Tr α → β) → β) (k : Nat) (v : α) (f : Tr α → β) : β :=
  Nat.rec (motive := fun _ => β) (f (.node (some v) l r)) (fun k' _ => Bool.rec (motive := fun _ => Option α → Tr α → Tr α → (Nat → α → (Tr α → β) → β) → (Nat → α → (Tr α → β) → β) → Nat → α → (Tr α → β) → β) Tr.goR Tr.goL (Nat.beq (Nat.mod k' 2) 0) x l r ihl ihr (Nat.div k' 2) v f) k
/-- A cell is set; what comes next gets the new trie. -/
noncomputable def Tr.put {α β : Type} (t : Tr α) : Nat → α → (Tr α → β) → β :=
  Tr.rec (motive := fun _ => Nat → α → (Tr α → β) → β) (fun k v f => Tr.nilK k k v f) Tr.at_ t
noncomputable def Tr.set {α : Type} (t : Tr α) (k : Nat) (v : α) : Tr α := t.put k v fun t => t

theorem Tr.nilK_eq {α β : Type} (v : α) : ∀ (n k : Nat) (f : Tr α → β), k ≤ n → Tr.nilK n k v f = f (Tr.nilK n k v fun t => t) ∧ ∀ j, (Tr.nilK n k v fun t => t : Tr α).get j = if j = k then some v else none := by
  intro n
  induction n generalizing β with
  | zero =>
    intro k f hk
    have : k = 0 := by omega
    subst this
    refine ⟨rfl, fun j => ?_⟩
    cases j with
    | zero => rfl
    | succ j =>
      show (Tr.node (some v) .nil .nil : Tr α).get (j + 1) = _
      rw [Tr.get_node_succ]; cases Nat.beq (j % 2) 0 <;> simp [Tr.get_nil]
  | succ n ih =>
    have ih' := @ih (Tr α)
    intro k f hk
    cases k with
    | zero =>
      refine ⟨rfl, fun j => ?_⟩
      cases j with
      | zero => rfl
      | succ j =>
        show (Tr.node (some v) .nil .nil : Tr α).get (j + 1) = _
        rw [Tr.get_node_succ]; cases Nat.beq (j % 2) 0 <;> simp [Tr.get_nil]
    | succ k =>
      have e0 : ∀ {γ : Type} (f : Tr α → γ), Tr.nilK (n + 1) (k + 1) v f = Bool.rec (motive := fun _ => γ) (Tr.nilK n (k / 2) v fun r => f (.node none .nil r)) (Tr.nilK n (k / 2) v fun l => f (.node none l .nil)) (Nat.beq (k % 2) 0) := fun f => rfl
      rw [e0, e0]
      cases hb : Nat.beq (k % 2) 0
      · obtain ⟨h1, h2⟩ := ih (k / 2) (fun r => f (.node none .nil r)) (by omega)
        obtain ⟨h3, _⟩ := ih' (k / 2) (fun r => .node none .nil r) (by omega)
        refine ⟨by dsimp only; rw [h1, h3], fun j => ?_⟩
        dsimp only
        rw [h3]
        replace hb := Nat.ne_of_beq_eq_false hb
        cases j with
        | zero => rfl
        | succ j =>
          rw [Tr.get_node_succ]
          cases hj : Nat.beq (j % 2) 0
          · replace hj := Nat.ne_of_beq_eq_false hj
            rw [cond_false, h2]
            by_cases ee : j = k
            · subst ee; simp
            · rw [if_neg (by omega), if_neg (by omega)]
          · replace hj := Nat.eq_of_beq_eq_true hj
            rw [cond_true, if_neg (by omega)]; simp [Tr.get_nil]
      · obtain ⟨h1, h2⟩ := ih (k / 2) (fun l => f (.node none l .nil)) (by omega)
        obtain ⟨h3, _⟩ := ih' (k / 2) (fun l => .node none l .nil) (by omega)
        refine ⟨by dsimp only; rw [h1, h3], fun j => ?_⟩
        dsimp only
        rw [h3]
        replace hb := Nat.eq_of_beq_eq_true hb
        cases j with
        | zero => rfl
        | succ j =>
          rw [Tr.get_node_succ]
          cases hj : Nat.beq (j % 2) 0
          · replace hj := Nat.ne_of_beq_eq_false hj
            rw [cond_false, if_neg (by omega)]; simp [Tr.get_nil]
          · replace hj := Nat.eq_of_beq_eq_true hj
            rw [cond_true, h2]
            by_cases ee : j = k
            · subst ee; simp
            · rw [if_neg (by omega), if_neg (by omega)]

theorem Tr.put_node_zero {α β : Type} (x : Option α) (l r : Tr α) (v : α) (f : Tr α → β) : (Tr.node x l r).put 0 v f = f (.node (some v) l r) := rfl
theorem Tr.put_node_succ {α β : Type} (x : Option α) (l r : Tr α) (k : Nat) (v : α) (f : Tr α → β) :
    (Tr.node x l r).put (k + 1) v f = bif Nat.beq (k % 2) 0 then (l.put (k / 2) v fun l' => f (.node x l' r)) else (r.put (k / 2) v fun r' => f (.node x l r')) := by
  show Bool.rec (motive := fun _ => Option α → Tr α → Tr α → (Nat → α → (Tr α → β) → β) → (Nat → α → (Tr α → β) → β) → Nat → α → (Tr α → β) → β) Tr.goR Tr.goL (Nat.beq (k % 2) 0) x l r l.put r.put (k / 2) v f = _
  cases Nat.beq (k % 2) 0 <;> rfl

/-- The continuation gets just what 'set' gives. -/
theorem Tr.put_eq {α β : Type} (t : Tr α) (k : Nat) (v : α) (f : Tr α → β) : t.put k v f = f (t.set k v) := by
  induction t generalizing β k with
  | nil => exact (Tr.nilK_eq v k k f (Nat.le_refl _)).1
  | node x l r ihl ihr =>
    unfold Tr.set
    cases k with
    | zero => rfl
    | succ k =>
      rw [Tr.put_node_succ, Tr.put_node_succ]
      cases Nat.beq (k % 2) 0
      · rw [cond_false, cond_false]
        rw [ihr (k / 2) fun r' => f (Tr.node x l r'), ihr (k / 2) fun r' => Tr.node x l r']
      · rw [cond_true, cond_true]
        rw [ihl (k / 2) fun l' => f (Tr.node x l' r), ihl (k / 2) fun l' => Tr.node x l' r]
theorem Tr.get_set {α : Type} (t : Tr α) (k j : Nat) (v : α) : (t.set k v).get j = if j = k then some v else t.get j := by
  induction t generalizing k j with
  | nil => rw [Tr.get_nil]; exact (Tr.nilK_eq (β := Tr α) v k k (fun t => t) (Nat.le_refl _)).2 j
  | node x l r ihl ihr =>
    unfold Tr.set
    cases k with
    | zero =>
      rw [Tr.put_node_zero]
      cases j with
      | zero => rfl
      | succ j => rw [Tr.get_node_succ, Tr.get_node_succ, if_neg (by omega)]
    | succ k =>
      rw [Tr.put_node_succ]
      cases hb : Nat.beq (k % 2) 0
      · simp only [cond_false]
        rw [Tr.put_eq]
        replace hb := Nat.ne_of_beq_eq_false hb
        cases j with
        | zero => rfl
        | succ j =>
          rw [Tr.get_node_succ, Tr.get_node_succ]
          cases hj : Nat.beq (j % 2) 0
          · replace hj := Nat.ne_of_beq_eq_false hj
            rw [cond_false, cond_false, ihr]
            by_cases ee : j = k
            · subst ee; simp
            · rw [if_neg (by omega), if_neg (by omega)]
          · replace hj := Nat.eq_of_beq_eq_true hj
            rw [cond_true, cond_true, if_neg (by omega)]
      · simp only [cond_true]
        rw [Tr.put_eq]
        replace hb := Nat.eq_of_beq_eq_true hb
        cases j with
        | zero => rfl
        | succ j =>
          rw [Tr.get_node_succ, Tr.get_node_succ]
          cases hj : Nat.beq (j % 2) 0
          · replace hj := Nat.ne_of_beq_eq_false hj
            rw [cond_false, cond_false, if_neg (by omega)]
          · replace hj := Nat.eq_of_beq_eq_true hj
            rw [cond_true, cond_true, ihl]
            by_cases ee : j = k
            · subst ee; simp
            · rw [if_neg (by omega), if_neg (by omega)]

end Go.Proofs.YtkmhbfgkhalaoaaGreatDoor.LM

/- The longest common subsequence of two lists, and the way back through its table: plain facts, no program. -/
namespace Go.Proofs.YtkmhbfgkhalaoaaGreatDoor.Lcs
theorem sub_tail {α : Type} {z x : α} {l a : List α} (h : (z :: l).Sublist (x :: a)) : l.Sublist a := by
  cases h with
  | cons _ h => exact (List.sublist_cons_self z l).trans h
  | cons_cons _ h => exact h

variable {α : Type} [DecidableEq α]

/-- The length of the longest common subsequence. -/
def lcs : List α → List α → Nat
  | [], _ => 0
  | _ :: _, [] => 0
  | x :: a, y :: b => if x = y then lcs a b + 1 else max (lcs a (y :: b)) (lcs (x :: a) b)
termination_by a b => a.length + b.length

theorem lcs_nil (b : List α) : lcs ([] : List α) b = 0 := by rw [lcs]
theorem lcs_nil' (a : List α) : lcs a ([] : List α) = 0 := by cases a <;> rw [lcs]
theorem lcs_eq (x : α) (a b : List α) : lcs (x :: a) (x :: b) = lcs a b + 1 := by rw [lcs, if_pos rfl]
theorem lcs_ne {x y : α} (h : x ≠ y) (a b : List α) : lcs (x :: a) (y :: b) = max (lcs a (y :: b)) (lcs (x :: a) b) := by rw [lcs, if_neg h]

theorem lcs_ge : ∀ (n : Nat) (a b : List α), a.length + b.length ≤ n → ∀ l : List α, l.Sublist a → l.Sublist b → l.length ≤ lcs a b
  | n, [], b, _, l, h1, _ => by
    rw [List.sublist_nil.1 h1]; exact Nat.zero_le _
  | n, x :: a, [], _, l, _, h2 => by
    rw [List.sublist_nil.1 h2]; exact Nat.zero_le _
  | 0, x :: a, y :: b, hn, _, _, _ => by simp at hn
  | n + 1, x :: a, y :: b, hn, l, h1, h2 => by
    simp only [List.length_cons] at hn
    cases l with
    | nil => exact Nat.zero_le _
    | cons z l =>
      by_cases hxy : x = y
      · subst hxy
        rw [lcs_eq]
        have := lcs_ge n a b (by omega) l (sub_tail h1) (sub_tail h2)
        simp only [List.length_cons]; omega
      · rw [lcs_ne hxy]
        cases h1 with
        | cons _ h1 =>
          have := lcs_ge n a (y :: b) (by simp only [List.length_cons]; omega) _ h1 h2
          omega
        | cons_cons _ h1 =>
          cases h2 with
          | cons _ h2 =>
            have := lcs_ge n (x :: a) b (by simp only [List.length_cons]; omega) _ (h1.cons_cons x) h2
            omega
          | cons_cons _ h2 => exact absurd rfl hxy

theorem lcs_has : ∀ (n : Nat) (a b : List α), a.length + b.length ≤ n → ∃ l : List α, l.Sublist a ∧ l.Sublist b ∧ l.length = lcs a b
  | n, [], b, _ => ⟨[], List.nil_sublist _, List.nil_sublist _, by rw [lcs_nil]; rfl⟩
  | n, x :: a, [], _ => ⟨[], List.nil_sublist _, List.nil_sublist _, by rw [lcs_nil']; rfl⟩
  | 0, x :: a, y :: b, hn => by simp at hn
  | n + 1, x :: a, y :: b, hn => by
    simp only [List.length_cons] at hn
    by_cases hxy : x = y
    · subst hxy
      obtain ⟨l, h1, h2, h3⟩ := lcs_has n a b (by omega)
      exact ⟨x :: l, h1.cons_cons x, h2.cons_cons x, by rw [lcs_eq, List.length_cons, h3]⟩
    · rw [lcs_ne hxy]
      rcases Nat.le_total (lcs a (y :: b)) (lcs (x :: a) b) with h | h
      · rw [Nat.max_eq_right h]
        obtain ⟨l, h1, h2, h3⟩ := lcs_has n (x :: a) b (by simp only [List.length_cons]; omega)
        exact ⟨l, h1, h2.trans (List.sublist_cons_self y b), h3⟩
      · rw [Nat.max_eq_left h]
        obtain ⟨l, h1, h2, h3⟩ := lcs_has n a (y :: b) (by simp only [List.length_cons]; omega)
        exact ⟨l, h1.trans (List.sublist_cons_self x a), h2, h3⟩

theorem ge {a b l : List α} (h1 : l.Sublist a) (h2 : l.Sublist b) : l.length ≤ lcs a b := lcs_ge _ a b (Nat.le_refl _) l h1 h2
theorem has (a b : List α) : ∃ l : List α, l.Sublist a ∧ l.Sublist b ∧ l.length = lcs a b := lcs_has _ a b (Nat.le_refl _)

theorem le_left (a b : List α) : lcs a b ≤ a.length := by
  obtain ⟨l, h1, _, h3⟩ := has a b
  rw [← h3]; exact h1.length_le
theorem le_right (a b : List α) : lcs a b ≤ b.length := by
  obtain ⟨l, _, h2, h3⟩ := has a b
  rw [← h3]; exact h2.length_le

theorem reverse_le (a b : List α) : lcs a b ≤ lcs a.reverse b.reverse := by
  obtain ⟨l, h1, h2, h3⟩ := has a b
  rw [← h3, ← List.length_reverse]
  exact ge h1.reverse h2.reverse
theorem reverse (a b : List α) : lcs a.reverse b.reverse = lcs a b := by
  have h1 := reverse_le a b
  have h2 := reverse_le a.reverse b.reverse
  rw [List.reverse_reverse, List.reverse_reverse] at h2
  omega

theorem cons_left (x : α) (a b : List α) : lcs (x :: a) b ≤ lcs a b + 1 := by
  obtain ⟨l, h1, h2, h3⟩ := has (x :: a) b
  rw [← h3]
  cases l with
  | nil => exact Nat.zero_le _
  | cons z l =>
    have := ge (sub_tail h1) ((List.sublist_cons_self z l).trans h2)
    simp only [List.length_cons]; omega
theorem cons_right (y : α) (a b : List α) : lcs a (y :: b) ≤ lcs a b + 1 := by
  obtain ⟨l, h1, h2, h3⟩ := has a (y :: b)
  rw [← h3]
  cases l with
  | nil => exact Nat.zero_le _
  | cons z l =>
    have := ge ((List.sublist_cons_self z l).trans h1) (sub_tail h2)
    simp only [List.length_cons]; omega

/-- The way back: for each line of the first list the line of the second (counted from j + 1) that corresponds to it, or 0. -/
def tr : List α → List α → Nat → List Int
  | [], _, _ => []
  | _ :: a, [], _ => 0 :: List.replicate a.length 0
  | x :: a, y :: b, j =>
    if x = y then ((j : Int) + 1) :: tr a b (j + 1)
    else if lcs (x :: a) b ≤ lcs a (y :: b) then 0 :: tr a (y :: b) j
    else tr (x :: a) b (j + 1)
termination_by a b => a.length + b.length

theorem tr_nil (b : List α) (j : Nat) : tr ([] : List α) b j = [] := by rw [tr]
theorem tr_nil' (a : List α) (j : Nat) : tr a ([] : List α) j = List.replicate a.length 0 := by cases a <;> rw [tr] <;> rfl
theorem tr_eq (x : α) (a b : List α) (j : Nat) : tr (x :: a) (x :: b) j = ((j : Int) + 1) :: tr a b (j + 1) := by rw [tr, if_pos rfl]
theorem tr_le {x y : α} (h : x ≠ y) (a b : List α) (j : Nat) (hl : lcs (x :: a) b ≤ lcs a (y :: b)) : tr (x :: a) (y :: b) j = 0 :: tr a (y :: b) j := by rw [tr, if_neg h, if_pos hl]
theorem tr_gt {x y : α} (h : x ≠ y) (a b : List α) (j : Nat) (hl : ¬ lcs (x :: a) b ≤ lcs a (y :: b)) : tr (x :: a) (y :: b) j = tr (x :: a) b (j + 1) := by rw [tr, if_neg h, if_neg hl]

theorem tr_length_aux : ∀ (n : Nat) (a b : List α) (j : Nat), a.length + b.length ≤ n → (tr a b j).length = a.length
  | n, [], b, j, _ => by rw [tr_nil]; rfl
  | n, x :: a, [], j, _ => by rw [tr_nil', List.length_replicate]
  | 0, x :: a, y :: b, _, hn => by simp at hn
  | n + 1, x :: a, y :: b, j, hn => by
    simp only [List.length_cons] at hn
    by_cases hxy : x = y
    · subst hxy
      rw [tr_eq, List.length_cons, tr_length_aux n a b _ (by omega), List.length_cons]
    · by_cases hl : lcs (x :: a) b ≤ lcs a (y :: b)
      · rw [tr_le hxy _ _ _ hl, List.length_cons, tr_length_aux n a (y :: b) _ (by simp only [List.length_cons]; omega), List.length_cons]
      · rw [tr_gt hxy _ _ _ hl, tr_length_aux n (x :: a) b _ (by simp only [List.length_cons]; omega)]
theorem tr_length (a b : List α) (j : Nat) : (tr a b j).length = a.length := tr_length_aux _ a b j (Nat.le_refl _)

/-- A list that is the beginning of another one keeps all its lines. -/
theorem tr_self : ∀ (a e : List α) (j : Nat), tr a (a ++ e) j = (List.range a.length).map (fun i => ((j + i : Nat) : Int) + 1)
  | [], e, j => by rw [tr_nil]; rfl
  | x :: a, e, j => by
    rw [List.cons_append, tr_eq, tr_self a e (j + 1), List.length_cons, List.range_succ_eq_map, List.map_cons, List.map_map]
    congr 1
    apply List.map_congr_left
    intro i _
    simp only [Function.comp_apply]
    congr 2
    omega

/-- New lines ahead of a list that has none of them move all its lines. -/
theorem tr_shift (z : α) (a e : List α) (ha : a ≠ []) (hz : z ∉ a) : ∀ (n j : Nat), tr a (List.replicate n z ++ a ++ e) j = (List.range a.length).map (fun i => ((j + n + i : Nat) : Int) + 1)
  | 0, j => by simpa using tr_self a e j
  | n + 1, j => by
    rw [List.replicate_succ, List.cons_append, List.cons_append]
    cases a with
    | nil => exact absurd rfl ha
    | cons x a =>
      have hx : x ≠ z := fun h => hz (by rw [h]; exact List.mem_cons_self)
      rw [tr_gt hx _ _ _ (fun hl => by
        have h1 := le_left a (z :: (List.replicate n z ++ (x :: a) ++ e))
        have h2 : (x :: a).length ≤ lcs (x :: a) (List.replicate n z ++ (x :: a) ++ e) := ge (List.Sublist.refl _) ((List.sublist_append_right _ _).trans (List.sublist_append_left _ _))
        simp only [List.length_cons] at h2
        omega), tr_shift z (x :: a) e (by simp) hz n (j + 1)]
      apply List.map_congr_left
      intro i _
      congr 2
      omega
end Go.Proofs.YtkmhbfgkhalaoaaGreatDoor.Lcs

/- What the Lean function of breakpoint.Move answers: the way back through the table of the longest common subsequences. Condition: at most 400 lines each. -/
import Derived.Test.YtkmhbfgkhalaoaaGreatDoorMvA
import Derived.Test.YtkmhbfgkhalaoaaGreatDoorLcs
namespace Go.Proofs.YtkmhbfgkhalaoaaGreatDoor.PB
open Go.RowKit Go.Proofs.YtkmhbfgkhalaoaaGreatDoorW.PrintWords Go.Proofs.YtkmhbfgkhalaoaaGreatDoorW.PrintLast Go.Proofs.YtkmhbfgkhalaoaaGreatDoorW.PrintMore

theorem w64 {n : Int} (h1 : -9223372036854775808 ≤ n) (h2 : n ≤ 9223372036854775807) : wrap64 n = n := by unfold wrap64; omega

/-- The bytes of the lines. -/
def dl (A : List ByteArray) : List (List UInt8) := A.map (·.data.toList)
theorem dl_length (A : List ByteArray) : (dl A).length = A.length := by simp [dl]

theorem line_eq (A B : List ByteArray) (i j : Nat) (hi : i < (dl A).length) (hj : j < (dl B).length) :
    ((rdOf ByteArray.empty A (i : Int)).toList = (rdOf ByteArray.empty B (j : Int)).toList) ↔ (dl A)[i] = (dl B)[j] := by
  have hi' : i < A.length := by rw [dl_length] at hi; exact hi
  have hj' : j < B.length := by rw [dl_length] at hj; exact hj
  simp [rdOf, dl, Lib.toList_data, hi', hj']

/-- The table: what has been reckoned of it, zeros else. -/
structure Inv (A B : List (List UInt8)) (i j : Int) (T : List (List Int)) : Prop where
  len : T.length = A.length + 1
  row : ∀ r : Nat, r ≤ A.length → (T.getD r []).length = B.length + 1
  val : ∀ r c : Nat, r ≤ A.length → c ≤ B.length → (T.getD r []).getD c 0 = if i < (r : Int) ∨ (i = (r : Int) ∧ j < (c : Int)) then (Lcs.lcs (A.drop r) (B.drop c) : Int) else 0

theorem rd3 (T : List (List Int)) (r : Nat) : rd_L3 T (r : Int) = T.getD r [] := by simp [rd_L3]
theorem rdn (xs : List Int) (r : Nat) : rd xs (r : Int) = xs.getD r 0 := by simp [rd]

theorem Inv.set {A B : List (List UInt8)} {i j : Nat} {T : List (List Int)} (h : Inv A B i j T) (hi : i < A.length) (hj : j < B.length) (v : Int) (hv : v = (Lcs.lcs (A.drop i) (B.drop j) : Int)) :
    Inv A B i ((j : Int) - 1) (T.set i ((T.getD i []).set j v)) := by
  have hl := h.len
  refine ⟨by simpa using hl, fun r hr => ?_, fun r c hr hc => ?_⟩
  · have h0 := h.row r hr
    by_cases e : i = r
    · subst e
      rw [List.getD_eq_getElem?_getD, List.getElem?_set_self (by omega), Option.getD_some, List.length_set]
      exact h0
    · rw [List.getD_eq_getElem?_getD, List.getElem?_set_ne e, ← List.getD_eq_getElem?_getD]
      exact h0
  · have h0 := h.val r c hr hc
    by_cases e : i = r
    · subst e
      have hr0 := h.row i hr
      rw [List.getD_eq_getElem?_getD, List.getD_eq_getElem?_getD, List.getElem?_set_self (by omega), Option.getD_some]
      by_cases e2 : j = c
      · subst e2
        rw [List.getElem?_set_self (by omega), Option.getD_some, if_pos (.inr ⟨rfl, by omega⟩), hv]
      · rw [List.getElem?_set_ne e2, ← List.getD_eq_getElem?_getD, h0]
        by_cases h1 : (i : Int) < (i : Int) ∨ ((i : Int) = (i : Int) ∧ (j : Int) < (c : Int))
        · rw [if_pos h1, if_pos (by rcases h1 with h1 | ⟨_, h1⟩; exact .inl h1; exact .inr ⟨rfl, by omega⟩)]
        · rw [if_neg h1, if_neg (by rintro (h2 | ⟨_, h2⟩); exact h1 (.inl h2); exact h1 (.inr ⟨rfl, by omega⟩))]
    · rw [List.getD_eq_getElem?_getD, List.getD_eq_getElem?_getD, List.getElem?_set_ne e, ← List.getD_eq_getElem?_getD, ← List.getD_eq_getElem?_getD, h0]
      have e' : (i : Int) ≠ (r : Int) := by omega
      simp [e']

theorem Inv.next {A B : List (List UInt8)} {i : Nat} {T : List (List Int)} (h : Inv A B i (-1) T) : Inv A B ((i : Int) - 1) ((B.length : Int) - 1) T := by
  refine ⟨h.len, h.row, fun r c hr hc => ?_⟩
  rw [h.val r c hr hc]
  by_cases h1 : (i : Int) ≤ r
  · rw [if_pos (by omega), if_pos (by omega)]
  · rw [if_neg (by omega)]
    by_cases h2 : (i : Int) - 1 = r ∧ c = B.length
    · rw [if_pos (by omega), h2.2, List.drop_length, Lcs.lcs_nil']; rfl
    · rw [if_neg (by omega)]

theorem Inv.start (A B : List (List UInt8)) : Inv A B ((A.length : Int) - 1) ((B.length : Int) - 1) (List.replicate (A.length + 1) (List.replicate (B.length + 1) 0)) := by
  have hrow : ∀ r : Nat, r ≤ A.length → (List.replicate (A.length + 1) (List.replicate (B.length + 1) (0 : Int))).getD r [] = List.replicate (B.length + 1) 0 := fun r hr => by
    rw [List.getD_eq_getElem?_getD, List.getElem?_replicate, if_pos (by omega), Option.getD_some]
  refine ⟨by simp, fun r hr => by rw [hrow r hr]; simp, fun r c hr hc => ?_⟩
  rw [hrow r hr, List.getD_eq_getElem?_getD, List.getElem?_replicate, if_pos (by omega), Option.getD_some]
  by_cases h : (A.length : Int) - 1 < r ∨ ((A.length : Int) - 1 = r ∧ (B.length : Int) - 1 < c)
  · rw [if_pos h]
    rcases h with h | ⟨h1, h2⟩
    · have : r = A.length := by omega
      rw [this, List.drop_length, Lcs.lcs_nil]; rfl
    · have : c = B.length := by omega
      rw [this, List.drop_length, Lcs.lcs_nil']; rfl
  · rw [if_neg h]

theorem up {i : Nat} (h : i ≤ 1000) : wrap64 ((i : Int) + 1) = ((i + 1 : Nat) : Int) := by unfold wrap64; omega
theorem down {i : Nat} (h : i ≤ 1000) : wrap64 ((i : Int) - 1) = (i : Int) - 1 := by unfold wrap64; omega
theorem lt' {a b : Nat} (h : a < b) : (a : Int) < (b : Int) := Int.ofNat_lt.2 h
theorem ge0 (a : Nat) : (0 : Int) ≤ (a : Int) := Int.natCast_nonneg a
theorem mx_max (a b : Nat) : mx (a : Int) (b : Int) = ((max a b : Nat) : Int) := by unfold mx; split <;> omega
theorem pred_succ (j : Nat) : ((j + 1 : Nat) : Int) - 1 = (j : Int) := by omega
theorem pred_zero : ((0 : Nat) : Int) - 1 = -1 := by omega

theorem Inv.past {A B : List (List UInt8)} {i j : Int} {T : List (List Int)} (h : Inv A B i j T) {r c : Nat} (hr : r ≤ A.length) (hc : c ≤ B.length) (h1 : i < (r : Int) ∨ (i = (r : Int) ∧ j < (c : Int))) :
    (T.getD r []).getD c 0 = (Lcs.lcs (A.drop r) (B.drop c) : Int) := by rw [h.val r c hr hc, if_pos h1]
theorem Inv.same {A B : List (List UInt8)} {i j : Nat} {T : List (List Int)} (h : Inv A B i j T) (hi : i < A.length) (hj : j < B.length) (hA : A.length ≤ 400) (hc : A[i] = B[j]) :
    wrap64 ((T.getD (i + 1) []).getD (j + 1) 0 + 1) = (Lcs.lcs (A.drop i) (B.drop j) : Int) := by
  have b := Lcs.le_left (A.drop (i + 1)) (B.drop (j + 1))
  rw [List.length_drop] at b
  rw [h.past (r := i + 1) (c := j + 1) hi hj (.inl (lt' (Nat.lt_succ_self i))), List.drop_eq_getElem_cons hi, List.drop_eq_getElem_cons hj, hc, Lcs.lcs_eq]
  generalize Lcs.lcs (A.drop (i + 1)) (B.drop (j + 1)) = n at b ⊢
  exact up (by omega)
theorem Inv.diff {A B : List (List UInt8)} {i j : Nat} {T : List (List Int)} (h : Inv A B i j T) (hi : i < A.length) (hj : j < B.length) (hc : A[i] ≠ B[j]) :
    mx ((T.getD (i + 1) []).getD j 0) ((T.getD i []).getD (j + 1) 0) = (Lcs.lcs (A.drop i) (B.drop j) : Int) := by
  rw [h.past (r := i + 1) (c := j) hi (Nat.le_of_lt hj) (.inl (lt' (Nat.lt_succ_self i))), h.past (r := i) (c := j + 1) (Nat.le_of_lt hi) hj (.inr ⟨rfl, lt' (Nat.lt_succ_self j)⟩), mx_max]
  refine congrArg (fun n : Nat => (n : Int)) ?_
  rw [List.drop_eq_getElem_cons hi, List.drop_eq_getElem_cons hj, Lcs.lcs_ne hc]

section
variable {A B : List ByteArray}

theorem l2_same (k : Nat) {T : List (List Int)} {i j : Nat} (hA : A.length ≤ 400) (hB : B.length ≤ 400) (hi : i < A.length) (hj : j < B.length) (hT : T.length = A.length + 1)
    (r0 : (T.getD i []).length = B.length + 1) (r1 : (T.getD (i + 1) []).length = B.length + 1) (he : (rdOf ByteArray.empty A (i : Int)).toList = (rdOf ByteArray.empty B (j : Int)).toList) :
    breakpoint_Move.l2 (k + 1) A B T (i : Int) (j : Int) = breakpoint_Move.l2 k A B (T.set i ((T.getD i []).set j (wrap64 ((T.getD (i + 1) []).getD (j + 1) 0 + 1)))) (i : Int) ((j : Int) - 1) := by
  have hi1 : i ≤ 1000 := by omega
  have hj1 : j ≤ 1000 := by omega
  have c1 : i < T.length := by omega
  have c2 : i + 1 < T.length := by omega
  have c3 : j + 1 < (T.getD (i + 1) []).length := by omega
  have c4 : j < (T.getD i []).length := by omega
  rw [breakpoint_Move.l2]
  simp only [up hi1, up hj1, down hj1, rd3, rdn, Int.toNat_natCast]
  rw [if_pos (ge0 j), if_pos (ge0 i), if_pos (lt' hi), if_pos (ge0 j), if_pos (lt' hj), if_pos he, if_pos (lt' c1), if_pos (ge0 (i + 1)), if_pos (lt' c2), if_pos (ge0 (j + 1)), if_pos (lt' c3), if_pos (lt' c4)]

theorem l2_diff (k : Nat) {T : List (List Int)} {i j : Nat} (hA : A.length ≤ 400) (hB : B.length ≤ 400) (hi : i < A.length) (hj : j < B.length) (hT : T.length = A.length + 1)
    (r0 : (T.getD i []).length = B.length + 1) (r1 : (T.getD (i + 1) []).length = B.length + 1) (he : ¬ (rdOf ByteArray.empty A (i : Int)).toList = (rdOf ByteArray.empty B (j : Int)).toList) :
    breakpoint_Move.l2 (k + 1) A B T (i : Int) (j : Int) = breakpoint_Move.l2 k A B (T.set i ((T.getD i []).set j (mx ((T.getD (i + 1) []).getD j 0) ((T.getD i []).getD (j + 1) 0)))) (i : Int) ((j : Int) - 1) := by
  have hi1 : i ≤ 1000 := by omega
  have hj1 : j ≤ 1000 := by omega
  have c1 : i < T.length := by omega
  have c2 : i + 1 < T.length := by omega
  have c3 : j < (T.getD (i + 1) []).length := by omega
  have c4 : j + 1 < (T.getD i []).length := by omega
  have c5 : j < (T.getD i []).length := by omega
  rw [breakpoint_Move.l2]
  simp only [up hi1, up hj1, down hj1, rd3, rdn, Int.toNat_natCast]
  rw [if_pos (ge0 j), if_pos (ge0 i), if_pos (lt' hi), if_pos (ge0 j), if_pos (lt' hj), if_neg he, if_pos (lt' c1), if_pos (ge0 (i + 1)), if_pos (lt' c2), if_pos (lt' c3), if_pos (ge0 (j + 1)), if_pos (lt' c4), if_pos (lt' c5)]

theorem l2_end (k : Nat) {T : List (List Int)} {i : Nat} (hi : i ≤ 1000) : breakpoint_Move.l2 (k + 1) A B T (i : Int) (-1) = breakpoint_Move.l1 k A B T ((i : Int) - 1) := by
  rw [breakpoint_Move.l2, if_neg (by decide), down hi]
theorem l1_go (k : Nat) {T : List (List Int)} {i : Nat} (hB : B.length ≤ 400) : breakpoint_Move.l1 (k + 1) A B T (i : Int) = breakpoint_Move.l2 k A B T (i : Int) ((B.length : Int) - 1) := by
  rw [breakpoint_Move.l1, if_pos (ge0 i), down (by omega)]
theorem l1_end (k : Nat) {T : List (List Int)} (hA : A.length ≤ 400) : breakpoint_Move.l1 (k + 1) A B T (-1) = breakpoint_Move.l3 k A B T (List.replicate A.length 0) 0 0 := by
  have c : A.length ≤ 35184372088832 := by omega
  rw [breakpoint_Move.l1, if_neg (by decide), if_pos (ge0 _), Int.toNat_natCast, if_pos c]

theorem move_l2 (hA : A.length ≤ 400) (hB : B.length ≤ 400) {r : List Int} {i : Nat} (hi : i < A.length) : ∀ (j : Nat) (T : List (List Int)), j ≤ B.length → Inv (dl A) (dl B) i ((j : Int) - 1) T →
    (∀ T', Inv (dl A) (dl B) i (-1) T' → ∃ k, breakpoint_Move.l1 k A B T' ((i : Int) - 1) = some r) → ∃ k, breakpoint_Move.l2 k A B T i ((j : Int) - 1) = some r := by
  have la := dl_length A
  have lb := dl_length B
  have hi' : i < (dl A).length := by rw [la]; exact hi
  have hA' : (dl A).length ≤ 400 := by rw [la]; exact hA
  intro j
  induction j with
  | zero =>
    intro T _ hT hn
    rw [pred_zero] at hT ⊢
    obtain ⟨k, hk⟩ := hn T hT
    exact ⟨k + 1, by rw [l2_end k (by omega)]; exact hk⟩
  | succ j ih =>
    intro T hj hT hn
    rw [pred_succ] at hT ⊢
    have hj0 : j < B.length := hj
    have hj' : j < (dl B).length := by rw [lb]; exact hj
    have hlen : T.length = A.length + 1 := by rw [hT.len, la]
    have r0 : (T.getD i []).length = B.length + 1 := by rw [hT.row i (Nat.le_of_lt hi'), lb]
    have r1 : (T.getD (i + 1) []).length = B.length + 1 := by rw [hT.row (i + 1) hi', lb]
    have hline := line_eq A B i j hi' hj'
    by_cases hc : (dl A)[i] = (dl B)[j]
    · obtain ⟨k, hk⟩ := ih _ (Nat.le_of_lt hj0) (hT.set hi' hj' _ (hT.same hi' hj' hA' hc)) hn
      exact ⟨k + 1, by rw [l2_same k hA hB hi hj0 hlen r0 r1 (hline.2 hc)]; exact hk⟩
    · obtain ⟨k, hk⟩ := ih _ (Nat.le_of_lt hj0) (hT.set hi' hj' _ (hT.diff hi' hj' hc)) hn
      exact ⟨k + 1, by rw [l2_diff k hA hB hi hj0 hlen r0 r1 (fun h => hc (hline.1 h))]; exact hk⟩

theorem move_l1 (hA : A.length ≤ 400) (hB : B.length ≤ 400) {r : List Int} : ∀ (i : Nat) (T : List (List Int)), i ≤ A.length → Inv (dl A) (dl B) ((i : Int) - 1) ((B.length : Int) - 1) T →
    (∀ T', Inv (dl A) (dl B) (-1) ((B.length : Int) - 1) T' → ∃ k, breakpoint_Move.l3 k A B T' (List.replicate A.length 0) 0 0 = some r) → ∃ k, breakpoint_Move.l1 k A B T ((i : Int) - 1) = some r := by
  intro i
  induction i with
  | zero =>
    intro T _ hT hn
    rw [pred_zero] at hT ⊢
    obtain ⟨k, hk⟩ := hn T hT
    exact ⟨k + 1, by rw [l1_end k hA]; exact hk⟩
  | succ i ih =>
    intro T hi hT hn
    rw [pred_succ] at hT ⊢
    obtain ⟨k, hk⟩ := move_l2 hA hB (r := r) (Nat.lt_of_succ_le hi) B.length T (Nat.le_refl _) hT (fun T' hT' => ih T' (Nat.le_of_lt (Nat.lt_of_succ_le hi)) (by have := hT'.next; rw [dl_length] at this; exact this) hn)
    exact ⟨k + 1, by rw [l1_go k hB]; exact hk⟩

theorem rep_set {α : Type} (x y : α) (i d : Nat) : (List.replicate i x ++ List.replicate (d + 1) y).set i x = List.replicate (i + 1) x ++ List.replicate d y := by
  rw [List.set_append_right _ _ (by simp), List.length_replicate, Nat.sub_self, List.replicate_succ, List.set_cons_zero, List.replicate_succ', List.append_assoc]
  rfl
theorem l0_go (k : Nat) {T : List (List Int)} {n i : Nat} (hB : B.length ≤ 400) (hi : i < n) (hn : n ≤ 500) (hT : i < T.length) :
    breakpoint_Move.l0 (k + 1) A B T (n : Int) (i : Int) = breakpoint_Move.l0 k A B (T.set i (List.replicate (B.length + 1) 0)) (n : Int) ((i + 1 : Nat) : Int) := by
  have hi1 : i ≤ 1000 := by omega
  have hb1 : B.length ≤ 1000 := by omega
  have c : B.length + 1 ≤ 35184372088832 := by omega
  rw [breakpoint_Move.l0]
  simp only [up hi1, up hb1, Int.toNat_natCast]
  rw [if_pos (lt' hi), if_pos (ge0 _), if_pos c, if_pos (ge0 i), if_pos (lt' hT)]
theorem l0_end (k : Nat) {T : List (List Int)} {n : Nat} (hA : A.length ≤ 400) : breakpoint_Move.l0 (k + 1) A B T (n : Int) (n : Int) = breakpoint_Move.l1 k A B T ((A.length : Int) - 1) := by
  rw [breakpoint_Move.l0, if_neg (Int.lt_irrefl _), down (by omega)]

theorem move_l0 (hA : A.length ≤ 400) (hB : B.length ≤ 400) {r : List Int} : ∀ (d i : Nat) , i + d = A.length + 1 →
    (∃ k, breakpoint_Move.l1 k A B (List.replicate (A.length + 1) (List.replicate (B.length + 1) 0)) ((A.length : Int) - 1) = some r) →
    ∃ k, breakpoint_Move.l0 k A B (List.replicate i (List.replicate (B.length + 1) 0) ++ List.replicate d []) ((A.length + 1 : Nat) : Int) i = some r := by
  intro d
  induction d with
  | zero =>
    intro i hd ⟨k, hk⟩
    obtain rfl : i = A.length + 1 := by omega
    exact ⟨k + 1, by rw [l0_end k hA, List.replicate_zero, List.append_nil]; exact hk⟩
  | succ d ih =>
    intro i hd hn
    obtain ⟨k, hk⟩ := ih (i + 1) (by omega) hn
    have e3 := rep_set (List.replicate (B.length + 1) (0 : Int)) [] i d
    have c : i < (List.replicate i (List.replicate (B.length + 1) (0 : Int)) ++ List.replicate (d + 1) []).length := by rw [List.length_append, List.length_replicate, List.length_replicate]; omega
    exact ⟨k + 1, by rw [l0_go k hB (by omega) (by omega) c, e3]; exact hk⟩

theorem l3_go (k : Nat) {T : List (List Int)} {out : List Int} {i j : Nat} (hi : i < A.length) (hj : j < B.length) : breakpoint_Move.l3 (k + 1) A B T out (i : Int) (j : Int) = breakpoint_Move.j5 k A B T out i j true := by
  rw [breakpoint_Move.l3, if_pos (lt' hi), decide_eq_true (lt' hj)]
theorem l3_a (k : Nat) {T : List (List Int)} {out : List Int} {j : Nat} : breakpoint_Move.l3 (k + 2) A B T out (A.length : Int) (j : Int) = some out := by
  rw [breakpoint_Move.l3, if_neg (Int.lt_irrefl _), breakpoint_Move.j5, if_neg Bool.false_ne_true]
theorem l3_b (k : Nat) {T : List (List Int)} {out : List Int} {i : Nat} (hi : i < A.length) : breakpoint_Move.l3 (k + 2) A B T out (i : Int) (B.length : Int) = some out := by
  rw [breakpoint_Move.l3, if_pos (lt' hi), decide_eq_false (Int.lt_irrefl _), breakpoint_Move.j5, if_neg Bool.false_ne_true]

theorem j5_same (k : Nat) {T : List (List Int)} {out : List Int} {i j : Nat} (hA : A.length ≤ 400) (hB : B.length ≤ 400) (hi : i < A.length) (hj : j < B.length) (hT : T.length = A.length + 1)
    (r0 : (T.getD i []).length = B.length + 1) (r1 : (T.getD (i + 1) []).length = B.length + 1) (he : (rdOf ByteArray.empty A (i : Int)).toList = (rdOf ByteArray.empty B (j : Int)).toList) :
    breakpoint_Move.j5 (k + 1) A B T out (i : Int) (j : Int) true = breakpoint_Move.j6 k A B T out i j ((T.getD i []).getD j 0 == wrap64 ((T.getD (i + 1) []).getD (j + 1) 0 + 1)) := by
  have hi1 : i ≤ 1000 := by omega
  have hj1 : j ≤ 1000 := by omega
  have c1 : i < T.length := by omega
  have c2 : i + 1 < T.length := by omega
  have c3 : j + 1 < (T.getD (i + 1) []).length := by omega
  have c5 : j < (T.getD i []).length := by omega
  rw [breakpoint_Move.j5, if_pos rfl]
  simp only [up hi1, up hj1, rd3, rdn]
  rw [if_pos (ge0 i), if_pos (lt' hi), if_pos (ge0 j), if_pos (lt' hj), if_pos he, if_pos (lt' c1), if_pos (lt' c5), if_pos (ge0 (i + 1)), if_pos (lt' c2), if_pos (ge0 (j + 1)), if_pos (lt' c3)]
theorem j5_diff (k : Nat) {T : List (List Int)} {out : List Int} {i j : Nat} (hi : i < A.length) (hj : j < B.length) (he : ¬ (rdOf ByteArray.empty A (i : Int)).toList = (rdOf ByteArray.empty B (j : Int)).toList) :
    breakpoint_Move.j5 (k + 1) A B T out (i : Int) (j : Int) true = breakpoint_Move.j6 k A B T out i j false := by
  rw [breakpoint_Move.j5, if_pos rfl, if_pos (ge0 i), if_pos (lt' hi), if_pos (ge0 j), if_pos (lt' hj), if_neg he]
theorem j6_yes (k : Nat) {T : List (List Int)} {out : List Int} {i j : Nat} (hi : i < out.length) (hi1 : i ≤ 1000) (hj1 : j ≤ 1000) :
    breakpoint_Move.j6 (k + 1) A B T out (i : Int) (j : Int) true = breakpoint_Move.l3 k A B T (out.set i ((j + 1 : Nat) : Int)) ((i + 1 : Nat) : Int) ((j + 1 : Nat) : Int) := by
  rw [breakpoint_Move.j6, if_pos rfl]
  simp only [up hi1, up hj1, Int.toNat_natCast]
  rw [if_pos (ge0 i), if_pos (lt' hi)]
theorem j6_no (k : Nat) {T : List (List Int)} {out : List Int} {i j : Nat} (hA : A.length ≤ 400) (hB : B.length ≤ 400) (hi : i < A.length) (hj : j < B.length) (hT : T.length = A.length + 1)
    (r0 : (T.getD i []).length = B.length + 1) (r1 : (T.getD (i + 1) []).length = B.length + 1) :
    breakpoint_Move.j6 (k + 1) A B T out (i : Int) (j : Int) false = if (T.getD (i + 1) []).getD j 0 ≥ (T.getD i []).getD (j + 1) 0 then breakpoint_Move.l3 k A B T out ((i + 1 : Nat) : Int) j else breakpoint_Move.l3 k A B T out i ((j + 1 : Nat) : Int) := by
  have hi1 : i ≤ 1000 := by omega
  have hj1 : j ≤ 1000 := by omega
  have c1 : i < T.length := by omega
  have c2 : i + 1 < T.length := by omega
  have c3 : j < (T.getD (i + 1) []).length := by omega
  have c5 : j + 1 < (T.getD i []).length := by omega
  rw [breakpoint_Move.j6, if_neg Bool.false_ne_true]
  simp only [up hi1, up hj1, rd3, rdn]
  rw [if_pos (ge0 (i + 1)), if_pos (lt' c2), if_pos (ge0 j), if_pos (lt' c3), if_pos (ge0 i), if_pos (lt' c1), if_pos (ge0 (j + 1)), if_pos (lt' c5)]

theorem take_set_succ : ∀ (out : List Int) (i : Nat) (v : Int), i < out.length → (out.set i v).take (i + 1) = out.take i ++ [v]
  | [], _, _, h => absurd h (by simp)
  | x :: out, 0, v, _ => by simp
  | x :: out, i + 1, v, h => by
    have := take_set_succ out i v (by simpa using h)
    simp only [List.set_cons_succ, List.take_succ_cons, List.cons_append, this]
theorem take_succ_at : ∀ (out : List Int) (i : Nat) (v : Int), out[i]? = some v → out.take (i + 1) = out.take i ++ [v]
  | [], _, _, h => by simp at h
  | x :: out, 0, v, h => by simpa using h
  | x :: out, i + 1, v, h => by
    have := take_succ_at out i v (by simpa using h)
    simp only [List.take_succ_cons, List.cons_append, this]
theorem zeros_left (out : List Int) (i n : Nat) (ho : out.length = n) (hz : ∀ q : Nat, i ≤ q → q < n → out[q]? = some 0) : out.take i ++ List.replicate (n - i) 0 = out := by
  have : out.drop i = List.replicate (n - i) 0 := by
    apply List.ext_getElem?
    intro q
    rw [List.getElem?_drop, List.getElem?_replicate]
    by_cases hq : q < n - i
    · rw [if_pos hq]; exact hz _ (by omega) (by omega)
    · rw [if_neg hq, List.getElem?_eq_none (by omega)]
  rw [← this, List.take_append_drop]

theorem move_l3 (hA : A.length ≤ 400) (hB : B.length ≤ 400) {T : List (List Int)} (hT : Inv (dl A) (dl B) (-1) ((B.length : Int) - 1) T) : ∀ (N i j : Nat) (out : List Int), (A.length - i) + (B.length - j) ≤ N → i ≤ A.length → j ≤ B.length → out.length = A.length →
    (∀ q : Nat, i ≤ q → q < A.length → out[q]? = some 0) → ∃ k, breakpoint_Move.l3 k A B T out i j = some (out.take i ++ Lcs.tr ((dl A).drop i) ((dl B).drop j) j) := by
  have la := dl_length A
  have lb := dl_length B
  have hlen : T.length = A.length + 1 := by rw [hT.len, la]
  have ea : ∀ (i : Nat), i = A.length → ∀ (j : Nat) (out : List Int), out.length = A.length → ∃ k, breakpoint_Move.l3 k A B T out i j = some (out.take i ++ Lcs.tr ((dl A).drop i) ((dl B).drop j) j) := by
    rintro i rfl j out ho
    refine ⟨2, ?_⟩
    rw [l3_a 0]
    have e : (dl A).drop A.length = [] := by rw [← la, List.drop_length]
    rw [e, Lcs.tr_nil, List.append_nil, ← ho, List.take_length]
  intro N
  induction N with
  | zero =>
    intro i j out hN hi hj ho hz
    exact ea i (by omega) j out ho
  | succ N ih =>
    intro i j out hN hi hj ho hz
    by_cases hi1 : i = A.length
    · exact ea i hi1 j out ho
    have hi0 : i < A.length := Nat.lt_of_le_of_ne hi hi1
    by_cases hj1 : j = B.length
    · subst hj1
      refine ⟨2, ?_⟩
      rw [l3_b 0 hi0]
      have e : (dl B).drop B.length = [] := by rw [← lb, List.drop_length]
      rw [e, Lcs.tr_nil', List.length_drop, la, zeros_left out i A.length ho hz]
    have hj0 : j < B.length := Nat.lt_of_le_of_ne hj hj1
    have hi' : i < (dl A).length := by rw [la]; exact hi0
    have hj' : j < (dl B).length := by rw [lb]; exact hj0
    have r0 : (T.getD i []).length = B.length + 1 := by rw [hT.row i (Nat.le_of_lt hi'), lb]
    have r1 : (T.getD (i + 1) []).length = B.length + 1 := by rw [hT.row (i + 1) hi', lb]
    have hline := line_eq A B i j hi' hj'
    have hm : ∀ r : Nat, (-1 : Int) < (r : Int) := fun r => by omega
    have v00 := hT.past (r := i) (c := j) (Nat.le_of_lt hi') (Nat.le_of_lt hj') (.inl (hm _))
    have v11 := hT.past (r := i + 1) (c := j + 1) hi' hj' (.inl (hm _))
    have v10 := hT.past (r := i + 1) (c := j) hi' (Nat.le_of_lt hj') (.inl (hm _))
    have v01 := hT.past (r := i) (c := j + 1) (Nat.le_of_lt hi') hj' (.inl (hm _))
    have eA := List.drop_eq_getElem_cons hi'
    have eB := List.drop_eq_getElem_cons hj'
    by_cases hc : (dl A)[i] = (dl B)[j]
    · obtain ⟨k, hk⟩ := ih (i + 1) (j + 1) (out.set i ((j + 1 : Nat) : Int)) (by omega) hi0 hj0 (by rw [List.length_set]; exact ho) (fun q h1 h2 => by rw [List.getElem?_set_ne (by omega)]; exact hz q (by omega) h2)
      have e0 : ((T.getD i []).getD j 0 == wrap64 ((T.getD (i + 1) []).getD (j + 1) 0 + 1)) = true := by
        have b := Lcs.le_left ((dl A).drop (i + 1)) ((dl B).drop (j + 1))
        rw [List.length_drop, la] at b
        rw [v00, v11, eA, eB, hc, Lcs.lcs_eq]
        generalize Lcs.lcs ((dl A).drop (i + 1)) ((dl B).drop (j + 1)) = n at b ⊢
        rw [up (by omega)]
        exact beq_self_eq_true _
      refine ⟨k + 3, ?_⟩
      rw [l3_go _ hi0 hj0, j5_same _ hA hB hi0 hj0 hlen r0 r1 (hline.2 hc), e0, j6_yes _ (by omega) (by omega) (by omega), hk, take_set_succ out i _ (by omega), eA, eB, hc, Lcs.tr_eq, List.append_assoc]
      rfl
    · have hiff : ((T.getD (i + 1) []).getD j 0 ≥ (T.getD i []).getD (j + 1) 0) ↔ Lcs.lcs ((dl A)[i] :: (dl A).drop (i + 1)) ((dl B).drop (j + 1)) ≤ Lcs.lcs ((dl A).drop (i + 1)) ((dl B)[j] :: (dl B).drop (j + 1)) := by
        rw [v10, v01, ← eA, ← eB]
        exact Int.ofNat_le
      by_cases hle : (T.getD (i + 1) []).getD j 0 ≥ (T.getD i []).getD (j + 1) 0
      · obtain ⟨k, hk⟩ := ih (i + 1) j out (by omega) hi0 hj ho (fun q h1 h2 => hz q (by omega) h2)
        refine ⟨k + 3, ?_⟩
        rw [l3_go _ hi0 hj0, j5_diff _ hi0 hj0 (fun h => hc (hline.1 h)), j6_no _ hA hB hi0 hj0 hlen r0 r1, if_pos hle, hk, take_succ_at out i 0 (hz i (Nat.le_refl _) hi0), List.append_assoc, eA, eB, Lcs.tr_le hc _ _ _ (hiff.1 hle)]
        rfl
      · obtain ⟨k, hk⟩ := ih i (j + 1) out (by omega) hi hj0 ho hz
        refine ⟨k + 3, ?_⟩
        rw [l3_go _ hi0 hj0, j5_diff _ hi0 hj0 (fun h => hc (hline.1 h)), j6_no _ hA hB hi0 hj0 hlen r0 r1, if_neg hle, hk, eA, eB, Lcs.tr_gt hc _ _ _ (fun h => hle (hiff.2 h))]

theorem move_j0 (hA : A.length ≤ 400) (hB : B.length ≤ 400) : ∃ k, breakpoint_Move.j0 k A B false = some (Lcs.tr (dl A) (dl B) 0) := by
  have la := dl_length A
  have lb := dl_length B
  obtain ⟨k, hk⟩ := move_l0 hA hB (r := Lcs.tr (dl A) (dl B) 0) (A.length + 1) 0 (Nat.zero_add _) (move_l1 hA hB A.length _ (Nat.le_refl _) (by
      have := Inv.start (dl A) (dl B); rw [la, lb] at this; exact this) (fun T hT => by
      have := move_l3 hA hB hT _ 0 0 (List.replicate A.length 0) (Nat.le_refl _) (Nat.zero_le _) (Nat.zero_le _) (List.length_replicate ..) (fun q _ h => by rw [List.getElem?_replicate, if_pos h])
      simpa using this))
  have hA1 : A.length ≤ 1000 := by omega
  have c : A.length + 1 ≤ 11728124029610 := by omega
  refine ⟨k + 1, ?_⟩
  rw [breakpoint_Move.j0, if_neg Bool.false_ne_true]
  simp only [up hA1, Int.toNat_natCast]
  rw [if_pos (ge0 _), if_pos c, Option.bind_some, List.length_replicate]
  simpa using hk
end

theorem LeO.chain {α : Type} {f : Nat → Option α} (hm : ∀ k, LeO (f k) (f (k + 1))) {k : Nat} {r : α} (h : f k = some r) : ∀ d, f (k + d) = some r
  | 0 => h
  | d + 1 => hm _ _ (LeO.chain hm h d)
theorem LeO.up {α : Type} {f : Nat → Option α} (hm : ∀ k, LeO (f k) (f (k + 1))) {k : Nat} {r : α} (h : f k = some r) {k' : Nat} (hk : k ≤ k') : f k' = some r := by
  have := LeO.chain hm h (k' - k)
  rwa [Nat.add_sub_cancel' hk] at this

theorem not_big {n : Nat} (h : n ≤ 400) : ¬ ((n : Int) > 400) := by omega

theorem move_spec (a b : ByteArray) (ha : a.size < 4294967281) (hb : b.size < 4294967281) (hA : (Spl.lines a.data.toList).length ≤ 400) (hB : (Spl.lines b.data.toList).length ≤ 400) :
    ∃ k, breakpoint_Move.f k a b = some (Lcs.tr (Spl.lines a.data.toList) (Spl.lines b.data.toList) 0) := by
  have ea : dl (Spl.cut a) = Spl.lines a.data.toList := Spl.cut_data a
  have eb : dl (Spl.cut b) = Spl.lines b.data.toList := Spl.cut_data b
  have la : (Spl.cut a).length ≤ 400 := by rw [← dl_length, ea]; exact hA
  have lb : (Spl.cut b).length ≤ 400 := by rw [← dl_length, eb]; exact hB
  obtain ⟨k, hk⟩ := move_j0 (A := Spl.cut a) (B := Spl.cut b) la lb
  rw [ea, eb] at hk
  refine ⟨k, ?_⟩
  unfold breakpoint_Move.f strings_Split.f
  rw [if_pos rfl, if_pos ha, if_pos rfl, if_pos hb, Option.bind_some, Option.bind_some, if_neg (not_big la), decide_eq_false (not_big lb)]
  exact hk
end Go.Proofs.YtkmhbfgkhalaoaaGreatDoor.PB

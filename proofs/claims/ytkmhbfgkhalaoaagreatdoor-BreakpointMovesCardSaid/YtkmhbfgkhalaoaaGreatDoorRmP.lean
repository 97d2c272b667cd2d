/- What the Lean function of debuggerref40.Move answers: the same way back as breakpoint.Move's. Condition: at most 400 lines each. -/
import Derived.Test.YtkmhbfgkhalaoaaGreatDoorPuA
import Derived.Test.YtkmhbfgkhalaoaaGreatDoorRmA
namespace Go.Proofs.YtkmhbfgkhalaoaaGreatDoor.PB
open Go.RowKit Go.Proofs.YtkmhbfgkhalaoaaGreatDoorW.PrintWords Go.Proofs.YtkmhbfgkhalaoaaGreatDoorW.PrintLast Go.Proofs.YtkmhbfgkhalaoaaGreatDoorW.PrintMore

/-- The table from a row on, where a row may be under way. -/
structure RInv (A B : List (List UInt8)) (i : Nat) (j : Int) (T : List (List Int)) : Prop where
  len : T.length = A.length + 1
  row : ∀ r : Nat, i ≤ r → r ≤ A.length → (T.getD r []).length = B.length + 1
  val : ∀ r c : Nat, i ≤ r → r ≤ A.length → c ≤ B.length → (i < r ∨ j < (c : Int)) → (T.getD r []).getD c 0 = (Lcs.lcs (A.drop r) (B.drop c) : Int)

theorem getD_set_self {α : Type} (xs : List α) (i : Nat) (v d : α) (h : i < xs.length) : (xs.set i v).getD i d = v := by
  rw [List.getD_eq_getElem?_getD, List.getElem?_set_self h, Option.getD_some]
theorem getD_set_ne {α : Type} (xs : List α) (i c : Nat) (v d : α) (h : i ≠ c) : (xs.set i v).getD c d = xs.getD c d := by
  rw [List.getD_eq_getElem?_getD, List.getElem?_set_ne h, ← List.getD_eq_getElem?_getD]

theorem RInv.put {A B : List (List UInt8)} {i j : Nat} {T : List (List Int)} (h : RInv A B i j T) (hi : i < A.length) (hj : j < B.length) (v : Int) (hv : v = (Lcs.lcs (A.drop i) (B.drop j) : Int)) :
    RInv A B i ((j : Int) - 1) (T.set i ((T.getD i []).set j v)) := by
  have hl := h.len
  have hiT : i < T.length := by omega
  have hr0 := h.row i (Nat.le_refl _) (Nat.le_of_lt hi)
  have hjT : j < (T.getD i []).length := by omega
  refine ⟨by rw [List.length_set]; exact hl, fun r h1 h2 => ?_, fun r c h1 h2 h3 h4 => ?_⟩
  · by_cases e : i = r
    · subst e
      rw [getD_set_self _ _ _ _ hiT, List.length_set]; exact hr0
    · rw [getD_set_ne _ _ _ _ _ e]; exact h.row r h1 h2
  · by_cases e : i = r
    · subst e
      rw [getD_set_self _ _ _ _ hiT]
      by_cases e2 : j = c
      · subst e2
        rw [getD_set_self _ _ _ _ hjT]; exact hv
      · rw [getD_set_ne _ _ _ _ _ e2]
        refine h.val i c h1 h2 h3 (.inr ?_)
        rcases h4 with h4 | h4
        · exact absurd h4 (Nat.lt_irrefl _)
        · omega
    · rw [getD_set_ne _ _ _ _ _ e]
      exact h.val r c h1 h2 h3 (.inl (Nat.lt_of_le_of_ne h1 e))

theorem RInv.zero {A B : List (List UInt8)} {i : Nat} {T : List (List Int)} (h : RInv A B (i + 1) (-1) T) (hi : i < A.length) :
    RInv A B i ((B.length : Int) - 1) (T.set i (List.replicate (B.length + 1) 0)) := by
  have hl := h.len
  have hiT : i < T.length := by omega
  refine ⟨by rw [List.length_set]; exact hl, fun r h1 h2 => ?_, fun r c h1 h2 h3 h4 => ?_⟩
  · by_cases e : i = r
    · subst e
      rw [getD_set_self _ _ _ _ hiT, List.length_replicate]
    · rw [getD_set_ne _ _ _ _ _ e]; exact h.row r (Nat.lt_of_le_of_ne h1 e) h2
  · by_cases e : i = r
    · subst e
      have hc : c = B.length := by
        rcases h4 with h4 | h4
        · exact absurd h4 (Nat.lt_irrefl _)
        · omega
      rw [getD_set_self _ _ _ _ hiT, hc, List.drop_length, Lcs.lcs_nil', List.getD_eq_getElem?_getD, List.getElem?_replicate, if_pos (Nat.lt_succ_self _), Option.getD_some]
      rfl
    · rw [getD_set_ne _ _ _ _ _ e]
      refine h.val r c (Nat.lt_of_le_of_ne h1 e) h2 h3 (.inr ?_)
      omega

theorem RInv.first (A B : List (List UInt8)) : RInv A B A.length (-1) ((List.replicate (A.length + 1) []).set A.length (List.replicate (B.length + 1) 0)) := by
  have hl : (List.replicate (A.length + 1) ([] : List Int)).length = A.length + 1 := List.length_replicate ..
  have hA : A.length < (List.replicate (A.length + 1) ([] : List Int)).length := by rw [hl]; exact Nat.lt_succ_self _
  refine ⟨by rw [List.length_set]; exact hl, fun r h1 h2 => ?_, fun r c h1 h2 h3 _ => ?_⟩
  · obtain rfl : r = A.length := Nat.le_antisymm h2 h1
    rw [getD_set_self _ _ _ _ hA, List.length_replicate]
  · obtain rfl : r = A.length := Nat.le_antisymm h2 h1
    rw [getD_set_self _ _ _ _ hA, List.drop_length, Lcs.lcs_nil, List.getD_eq_getElem?_getD, List.getElem?_replicate, if_pos (Nat.lt_succ_of_le h3), Option.getD_some]
    rfl

/-- Below row 0 there is nothing: the whole table. -/
theorem RInv.all {A B : List (List UInt8)} {T : List (List Int)} (h : RInv A B 0 (-1) T) : Inv A B (-1) ((B.length : Int) - 1) T := by
  refine ⟨h.len, fun r hr => h.row r (Nat.zero_le _) hr, fun r c hr hc => ?_⟩
  have h1 : (-1 : Int) < (r : Int) := by omega
  rw [if_pos (.inl h1)]
  refine h.val r c (Nat.zero_le _) hr hc (.inr ?_)
  omega

theorem lcs_same (x : List UInt8) (a b : List (List UInt8)) : max (max (Lcs.lcs a (x :: b)) (Lcs.lcs (x :: a) b)) (Lcs.lcs a b + 1) = Lcs.lcs (x :: a) (x :: b) := by
  rw [Lcs.lcs_eq]
  have h1 := Lcs.cons_right x a b
  have h2 := Lcs.cons_left x a b
  omega

section
variable {A B : List ByteArray}

theorem r_l1_same (k : Nat) {T : List (List Int)} {i j : Nat} {v u : Int} (hA : A.length ≤ 400) (hB : B.length ≤ 400) (hi : i < A.length) (hj : j < B.length) (hT : T.length = A.length + 1)
    (r0 : (T.getD i []).length = B.length + 1) (r1 : (T.getD (i + 1) []).length = B.length + 1) (he : (rdOf ByteArray.empty A (i : Int)).toList = (rdOf ByteArray.empty B (j : Int)).toList)
    (hv : mx ((T.getD (i + 1) []).getD j 0) ((T.getD i []).getD (j + 1) 0) = v) (hu : mx v (wrap64 ((T.getD (i + 1) []).getD (j + 1) 0 + 1)) = u) :
    debuggerref40_Move.l1 (k + 1) A B T (i : Int) (j : Int) = debuggerref40_Move.l1 k A B (T.set i ((T.getD i []).set j u)) (i : Int) ((j : Int) - 1) := by
  have hi1 : i ≤ 1000 := by omega
  have hj1 : j ≤ 1000 := by omega
  have c1 : i < T.length := by omega
  have c2 : i + 1 < T.length := by omega
  have c3 : j < (T.getD (i + 1) []).length := by omega
  have c4 : j + 1 < (T.getD i []).length := by omega
  have c5 : j < (T.getD i []).length := by omega
  have c6 : j + 1 < (T.getD (i + 1) []).length := by omega
  have c7 : j < ((T.getD i []).set j v).length := by rw [List.length_set]; exact c5
  have e1 : (T.set i ((T.getD i []).set j v)).getD i [] = (T.getD i []).set j v := getD_set_self _ _ _ _ c1
  have e2 : (T.set i ((T.getD i []).set j v)).getD (i + 1) [] = T.getD (i + 1) [] := getD_set_ne _ _ _ _ _ (Nat.ne_of_lt (Nat.lt_succ_self i))
  have e3 : ((T.getD i []).set j v).getD j 0 = v := getD_set_self _ _ _ _ c5
  rw [debuggerref40_Move.l1]
  simp only [up hi1, up hj1, down hj1, rd3, rdn, Int.toNat_natCast]
  rw [if_pos (ge0 j), if_pos (ge0 i), if_pos (lt' c1), if_pos (ge0 (i + 1)), if_pos (lt' c2), if_pos (ge0 j), if_pos (lt' c3), if_pos (ge0 (j + 1)), if_pos (lt' c4), if_pos (lt' c5), hv, Option.bind_some, if_pos (lt' hi), if_pos (lt' hj), if_pos he]
  simp only [e1, e2, e3]
  rw [if_pos (lt' c7), if_pos (lt' c6), hu, List.set_set, List.set_set]

theorem r_l1_diff (k : Nat) {T : List (List Int)} {i j : Nat} (hA : A.length ≤ 400) (hB : B.length ≤ 400) (hi : i < A.length) (hj : j < B.length) (hT : T.length = A.length + 1)
    (r0 : (T.getD i []).length = B.length + 1) (r1 : (T.getD (i + 1) []).length = B.length + 1) (he : ¬ (rdOf ByteArray.empty A (i : Int)).toList = (rdOf ByteArray.empty B (j : Int)).toList) :
    debuggerref40_Move.l1 (k + 1) A B T (i : Int) (j : Int) = debuggerref40_Move.l1 k A B (T.set i ((T.getD i []).set j (mx ((T.getD (i + 1) []).getD j 0) ((T.getD i []).getD (j + 1) 0)))) (i : Int) ((j : Int) - 1) := by
  have hi1 : i ≤ 1000 := by omega
  have hj1 : j ≤ 1000 := by omega
  have c1 : i < T.length := by omega
  have c2 : i + 1 < T.length := by omega
  have c3 : j < (T.getD (i + 1) []).length := by omega
  have c4 : j + 1 < (T.getD i []).length := by omega
  have c5 : j < (T.getD i []).length := by omega
  rw [debuggerref40_Move.l1]
  simp only [up hi1, up hj1, down hj1, rd3, rdn, Int.toNat_natCast]
  rw [if_pos (ge0 j), if_pos (ge0 i), if_pos (lt' c1), if_pos (ge0 (i + 1)), if_pos (lt' c2), if_pos (ge0 j), if_pos (lt' c3), if_pos (ge0 (j + 1)), if_pos (lt' c4), if_pos (lt' c5), Option.bind_some, if_pos (lt' hi), if_pos (lt' hj), if_neg he]

theorem r_l1_end (k : Nat) {T : List (List Int)} {i : Nat} (hi : i ≤ 1000) : debuggerref40_Move.l1 (k + 1) A B T (i : Int) (-1) = debuggerref40_Move.l0 k A B T ((i : Int) - 1) := by
  rw [debuggerref40_Move.l1, if_neg (by decide), down hi]
theorem r_l0_go (k : Nat) {T : List (List Int)} {i : Nat} (hB : B.length ≤ 400) (hi : i < T.length) : debuggerref40_Move.l0 (k + 1) A B T (i : Int) = debuggerref40_Move.l1 k A B (T.set i (List.replicate (B.length + 1) 0)) (i : Int) ((B.length : Int) - 1) := by
  have hb1 : B.length ≤ 1000 := by omega
  have c : B.length + 1 ≤ 35184372088832 := by omega
  rw [debuggerref40_Move.l0]
  simp only [up hb1, down hb1, Int.toNat_natCast]
  rw [if_pos (ge0 i), if_pos (ge0 _), if_pos c, if_pos (ge0 i), if_pos (lt' hi)]
theorem r_l0_end (k : Nat) {T : List (List Int)} (hA : A.length ≤ 400) : debuggerref40_Move.l0 (k + 1) A B T (-1) = debuggerref40_Move.l2 k A B T (List.replicate A.length 0) 0 0 := by
  have c : A.length ≤ 35184372088832 := by omega
  rw [debuggerref40_Move.l0, if_neg (by decide), if_pos (ge0 _), Int.toNat_natCast, if_pos c]

theorem r_l1 (hA : A.length ≤ 400) (hB : B.length ≤ 400) {r : List Int} {i : Nat} (hi : i < A.length) : ∀ (j : Nat) (T : List (List Int)), j ≤ B.length → RInv (dl A) (dl B) i ((j : Int) - 1) T →
    (∀ T', RInv (dl A) (dl B) i (-1) T' → ∃ k, debuggerref40_Move.l0 k A B T' ((i : Int) - 1) = some r) → ∃ k, debuggerref40_Move.l1 k A B T i ((j : Int) - 1) = some r := by
  have la := dl_length A
  have lb := dl_length B
  have hi' : i < (dl A).length := by rw [la]; exact hi
  intro j
  induction j with
  | zero =>
    intro T _ hT hn
    rw [pred_zero] at hT ⊢
    obtain ⟨k, hk⟩ := hn T hT
    exact ⟨k + 1, by rw [r_l1_end k (by omega)]; exact hk⟩
  | succ j ih =>
    intro T hj hT hn
    rw [pred_succ] at hT ⊢
    have hj0 : j < B.length := hj
    have hj' : j < (dl B).length := by rw [lb]; exact hj
    have hlen : T.length = A.length + 1 := by rw [hT.len, la]
    have r0 : (T.getD i []).length = B.length + 1 := by rw [hT.row i (Nat.le_refl _) (Nat.le_of_lt hi'), lb]
    have r1 : (T.getD (i + 1) []).length = B.length + 1 := by rw [hT.row (i + 1) (Nat.le_succ i) hi', lb]
    have hline := line_eq A B i j hi' hj'
    have v10 := hT.val (i + 1) j (Nat.le_succ i) hi' (Nat.le_of_lt hj') (.inl (Nat.lt_succ_self i))
    have v11 := hT.val (i + 1) (j + 1) (Nat.le_succ i) hi' hj' (.inl (Nat.lt_succ_self i))
    have v01 := hT.val i (j + 1) (Nat.le_refl _) (Nat.le_of_lt hi') hj' (.inr (lt' (Nat.lt_succ_self j)))
    have eA := List.drop_eq_getElem_cons hi'
    have eB := List.drop_eq_getElem_cons hj'
    have hm : mx ((T.getD (i + 1) []).getD j 0) ((T.getD i []).getD (j + 1) 0) = ((max (Lcs.lcs ((dl A).drop (i + 1)) ((dl B).drop j)) (Lcs.lcs ((dl A).drop i) ((dl B).drop (j + 1))) : Nat) : Int) := by rw [v10, v01, mx_max]
    by_cases hc : (dl A)[i] = (dl B)[j]
    · have b := Lcs.le_left ((dl A).drop (i + 1)) ((dl B).drop (j + 1))
      rw [List.length_drop, la] at b
      have hu : mx ((max (Lcs.lcs ((dl A).drop (i + 1)) ((dl B).drop j)) (Lcs.lcs ((dl A).drop i) ((dl B).drop (j + 1))) : Nat) : Int) (wrap64 ((T.getD (i + 1) []).getD (j + 1) 0 + 1)) = (Lcs.lcs ((dl A).drop i) ((dl B).drop j) : Int) := by
        rw [v11, up (by omega), mx_max]
        refine congrArg (fun n : Nat => (n : Int)) ?_
        rw [eA, eB, hc]
        exact lcs_same _ _ _
      obtain ⟨k, hk⟩ := ih _ (Nat.le_of_lt hj0) (hT.put hi' hj' _ rfl) hn
      exact ⟨k + 1, by rw [r_l1_same k hA hB hi hj0 hlen r0 r1 (hline.2 hc) hm hu]; exact hk⟩
    · have hd : mx ((T.getD (i + 1) []).getD j 0) ((T.getD i []).getD (j + 1) 0) = (Lcs.lcs ((dl A).drop i) ((dl B).drop j) : Int) := by
        rw [hm]
        refine congrArg (fun n : Nat => (n : Int)) ?_
        rw [eA, eB, Lcs.lcs_ne hc]
      obtain ⟨k, hk⟩ := ih _ (Nat.le_of_lt hj0) (hT.put hi' hj' _ rfl) hn
      exact ⟨k + 1, by rw [r_l1_diff k hA hB hi hj0 hlen r0 r1 (fun h => hc (hline.1 h)), hd]; exact hk⟩

theorem r_l0 (hA : A.length ≤ 400) (hB : B.length ≤ 400) {r : List Int} : ∀ (i : Nat) (T : List (List Int)), i ≤ A.length → RInv (dl A) (dl B) i (-1) T →
    (∀ T', RInv (dl A) (dl B) 0 (-1) T' → ∃ k, debuggerref40_Move.l2 k A B T' (List.replicate A.length 0) 0 0 = some r) → ∃ k, debuggerref40_Move.l0 k A B T ((i : Int) - 1) = some r := by
  have la := dl_length A
  have lb := dl_length B
  intro i
  induction i with
  | zero =>
    intro T _ hT hn
    rw [pred_zero]
    obtain ⟨k, hk⟩ := hn T hT
    exact ⟨k + 1, by rw [r_l0_end k hA]; exact hk⟩
  | succ i ih =>
    intro T hi hT hn
    rw [pred_succ]
    have hi0 : i < A.length := hi
    have hi' : i < (dl A).length := by rw [la]; exact hi
    have hiT : i < T.length := by rw [hT.len]; omega
    have hz := hT.zero hi'
    rw [lb] at hz
    obtain ⟨k, hk⟩ := r_l1 hA hB (r := r) hi0 B.length _ (Nat.le_refl _) hz (fun T' hT' => ih T' (Nat.le_of_lt hi0) hT' hn)
    exact ⟨k + 1, by rw [r_l0_go k hB hiT]; exact hk⟩

theorem r_l3_go (k : Nat) {T : List (List Int)} {out : List Int} {i j : Nat} (hi : i < A.length) (hj : j < B.length) : debuggerref40_Move.l2 (k + 1) A B T out (i : Int) (j : Int) = debuggerref40_Move.j4 k A B T out i j true := by
  rw [debuggerref40_Move.l2, if_pos (lt' hi), decide_eq_true (lt' hj)]
theorem r_l3_a (k : Nat) {T : List (List Int)} {out : List Int} {j : Nat} : debuggerref40_Move.l2 (k + 2) A B T out (A.length : Int) (j : Int) = some out := by
  rw [debuggerref40_Move.l2, if_neg (Int.lt_irrefl _), debuggerref40_Move.j4, if_neg Bool.false_ne_true]
theorem r_l3_b (k : Nat) {T : List (List Int)} {out : List Int} {i : Nat} (hi : i < A.length) : debuggerref40_Move.l2 (k + 2) A B T out (i : Int) (B.length : Int) = some out := by
  rw [debuggerref40_Move.l2, if_pos (lt' hi), decide_eq_false (Int.lt_irrefl _), debuggerref40_Move.j4, if_neg Bool.false_ne_true]

theorem r_j5_same (k : Nat) {T : List (List Int)} {out : List Int} {i j : Nat} (hA : A.length ≤ 400) (hB : B.length ≤ 400) (hi : i < A.length) (hj : j < B.length) (hT : T.length = A.length + 1)
    (r0 : (T.getD i []).length = B.length + 1) (r1 : (T.getD (i + 1) []).length = B.length + 1) (he : (rdOf ByteArray.empty A (i : Int)).toList = (rdOf ByteArray.empty B (j : Int)).toList) :
    debuggerref40_Move.j4 (k + 1) A B T out (i : Int) (j : Int) true = debuggerref40_Move.j5 k A B T out i j ((T.getD i []).getD j 0 == wrap64 ((T.getD (i + 1) []).getD (j + 1) 0 + 1)) := by
  have hi1 : i ≤ 1000 := by omega
  have hj1 : j ≤ 1000 := by omega
  have c1 : i < T.length := by omega
  have c2 : i + 1 < T.length := by omega
  have c3 : j + 1 < (T.getD (i + 1) []).length := by omega
  have c5 : j < (T.getD i []).length := by omega
  rw [debuggerref40_Move.j4, if_pos rfl]
  simp only [up hi1, up hj1, rd3, rdn]
  rw [if_pos (ge0 i), if_pos (lt' hi), if_pos (ge0 j), if_pos (lt' hj), if_pos he, if_pos (lt' c1), if_pos (lt' c5), if_pos (ge0 (i + 1)), if_pos (lt' c2), if_pos (ge0 (j + 1)), if_pos (lt' c3)]
theorem r_j5_diff (k : Nat) {T : List (List Int)} {out : List Int} {i j : Nat} (hi : i < A.length) (hj : j < B.length) (he : ¬ (rdOf ByteArray.empty A (i : Int)).toList = (rdOf ByteArray.empty B (j : Int)).toList) :
    debuggerref40_Move.j4 (k + 1) A B T out (i : Int) (j : Int) true = debuggerref40_Move.j5 k A B T out i j false := by
  rw [debuggerref40_Move.j4, if_pos rfl, if_pos (ge0 i), if_pos (lt' hi), if_pos (ge0 j), if_pos (lt' hj), if_neg he]
theorem r_j6_yes (k : Nat) {T : List (List Int)} {out : List Int} {i j : Nat} (hi : i < out.length) (hi1 : i ≤ 1000) (hj1 : j ≤ 1000) :
    debuggerref40_Move.j5 (k + 1) A B T out (i : Int) (j : Int) true = debuggerref40_Move.l2 k A B T (out.set i ((j + 1 : Nat) : Int)) ((i + 1 : Nat) : Int) ((j + 1 : Nat) : Int) := by
  rw [debuggerref40_Move.j5, if_pos rfl]
  simp only [up hi1, up hj1, Int.toNat_natCast]
  rw [if_pos (ge0 i), if_pos (lt' hi)]
theorem r_j6_no (k : Nat) {T : List (List Int)} {out : List Int} {i j : Nat} (hA : A.length ≤ 400) (hB : B.length ≤ 400) (hi : i < A.length) (hj : j < B.length) (hT : T.length = A.length + 1)
    (r0 : (T.getD i []).length = B.length + 1) (r1 : (T.getD (i + 1) []).length = B.length + 1) :
    debuggerref40_Move.j5 (k + 1) A B T out (i : Int) (j : Int) false = if (T.getD (i + 1) []).getD j 0 ≥ (T.getD i []).getD (j + 1) 0 then debuggerref40_Move.l2 k A B T out ((i + 1 : Nat) : Int) j else debuggerref40_Move.l2 k A B T out i ((j + 1 : Nat) : Int) := by
  have hi1 : i ≤ 1000 := by omega
  have hj1 : j ≤ 1000 := by omega
  have c1 : i < T.length := by omega
  have c2 : i + 1 < T.length := by omega
  have c3 : j < (T.getD (i + 1) []).length := by omega
  have c5 : j + 1 < (T.getD i []).length := by omega
  rw [debuggerref40_Move.j5, if_neg Bool.false_ne_true]
  simp only [up hi1, up hj1, rd3, rdn]
  rw [if_pos (ge0 (i + 1)), if_pos (lt' c2), if_pos (ge0 j), if_pos (lt' c3), if_pos (ge0 i), if_pos (lt' c1), if_pos (ge0 (j + 1)), if_pos (lt' c5)]

theorem r_move_l3 (hA : A.length ≤ 400) (hB : B.length ≤ 400) {T : List (List Int)} (hT : Inv (dl A) (dl B) (-1) ((B.length : Int) - 1) T) : ∀ (N i j : Nat) (out : List Int), (A.length - i) + (B.length - j) ≤ N → i ≤ A.length → j ≤ B.length → out.length = A.length →
    (∀ q : Nat, i ≤ q → q < A.length → out[q]? = some 0) → ∃ k, debuggerref40_Move.l2 k A B T out i j = some (out.take i ++ Lcs.tr ((dl A).drop i) ((dl B).drop j) j) := by
  have la := dl_length A
  have lb := dl_length B
  have hlen : T.length = A.length + 1 := by rw [hT.len, la]
  have ea : ∀ (i : Nat), i = A.length → ∀ (j : Nat) (out : List Int), out.length = A.length → ∃ k, debuggerref40_Move.l2 k A B T out i j = some (out.take i ++ Lcs.tr ((dl A).drop i) ((dl B).drop j) j) := by
    rintro i rfl j out ho
    refine ⟨2, ?_⟩
    rw [r_l3_a 0]
    have e : (dl A).drop A.length = [] := by rw [← la, List.drop_length]
    rw [e, Lcs.tr_nil, List.append_nil, ← ho, List.take_length]
  intro N
  induction N with
  | zero =>
    intro i j out hN hi hj ho hz
    exact ea i (by omega) j out ho
  | succ N ih =>
    intro i j out hN hi hj ho hz
    by_cases hi1 : i = A.length
    · exact ea i hi1 j out ho
    have hi0 : i < A.length := Nat.lt_of_le_of_ne hi hi1
    by_cases hj1 : j = B.length
    · subst hj1
      refine ⟨2, ?_⟩
      rw [r_l3_b 0 hi0]
      have e : (dl B).drop B.length = [] := by rw [← lb, List.drop_length]
      rw [e, Lcs.tr_nil', List.length_drop, la, zeros_left out i A.length ho hz]
    have hj0 : j < B.length := Nat.lt_of_le_of_ne hj hj1
    have hi' : i < (dl A).length := by rw [la]; exact hi0
    have hj' : j < (dl B).length := by rw [lb]; exact hj0
    have r0 : (T.getD i []).length = B.length + 1 := by rw [hT.row i (Nat.le_of_lt hi'), lb]
    have r1 : (T.getD (i + 1) []).length = B.length + 1 := by rw [hT.row (i + 1) hi', lb]
    have hline := line_eq A B i j hi' hj'
    have hm : ∀ r : Nat, (-1 : Int) < (r : Int) := fun r => by omega
    have v00 := hT.past (r := i) (c := j) (Nat.le_of_lt hi') (Nat.le_of_lt hj') (.inl (hm _))
    have v11 := hT.past (r := i + 1) (c := j + 1) hi' hj' (.inl (hm _))
    have v10 := hT.past (r := i + 1) (c := j) hi' (Nat.le_of_lt hj') (.inl (hm _))
    have v01 := hT.past (r := i) (c := j + 1) (Nat.le_of_lt hi') hj' (.inl (hm _))
    have eA := List.drop_eq_getElem_cons hi'
    have eB := List.drop_eq_getElem_cons hj'
    by_cases hc : (dl A)[i] = (dl B)[j]
    · obtain ⟨k, hk⟩ := ih (i + 1) (j + 1) (out.set i ((j + 1 : Nat) : Int)) (by omega) hi0 hj0 (by rw [List.length_set]; exact ho) (fun q h1 h2 => by rw [List.getElem?_set_ne (by omega)]; exact hz q (by omega) h2)
      have e0 : ((T.getD i []).getD j 0 == wrap64 ((T.getD (i + 1) []).getD (j + 1) 0 + 1)) = true := by
        have b := Lcs.le_left ((dl A).drop (i + 1)) ((dl B).drop (j + 1))
        rw [List.length_drop, la] at b
        rw [v00, v11, eA, eB, hc, Lcs.lcs_eq]
        generalize Lcs.lcs ((dl A).drop (i + 1)) ((dl B).drop (j + 1)) = n at b ⊢
        rw [up (by omega)]
        exact beq_self_eq_true _
      refine ⟨k + 3, ?_⟩
      rw [r_l3_go _ hi0 hj0, r_j5_same _ hA hB hi0 hj0 hlen r0 r1 (hline.2 hc), e0, r_j6_yes _ (by omega) (by omega) (by omega), hk, take_set_succ out i _ (by omega), eA, eB, hc, Lcs.tr_eq, List.append_assoc]
      rfl
    · have hiff : ((T.getD (i + 1) []).getD j 0 ≥ (T.getD i []).getD (j + 1) 0) ↔ Lcs.lcs ((dl A)[i] :: (dl A).drop (i + 1)) ((dl B).drop (j + 1)) ≤ Lcs.lcs ((dl A).drop (i + 1)) ((dl B)[j] :: (dl B).drop (j + 1)) := by
        rw [v10, v01, ← eA, ← eB]
        exact Int.ofNat_le
      by_cases hle : (T.getD (i + 1) []).getD j 0 ≥ (T.getD i []).getD (j + 1) 0
      · obtain ⟨k, hk⟩ := ih (i + 1) j out (by omega) hi0 hj ho (fun q h1 h2 => hz q (by omega) h2)
        refine ⟨k + 3, ?_⟩
        rw [r_l3_go _ hi0 hj0, r_j5_diff _ hi0 hj0 (fun h => hc (hline.1 h)), r_j6_no _ hA hB hi0 hj0 hlen r0 r1, if_pos hle, hk, take_succ_at out i 0 (hz i (Nat.le_refl _) hi0), List.append_assoc, eA, eB, Lcs.tr_le hc _ _ _ (hiff.1 hle)]
        rfl
      · obtain ⟨k, hk⟩ := ih i (j + 1) out (by omega) hi hj0 ho hz
        refine ⟨k + 3, ?_⟩
        rw [r_l3_go _ hi0 hj0, r_j5_diff _ hi0 hj0 (fun h => hc (hline.1 h)), r_j6_no _ hA hB hi0 hj0 hlen r0 r1, if_neg hle, hk, eA, eB, Lcs.tr_gt hc _ _ _ (fun h => hle (hiff.2 h))]


theorem r_j0 (hA : A.length ≤ 400) (hB : B.length ≤ 400) : ∃ k, debuggerref40_Move.j0 k A B false = some (Lcs.tr (dl A) (dl B) 0) := by
  have la := dl_length A
  have lb := dl_length B
  have hf := RInv.first (dl A) (dl B)
  rw [la, lb] at hf
  obtain ⟨k, hk⟩ := r_l0 hA hB (r := Lcs.tr (dl A) (dl B) 0) A.length _ (Nat.le_refl _) hf (fun T hT => by
      have hT' := hT.all
      rw [lb] at hT'
      have := r_move_l3 hA hB hT' _ 0 0 (List.replicate A.length 0) (Nat.le_refl _) (Nat.zero_le _) (Nat.zero_le _) (List.length_replicate ..) (fun q _ h => by rw [List.getElem?_replicate, if_pos h])
      simpa using this)
  have hA1 : A.length ≤ 1000 := by omega
  have hB1 : B.length ≤ 1000 := by omega
  have c : A.length + 1 ≤ 11728124029610 := by omega
  have c2 : B.length + 1 ≤ 35184372088832 := by omega
  have c3 : A.length < (List.replicate (A.length + 1) ([] : List Int)).length := by rw [List.length_replicate]; exact Nat.lt_succ_self _
  refine ⟨k + 1, ?_⟩
  rw [debuggerref40_Move.j0, if_neg Bool.false_ne_true]
  simp only [up hA1, up hB1, down hA1, Int.toNat_natCast]
  rw [if_pos (ge0 _), if_pos c, Option.bind_some, if_pos (ge0 _), if_pos c2, if_pos (ge0 _), if_pos (lt' c3)]
  exact hk
end

theorem rmove_spec (a b : ByteArray) (ha : a.size < 4294967281) (hb : b.size < 4294967281) (hA : (Spl.lines a.data.toList).length ≤ 400) (hB : (Spl.lines b.data.toList).length ≤ 400) :
    ∃ k, debuggerref40_Move.f k a b = some (Lcs.tr (Spl.lines a.data.toList) (Spl.lines b.data.toList) 0) := by
  obtain ⟨k1, X, h1, hX⟩ := lines_spec a ha
  obtain ⟨k2, Y, h2, hY⟩ := lines_spec b hb
  have lX : X.length ≤ 400 := by rw [← dl_length, hX]; exact hA
  have lY : Y.length ≤ 400 := by rw [← dl_length, hY]; exact hB
  obtain ⟨k3, h3⟩ := r_j0 (A := X) (B := Y) lX lY
  rw [hX, hY] at h3
  have g1 := LeO.up (f := fun k => debuggerref40_Lines.f k a) (fun k => debuggerref40_Lines.mono _ k) h1 (k' := k1 + k2 + k3) (by omega)
  have g2 := LeO.up (f := fun k => debuggerref40_Lines.f k b) (fun k => debuggerref40_Lines.mono _ k) h2 (k' := k1 + k2 + k3) (by omega)
  have g3 := LeO.up (f := fun k => debuggerref40_Move.j0 k X Y false) (fun k => (debuggerref40_Move.mono_l k).1 _ _ _) h3 (k' := k1 + k2 + k3) (by omega)
  refine ⟨k1 + k2 + k3, ?_⟩
  unfold debuggerref40_Move.f
  rw [show debuggerref40_Lines.f (k1 + k2 + k3) a = _ from g1, Option.bind_some, show debuggerref40_Lines.f (k1 + k2 + k3) b = _ from g2, Option.bind_some, if_neg (not_big lX), decide_eq_false (not_big lY)]
  exact g3
end Go.Proofs.YtkmhbfgkhalaoaaGreatDoor.PB

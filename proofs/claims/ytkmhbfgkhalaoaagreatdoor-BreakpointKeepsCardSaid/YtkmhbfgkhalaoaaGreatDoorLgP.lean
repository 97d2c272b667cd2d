/- The helper 'longest' of law 40 answers the length of the longest common subsequence. Condition: at most 400 lines each. -/
import Derived.Test.YtkmhbfgkhalaoaaGreatDoorPuA
import Derived.Test.YtkmhbfgkhalaoaaGreatDoorKpA1
namespace Go.Proofs.YtkmhbfgkhalaoaaGreatDoor.PB
open Go.RowKit Go.Proofs.YtkmhbfgkhalaoaaGreatDoorW.PrintWords Go.Proofs.YtkmhbfgkhalaoaaGreatDoorW.PrintLast Go.Proofs.YtkmhbfgkhalaoaaGreatDoorW.PrintMore

/-- The longest common subsequence of two beginnings. -/
def pre (A B : List (List UInt8)) (i j : Nat) : Nat := Lcs.lcs (A.take i).reverse (B.take j).reverse
theorem pre_zero (A B : List (List UInt8)) (i : Nat) : pre A B i 0 = 0 := by unfold pre; rw [List.take_zero, List.reverse_nil, Lcs.lcs_nil']
theorem pre_zero' (A B : List (List UInt8)) (j : Nat) : pre A B 0 j = 0 := by unfold pre; rw [List.take_zero, List.reverse_nil, Lcs.lcs_nil]
theorem rev_take (A : List (List UInt8)) (i : Nat) (h : i < A.length) : (A.take (i + 1)).reverse = A[i] :: (A.take i).reverse := by
  rw [List.take_succ_eq_append_getElem h, List.reverse_append]; rfl
theorem pre_le (A B : List (List UInt8)) (i j : Nat) : pre A B i j ≤ j := by
  have h := Lcs.le_right (A.take i).reverse (B.take j).reverse
  rw [List.length_reverse, List.length_take] at h
  exact Nat.le_trans h (Nat.min_le_left _ _)
theorem pre_same (A B : List (List UInt8)) (i j : Nat) (hi : i < A.length) (hj : j < B.length) (h : A[i] = B[j]) :
    max (max (pre A B (i + 1) j) (pre A B i (j + 1))) (pre A B i j + 1) = pre A B (i + 1) (j + 1) := by
  unfold pre
  rw [rev_take A i hi, rev_take B j hj, h, Lcs.lcs_eq]
  have h1 := Lcs.cons_left B[j] (A.take i).reverse (B.take j).reverse
  have h2 := Lcs.cons_right B[j] (A.take i).reverse (B.take j).reverse
  omega
theorem pre_diff (A B : List (List UInt8)) (i j : Nat) (hi : i < A.length) (hj : j < B.length) (h : A[i] ≠ B[j]) :
    max (pre A B (i + 1) j) (pre A B i (j + 1)) = pre A B (i + 1) (j + 1) := by
  unfold pre
  rw [rev_take A i hi, rev_take B j hj, Lcs.lcs_ne h]
  exact Nat.max_comm _ _
theorem pre_all (A B : List (List UInt8)) : pre A B A.length B.length = Lcs.lcs A B := by
  unfold pre
  rw [List.take_length, List.take_length, Lcs.reverse]

/-- A row of the table that is reckoned up to a place. -/
structure Row (A B : List (List UInt8)) (i j : Nat) (xs : List Int) : Prop where
  len : xs.length = B.length + 1
  val : ∀ c, c ≤ j → xs.getD c 0 = (pre A B i c : Int)

theorem Row.start (A B : List (List UInt8)) (i : Nat) : Row A B i 0 (List.replicate (B.length + 1) 0) := by
  refine ⟨List.length_replicate .., fun c hc => ?_⟩
  obtain rfl : c = 0 := Nat.le_zero.1 hc
  rw [pre_zero, List.getD_eq_getElem?_getD, List.getElem?_replicate, if_pos (Nat.succ_pos _), Option.getD_some]
  rfl
theorem Row.first (A B : List (List UInt8)) : Row A B 0 B.length (List.replicate (B.length + 1) 0) := by
  refine ⟨List.length_replicate .., fun c hc => ?_⟩
  rw [pre_zero', List.getD_eq_getElem?_getD, List.getElem?_replicate, if_pos (Nat.lt_succ_of_le hc), Option.getD_some]
  rfl
theorem Row.put {A B : List (List UInt8)} {i j : Nat} {xs : List Int} (h : Row A B i j xs) (hj : j < B.length) (v : Int) (hv : v = (pre A B i (j + 1) : Int)) : Row A B i (j + 1) (xs.set (j + 1) v) := by
  refine ⟨by rw [List.length_set]; exact h.len, fun c hc => ?_⟩
  have hl := h.len
  by_cases e : j + 1 = c
  · subst e
    rw [List.getD_eq_getElem?_getD, List.getElem?_set_self (by omega), Option.getD_some, hv]
  · rw [List.getD_eq_getElem?_getD, List.getElem?_set_ne e, ← List.getD_eq_getElem?_getD]
    exact h.val c (by omega)

section
variable {A B : List ByteArray}

theorem lg_l1_same (k : Nat) {last next : List Int} {i j : Nat} {v : Int} (hB : B.length ≤ 400) (hi : i < A.length) (hj : j < B.length) (hl : last.length = B.length + 1) (hn : next.length = B.length + 1)
    (he : (rdOf ByteArray.empty A (i : Int)).toList = (rdOf ByteArray.empty B (j : Int)).toList) (hv : mx (next.getD j 0) (last.getD (j + 1) 0) = v) :
    debuggerlaw40_longest.l1 (k + 1) A B last (i : Int) next (j : Int) = debuggerlaw40_longest.l1 k A B last i (next.set (j + 1) (mx v (wrap64 (last.getD j 0 + 1)))) ((j + 1 : Nat) : Int) := by
  have hj1 : j ≤ 1000 := by omega
  have c1 : j < next.length := by omega
  have c2 : j + 1 < last.length := by omega
  have c3 : j + 1 < next.length := by omega
  have c4 : j < last.length := by omega
  have e1 : (next.set (j + 1) v).getD (j + 1) 0 = v := by rw [List.getD_eq_getElem?_getD, List.getElem?_set_self c3, Option.getD_some]
  rw [debuggerlaw40_longest.l1]
  simp only [up hj1, rdn, Int.toNat_natCast]
  rw [if_pos (lt' hj), if_pos (ge0 j), if_pos (lt' c1), if_pos (ge0 (j + 1)), if_pos (lt' c2), if_pos (lt' c3), hv, Option.bind_some, if_pos (ge0 i), if_pos (lt' hi), if_pos he, if_pos (lt' c4), e1, List.set_set]

theorem lg_l1_diff (k : Nat) {last next : List Int} {i j : Nat} (hB : B.length ≤ 400) (hi : i < A.length) (hj : j < B.length) (hl : last.length = B.length + 1) (hn : next.length = B.length + 1)
    (he : ¬ (rdOf ByteArray.empty A (i : Int)).toList = (rdOf ByteArray.empty B (j : Int)).toList) :
    debuggerlaw40_longest.l1 (k + 1) A B last (i : Int) next (j : Int) = debuggerlaw40_longest.l1 k A B last i (next.set (j + 1) (mx (next.getD j 0) (last.getD (j + 1) 0))) ((j + 1 : Nat) : Int) := by
  have hj1 : j ≤ 1000 := by omega
  have c1 : j < next.length := by omega
  have c2 : j + 1 < last.length := by omega
  have c3 : j + 1 < next.length := by omega
  rw [debuggerlaw40_longest.l1]
  simp only [up hj1, rdn, Int.toNat_natCast]
  rw [if_pos (lt' hj), if_pos (ge0 j), if_pos (lt' c1), if_pos (ge0 (j + 1)), if_pos (lt' c2), if_pos (lt' c3), Option.bind_some, if_pos (ge0 i), if_pos (lt' hi), if_neg he]

theorem lg_l1 (hA : A.length ≤ 400) (hB : B.length ≤ 400) {r : Int} {last : List Int} {i : Nat} (hi : i < A.length) (hlast : Row (dl A) (dl B) i B.length last)
    (hn : ∀ next, Row (dl A) (dl B) (i + 1) B.length next → ∃ k, debuggerlaw40_longest.l0 k A B next ((i + 1 : Nat) : Int) = some r) :
    ∀ (d j : Nat) (next : List Int), j + d = B.length → Row (dl A) (dl B) (i + 1) j next → ∃ k, debuggerlaw40_longest.l1 k A B last i next j = some r := by
  have la := dl_length A
  have lb := dl_length B
  have hi' : i < (dl A).length := by rw [la]; exact hi
  have hi1 : i ≤ 1000 := by omega
  have hll : last.length = B.length + 1 := by rw [hlast.len, lb]
  intro d
  induction d with
  | zero =>
    intro j next hd hr
    obtain rfl : j = B.length := by omega
    obtain ⟨k, hk⟩ := hn next hr
    refine ⟨k + 1, ?_⟩
    rw [debuggerlaw40_longest.l1, if_neg (Int.lt_irrefl _), up hi1, hk]
  | succ d ih =>
    intro j next hd hr
    have hj : j < B.length := by omega
    have hj' : j < (dl B).length := by rw [lb]; exact hj
    have hnl : next.length = B.length + 1 := by rw [hr.len, lb]
    have hline := line_eq A B i j hi' hj'
    have v1 := hr.val j (Nat.le_refl _)
    have v2 := hlast.val (j + 1) hj
    have v3 := hlast.val j (Nat.le_of_lt hj)
    have hm : mx (next.getD j 0) (last.getD (j + 1) 0) = ((max (pre (dl A) (dl B) (i + 1) j) (pre (dl A) (dl B) i (j + 1)) : Nat) : Int) := by rw [v1, v2, mx_max]
    by_cases hc : (dl A)[i] = (dl B)[j]
    · have hle := pre_le (dl A) (dl B) i j
      obtain ⟨k, hk⟩ := ih (j + 1) _ (by omega) (hr.put hj' _ (by
        show mx ((max (pre (dl A) (dl B) (i + 1) j) (pre (dl A) (dl B) i (j + 1)) : Nat) : Int) (wrap64 (last.getD j 0 + 1)) = _
        rw [v3, up (by omega), mx_max, pre_same _ _ i j hi' hj' hc]))
      exact ⟨k + 1, by rw [lg_l1_same k hB hi hj hll hnl (hline.2 hc) hm]; exact hk⟩
    · obtain ⟨k, hk⟩ := ih (j + 1) _ (by omega) (hr.put hj' _ (hm.trans (congrArg (fun n : Nat => (n : Int)) (pre_diff _ _ i j hi' hj' hc))))
      exact ⟨k + 1, by rw [lg_l1_diff k hB hi hj hll hnl (fun h => hc (hline.1 h))]; exact hk⟩

theorem lg_l0 (hA : A.length ≤ 400) (hB : B.length ≤ 400) : ∀ (d i : Nat) (last : List Int), i + d = A.length → Row (dl A) (dl B) i B.length last →
    ∃ k, debuggerlaw40_longest.l0 k A B last i = some (Lcs.lcs (dl A) (dl B) : Int) := by
  have la := dl_length A
  have lb := dl_length B
  intro d
  induction d with
  | zero =>
    intro i last hd hr
    obtain rfl : i = A.length := by omega
    have hl : last.length = B.length + 1 := by rw [hr.len, lb]
    have c : B.length < last.length := by omega
    have v := hr.val B.length (Nat.le_refl _)
    have e := pre_all (dl A) (dl B)
    rw [la, lb] at e
    rw [e] at v
    refine ⟨1, ?_⟩
    rw [debuggerlaw40_longest.l0, if_neg (Int.lt_irrefl _), if_pos (ge0 _), if_pos (lt' c), rdn, v]
  | succ d ih =>
    intro i last hd hr
    have hi : i < A.length := by omega
    have hb1 : B.length ≤ 1000 := by omega
    have c : B.length + 1 ≤ 35184372088832 := by omega
    have hs := Row.start (dl A) (dl B) (i + 1)
    rw [lb] at hs
    obtain ⟨k, hk⟩ := lg_l1 hA hB hi hr (fun next hnx => ih (i + 1) next (by omega) hnx) B.length 0 _ (Nat.zero_add _) hs
    refine ⟨k + 1, ?_⟩
    rw [debuggerlaw40_longest.l0]
    simp only [up hb1, Int.toNat_natCast]
    rw [if_pos (lt' hi), if_pos (ge0 _), if_pos c]
    exact hk

theorem longest_spec (hA : A.length ≤ 400) (hB : B.length ≤ 400) : ∃ k, debuggerlaw40_longest.f k A B = some (Lcs.lcs (dl A) (dl B) : Int) := by
  have hb1 : B.length ≤ 1000 := by omega
  have c : B.length + 1 ≤ 35184372088832 := by omega
  have hs := Row.first (dl A) (dl B)
  rw [dl_length] at hs
  obtain ⟨k, hk⟩ := lg_l0 hA hB A.length 0 _ (Nat.zero_add _) hs
  refine ⟨k, ?_⟩
  unfold debuggerlaw40_longest.f
  simp only [up hb1, Int.toNat_natCast]
  rw [if_pos (ge0 _), if_pos c]
  exact hk
end
end Go.Proofs.YtkmhbfgkhalaoaaGreatDoor.PB

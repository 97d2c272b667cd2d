/- WatchpointWords over lists: what the printed functions answer is true, for every input. -/
import Derived.Test.YtgikmhpggfmcnaaPWatchpointWordsx6
set_option linter.unusedVariables false
set_option linter.unusedSimpArgs false
namespace Go.Proofs.Ytgikmhpggfmcnaa.PWatchpointWords
open Go.RowKit Go.Proofs.YtgikmhpggfmcnaaW.PrintWords Go.Proofs.YtgikmhpggfmcnaaW.PrintLast Go.Proofs.YtgikmhpggfmcnaaW.PrintMore
theorem numT (a : Int) : debuggerlaw41_number.f a true = some (1, 0, [true], [a]) := rfl
theorem numF (a : Int) : debuggerlaw41_number.f a false = some (1, 0, [false], [0]) := rfl
theorem chkT (k : Nat) (p m : Int) : watchpoint_Check.f (k + 10) 1 0 [true] [p] 1 0 [true] [m] = some (1, 0, [true], [m], p != m) := by kernel_rfl
theorem chkF (k : Nat) (p : Int) : watchpoint_Check.f (k + 10) 1 0 [true] [p] 1 0 [false] [0] = some (1, 0, [true], [p], false) := by kernel_rfl
theorem awk (k : Nat) : debuggerlaw41_awake.f (k + 20) = some true := by
  unfold debuggerlaw41_awake.f
  simp only [numT, numF, Option.bind_some]
  rw [show k + 20 = (k + 10) + 10 from rfl, chkF]
  simp only [Option.bind_some, chkT]
  rfl
theorem rdOf_app {α : Type} (d : α) (xs : List α) (v : α) (j : Nat) (h : j ≤ xs.length) : rdOf d (xs ++ [v]) (j : Int) = if j = xs.length then v else rdOf d xs (j : Int) := by
  unfold rdOf
  simp only [Int.toNat_natCast, List.getD_eq_getElem?_getD]
  by_cases e : j = xs.length
  · subst e; simp
  · rw [if_neg e, List.getElem?_append_left (by omega)]
theorem rdOf_set {α : Type} (d : α) (xs : List α) (v : α) (i j : Nat) (h : i < xs.length) : rdOf d (xs.set i v) (j : Int) = if j = i then v else rdOf d xs (j : Int) := by
  unfold rdOf
  simp only [Int.toNat_natCast, List.getD_eq_getElem?_getD, List.getElem?_set]
  by_cases e : i = j
  · subst e; simp [h]
  · rw [if_neg e, if_neg (fun h => e h.symm)]
theorem rd_of (xs : List Int) (i : Int) : rd xs i = rdOf 0 xs i := rfl
theorem wrapS {i : Nat} (h : i < 100) : wrap64 ((i : Int) + 1) = ((i + 1 : Nat) : Int) := by unfold wrap64; omega

/-- Some word that is known is another one. -/
def Some (P : Nat → Bool) (i : Nat) : Bool := (List.range i).any P
theorem Some_succ (P : Nat → Bool) (i : Nat) : Some P (i + 1) = (Some P i || P i) := by
  simp [Some, List.range_succ]

/-- What Check answers for values of one length. -/
theorem chk_loop (n : Nat) (hn : n ≤ 6) (xk yk : List Bool) (xw yw : List Int) (h1 : xk.length = n) (h2 : yk.length = n) (h3 : xw.length = n) (h4 : yw.length = n) (hx : ∀ j, j < n → rdOf false xk (j : Int) = true) :
    ∀ (d k j : Nat) (zk : List Bool) (zw : List Int), n - j = d → j ≤ n → d + 2 ≤ k → zk.length = n → zw.length = n → (∀ i, i < n → rdOf false zk (i : Int) = true) →
      (∀ i, i < n → rdOf 0 zw (i : Int) = if i < j ∧ rdOf false yk (i : Int) = true then rdOf 0 yw (i : Int) else rdOf 0 xw (i : Int)) →
      ∃ zk' zw', watchpoint_Check.l0 k (Some (fun i => rdOf false yk (i : Int) && rdOf 0 xw (i : Int) != rdOf 0 yw (i : Int)) j) yk (n : Int) (j : Int) 3 0 xk xw 3 0 yk yw 3 0 zk zw =
        some (3, 0, zk', zw', Some (fun i => rdOf false yk (i : Int) && rdOf 0 xw (i : Int) != rdOf 0 yw (i : Int)) n) ∧ zk'.length = n ∧ zw'.length = n ∧ (∀ i, i < n → rdOf false zk' (i : Int) = true) ∧
        (∀ i, i < n → rdOf 0 zw' (i : Int) = if rdOf false yk (i : Int) = true then rdOf 0 yw (i : Int) else rdOf 0 xw (i : Int)) := by
  intro d
  induction d with
  | zero =>
    intro k j zk zw hd hj hk e1 e2 e3 e4
    obtain rfl : j = n := by omega
    obtain ⟨k, rfl⟩ : ∃ m, k = m + 1 := ⟨k - 1, by omega⟩
    refine ⟨zk, zw, ?_, e1, e2, e3, fun i hi => ?_⟩
    · simp only [watchpoint_Check.l0]
      rw [if_neg (by omega)]
    · rw [e4 i hi]; simp [hi]
  | succ d ih =>
    intro k j zk zw hd hj hk e1 e2 e3 e4
    obtain ⟨k, rfl⟩ : ∃ m, k = m + 1 := ⟨k - 1, by omega⟩
    have hjn : j < n := by omega
    generalize hP : (fun (i : Nat) => rdOf false yk (i : Int) && rdOf 0 xw (i : Int) != rdOf 0 yw (i : Int)) = P at *
    have hPj : P j = (rdOf false yk (j : Int) && rdOf 0 xw (j : Int) != rdOf 0 yw (j : Int)) := by rw [← hP]
    simp only [watchpoint_Check.l0]
    rw [if_pos (by omega), if_pos (by omega), if_pos (by omega), wrapS (by omega)]
    by_cases hkn : rdOf false yk (j : Int) = true
    · rw [if_pos hkn]
      have hset1 : ∀ i, i < n → rdOf false (zk.set j true) (i : Int) = true := fun i hi => by
        rw [rdOf_set _ _ _ _ _ (by omega)]; split
        · rfl
        · exact e3 i hi
      have hset2 : ∀ i, i < n → rdOf 0 (zw.set j (rd yw (j : Int))) (i : Int) = if i < j + 1 ∧ rdOf false yk (i : Int) = true then rdOf 0 yw (i : Int) else rdOf 0 xw (i : Int) := fun i hi => by
        rw [rdOf_set _ _ _ _ _ (by omega)]
        by_cases e : i = j
        · subst e; rw [if_pos rfl, if_pos ⟨by omega, hkn⟩]; rfl
        · rw [if_neg e, e4 i hi]
          by_cases h : i < j
          · simp [h, Nat.lt_succ_of_lt h]
          · rw [if_neg (fun h' => h h'.1), if_neg (fun h' => by omega)]
      have hgo := ih k (j + 1) (zk.set j true) (zw.set j (rd yw (j : Int))) (by omega) (by omega) (by omega) (by simp [e1]) (by simp [e2]) hset1 hset2
      rw [Some_succ, hPj, hkn, Bool.true_and] at hgo
      rw [Int.toNat_natCast]
      by_cases hc : Some P j = true
      · rw [hc] at hgo ⊢
        rw [if_pos rfl, if_pos (by omega), if_pos (by omega), if_pos (by omega)]
        simpa using hgo
      · replace hc := Bool.eq_false_iff.mpr hc
        rw [hc] at hgo ⊢
        rw [if_neg (by decide), if_pos (by omega), if_pos (hx j hjn), if_pos (by omega), if_pos (by omega), if_pos (by omega), if_pos (by omega)]
        simpa [rd_of] using hgo
    · rw [if_neg hkn]
      have hset2 : ∀ i, i < n → rdOf 0 zw (i : Int) = if i < j + 1 ∧ rdOf false yk (i : Int) = true then rdOf 0 yw (i : Int) else rdOf 0 xw (i : Int) := fun i hi => by
        rw [e4 i hi]
        by_cases e : i = j
        · subst e; rw [if_neg (fun h => hkn h.2), if_neg (fun h => hkn h.2)]
        · by_cases h : i < j
          · simp [h, Nat.lt_succ_of_lt h]
          · rw [if_neg (fun h' => h h'.1), if_neg (fun h' => by omega)]
      have hgo := ih k (j + 1) zk zw (by omega) (by omega) (by omega) e1 e2 e3 hset2
      rw [Some_succ, hPj, Bool.eq_false_iff.mpr hkn, Bool.false_and, Bool.or_false] at hgo
      exact hgo
theorem chk (n : Nat) (hn : n ≤ 6) (xk yk : List Bool) (xw yw : List Int) (h1 : xk.length = n) (h2 : yk.length = n) (h3 : xw.length = n) (h4 : yw.length = n) (hx : ∀ j, j < n → rdOf false xk (j : Int) = true) (k : Nat) (hk : 20 ≤ k) :
    ∃ zk' zw', watchpoint_Check.f k 3 0 xk xw 3 0 yk yw =
        some (3, 0, zk', zw', Some (fun i => rdOf false yk (i : Int) && rdOf 0 xw (i : Int) != rdOf 0 yw (i : Int)) n) ∧ zk'.length = n ∧ zw'.length = n ∧ (∀ i, i < n → rdOf false zk' (i : Int) = true) ∧
        (∀ i, i < n → rdOf 0 zw' (i : Int) = if rdOf false yk (i : Int) = true then rdOf 0 yw (i : Int) else rdOf 0 xw (i : Int)) := by
  obtain ⟨k, rfl⟩ : ∃ m, k = m + 1 := ⟨k - 1, by omega⟩
  obtain ⟨zk, zw, h, hr⟩ := chk_loop n hn xk yk xw yw h1 h2 h3 h4 hx n k 0 xk xw rfl (Nat.zero_le _) (by omega) h1 h3 hx (fun i hi => by simp)
  refine ⟨zk, zw, ?_, hr⟩
  unfold watchpoint_Check.f
  rw [if_pos rfl, if_pos rfl, if_pos (by omega), if_pos (by omega)]
  simp only [watchpoint_Check.j0]
  have e : (((yk.length : Int) != (yw.length : Int)) = true) = False := by rw [h2, h4]; simp
  rw [if_neg (by rw [e]; exact id)]
  have ec : watchpoint_clone.f 3 0 xk xw = some (3, 0, xk, xw) := by
    unfold watchpoint_clone.f
    rw [if_pos (by rw [h1]; simp; omega), if_pos (by rw [h3]; simp; omega)]
    rfl
  rw [ec]
  simp only [Option.bind_some]
  rw [h2]
  exact h

/-- Whether the word at a place is known. -/
def kn (a2 : Int) (i : Nat) : Bool := (Go.bits .and .i64 (shr .i64 a2 (IntKind.u64.wrap (i : Int))) 1) == 0
theorem u64_nonneg (x : Int) : 0 ≤ IntKind.u64.wrap x := by
  have h : IntKind.u64.wrap x = x % 18446744073709551616 := by rfl
  rw [h]; omega
theorem loop1 (l0 l1 : List Int) (a2 : Int) (n : Nat) (hn : n ≤ 6) (h0 : n ≤ l0.length) (h1 : n ≤ l1.length) (zk : List Bool) (zw : List Int) (e1 : zk.length = n) (e2 : zw.length = n)
    (e3 : ∀ i, i < n → rdOf false zk (i : Int) = true) (e4 : ∀ i, i < n → rdOf 0 zw (i : Int) = if kn a2 i = true then rdOf 0 l1 (i : Int) else rdOf 0 l0 (i : Int)) :
    ∀ (d k j : Nat), n - j = d → j ≤ n → d + 30 ≤ k → debuggerlaw41_WatchpointWords.l1 k l0 l1 a2 (n : Int) (j : Int) 3 0 zk zw = some true := by
  intro d
  induction d with
  | zero =>
    intro k j hd hj hk
    obtain rfl : j = n := by omega
    obtain ⟨k, rfl⟩ : ∃ m, k = m + 21 := ⟨k - 21, by omega⟩
    simp only [debuggerlaw41_WatchpointWords.l1]
    rw [if_neg (by omega), awk]
    rfl
  | succ d ih =>
    intro k j hd hj hk
    obtain ⟨k, rfl⟩ : ∃ m, k = m + 1 := ⟨k - 1, by omega⟩
    have hgo := ih k (j + 1) (by omega) (by omega) (by omega)
    have hw := e4 j (by omega)
    have hk' := e3 j (by omega)
    simp only [debuggerlaw41_WatchpointWords.l1]
    rw [if_pos (by omega), if_pos (by omega), if_pos (by omega), if_pos (u64_nonneg _), wrapS (by omega)]
    by_cases hc : kn a2 j = true
    · rw [if_pos hc] at hw
      rw [if_pos (by simpa [kn] using hc), if_pos (by omega), if_pos (by omega), if_pos hk', if_pos (by omega), if_pos (by rw [rd_of, rd_of]; exact hw)]
      exact hgo
    · rw [if_neg hc] at hw
      rw [if_neg (by simpa [kn] using hc), if_pos (by omega), if_pos hk', if_pos (by omega), if_pos (by rw [rd_of, rd_of]; exact hw)]
      exact hgo
theorem loop0 (l0 l1 : List Int) (a2 : Int) (n : Nat) (hn : n ≤ 6) (h0 : n ≤ l0.length) (h1 : n ≤ l1.length) :
    ∀ (d k i : Nat) (xk yk : List Bool) (xw yw : List Int), n - i = d → i ≤ n → d + 60 ≤ k → xk.length = i → yk.length = i → xw.length = i → yw.length = i →
      (∀ j, j < i → rdOf false xk (j : Int) = true) → (∀ j, j < i → rdOf false yk (j : Int) = kn a2 j) → (∀ j, j < i → rdOf 0 xw (j : Int) = rdOf 0 l0 (j : Int)) → (∀ j, j < i → rdOf 0 yw (j : Int) = rdOf 0 l1 (j : Int)) →
      debuggerlaw41_WatchpointWords.l0 k l0 l1 a2 (n : Int) (Some (fun j => kn a2 j && rdOf 0 l0 (j : Int) != rdOf 0 l1 (j : Int)) i) (i : Int) 3 0 xk xw 3 0 yk yw = some true := by
  intro d
  induction d with
  | zero =>
    intro k i xk yk xw yw hd hi hk a1 a2' a3 a4 b1 b2 b3 b4
    obtain rfl : i = n := by omega
    obtain ⟨k, rfl⟩ : ∃ m, k = m + 2 := ⟨k - 2, by omega⟩
    obtain ⟨zk, zw, e, e1, e2, e3, e4⟩ := chk i hn xk yk xw yw a1 a2' a3 a4 b1 (k + 1) (by omega)
    have eS : Some (fun j => rdOf false yk (j : Int) && rdOf 0 xw (j : Int) != rdOf 0 yw (j : Int)) i = Some (fun j => kn a2 j && rdOf 0 l0 (j : Int) != rdOf 0 l1 (j : Int)) i := by
      have hP : ∀ j ∈ List.range i, (rdOf false yk (j : Int) && rdOf 0 xw (j : Int) != rdOf 0 yw (j : Int)) = (kn a2 j && rdOf 0 l0 (j : Int) != rdOf 0 l1 (j : Int)) := fun j hj => by
        have := List.mem_range.1 hj
        rw [b2 j this, b3 j this, b4 j this]
      unfold Some
      rw [Bool.eq_iff_iff]
      simp only [List.any_eq_true]
      constructor
      · rintro ⟨j, hj, h⟩; exact ⟨j, hj, by rw [← hP j hj]; exact h⟩
      · rintro ⟨j, hj, h⟩; exact ⟨j, hj, by rw [hP j hj]; exact h⟩
    rw [eS] at e
    generalize Some (fun j => kn a2 j && rdOf 0 l0 (j : Int) != rdOf 0 l1 (j : Int)) i = S at e ⊢
    simp only [debuggerlaw41_WatchpointWords.l0]
    rw [if_neg (by omega), e]
    simp only [Option.bind_some]
    rw [if_neg (by simp), if_pos (by rw [e2])]
    have hb : ((zk.length : Int) != (i : Int)) = false := by rw [e1]; simp
    rw [hb]
    simp only [debuggerlaw41_WatchpointWords.j1]
    rw [if_neg (by decide)]
    exact loop1 l0 l1 a2 i hn h0 h1 zk zw e1 e2 e3 (fun j hj => by rw [e4 j hj, b2 j hj, b3 j hj, b4 j hj]) i k 0 rfl (Nat.zero_le _) (by omega)
  | succ d ih =>
    intro k i xk yk xw yw hd hi hk a1 a2' a3 a4 b1 b2 b3 b4
    obtain ⟨k, rfl⟩ : ∃ m, k = m + 1 := ⟨k - 1, by omega⟩
    have hin : i < n := by omega
    have app : ∀ {α : Type} (d : α) (xs : List α) (v : α) (f : Nat → α), xs.length = i → (∀ j, j < i → rdOf d xs (j : Int) = f j) → v = f i → ∀ j, j < i + 1 → rdOf d (xs ++ [v]) (j : Int) = f j := by
      intro α d xs v f hl h hv j hj
      rw [rdOf_app _ _ _ _ (by omega)]
      by_cases e : j = xs.length
      · rw [if_pos e, hv, e, hl]
      · rw [if_neg e]; exact h j (by omega)
    have hgo := ih k (i + 1) (xk ++ [true]) (yk ++ [kn a2 i]) (xw ++ [rd l0 (i : Int)]) (yw ++ [rd l1 (i : Int)]) (by omega) (by omega) (by omega) (by simp [a1]) (by simp [a2']) (by simp [a3]) (by simp [a4])
      (app false xk true (fun _ => true) a1 b1 rfl) (app false yk _ _ a2' b2 rfl) (app 0 xw _ (fun j => rdOf 0 l0 (j : Int)) a3 b3 rfl) (app 0 yw _ (fun j => rdOf 0 l1 (j : Int)) a4 b4 rfl)
    rw [Some_succ] at hgo
    simp only [debuggerlaw41_WatchpointWords.l0]
    rw [if_pos (by omega), if_pos (u64_nonneg _)]
    simp only [Option.bind_some]
    rw [if_pos (by simp only [List.length_singleton]; omega)]
    rw [if_pos (by omega), if_pos (by omega), if_pos (by simp only [List.length_singleton]; omega), if_pos (by simp only [List.length_singleton]; omega), if_pos (by omega), if_pos (by simp only [List.length_singleton]; omega), wrapS (by omega)]
    change (if Some (fun j => kn a2 j && rdOf 0 l0 (j : Int) != rdOf 0 l1 (j : Int)) i = true then _ else _) = _
    by_cases hS : Some (fun j => kn a2 j && rdOf 0 l0 (j : Int) != rdOf 0 l1 (j : Int)) i = true
    · rw [if_pos hS]
      rw [hS, Bool.true_or] at hgo
      exact hgo
    · rw [if_neg hS]
      rw [Bool.eq_false_iff.mpr hS, Bool.false_or] at hgo
      by_cases hc : kn a2 i = true
      · rw [if_pos (by simpa [kn] using hc)]
        rw [hc, Bool.true_and] at hgo
        have hc' : ((Go.bits .and .i64 (shr .i64 a2 (IntKind.u64.wrap (i : Int))) 1) == 0) = true := hc
        rw [hc']
        exact hgo
      · rw [if_neg (by simpa [kn] using hc)]
        have hc2 := Bool.eq_false_iff.mpr hc
        rw [hc2, Bool.false_and] at hgo
        have hc' : ((Go.bits .and .i64 (shr .i64 a2 (IntKind.u64.wrap (i : Int))) 1) == 0) = false := hc2
        rw [hc']
        exact hgo
theorem pure (l0 l1 : List Int) (a2 : Int) : debuggerlaw41_WatchpointWords.f 100 l0 l1 a2 = some true := by
  have hm : mn (mn (l0.length : Int) (l1.length : Int)) 6 = ((min (min l0.length l1.length) 6 : Nat) : Int) := by unfold mn; omega
  unfold debuggerlaw41_WatchpointWords.f
  rw [hm]
  have h := loop0 l0 l1 a2 (min (min l0.length l1.length) 6) (Nat.min_le_right _ _) (by omega) (by omega) _ 100 0 [] [] [] [] rfl (Nat.zero_le _) (by omega) rfl rfl rfl rfl
    (fun j hj => absurd hj (Nat.not_lt_zero _)) (fun j hj => absurd hj (Nat.not_lt_zero _)) (fun j hj => absurd hj (Nat.not_lt_zero _)) (fun j hj => absurd hj (Nat.not_lt_zero _))
  exact h
end Go.Proofs.Ytgikmhpggfmcnaa.PWatchpointWords

/- A walk through the code of law 40: what a function computes, as a Lean function. No condition but those in its lemmas. -/
import Derived.Test.YtkmhbfgkhalaoaaGreatDoorPx1
namespace Go.Proofs.YtkmhbfgkhalaoaaGreatDoor.PB
open Go.RowKit Go.Proofs.YtkmhbfgkhalaoaaGreatDoorW.PrintWords Go.Proofs.YtkmhbfgkhalaoaaGreatDoorW.PrintLast Go.Proofs.YtkmhbfgkhalaoaaGreatDoorW.PrintMore
attribute [local go_sem] max2_int min2_int max_two min_two max_three min_three max_four min_four   -- for this text's walks alone
set_option linter.unusedVariables false
set_option linter.unusedSimpArgs false

/-! ### breakpoint_Move: function 10 -/
mutual
def breakpoint_Move.j0 : Nat → List ByteArray → List ByteArray → Bool → Option (List Int)
  | 0, _, _, _ => none
  | k + 1, x5, x6, x25 => if x25 = true then (some ([] : List Int)) else (if 0 ≤ (wrap64 ((x5.length : Int) + 1)) then (if (wrap64 ((x5.length : Int) + 1) : Int).toNat ≤ 11728124029610 then ((some (List.replicate (wrap64 ((x5.length : Int) + 1) : Int).toNat [] : List (List Int))).bind fun y136 => (breakpoint_Move.l0 k x5 x6 y136 (y136.length : Int) 0)) else (none)) else (none))
def breakpoint_Move.l0 : Nat → List ByteArray → List ByteArray → List (List Int) → Int → Int → Option (List Int)
  | 0, _, _, _, _, _ => none
  | k + 1, x5, x6, x7, x31, x32 => if x32 < x31 then (if 0 ≤ (wrap64 ((x6.length : Int) + 1)) then (if (wrap64 ((x6.length : Int) + 1) : Int).toNat ≤ 35184372088832 then (if 0 ≤ x32 then (if x32 < (x7.length : Int) then (breakpoint_Move.l0 k x5 x6 (x7.set (x32 : Int).toNat (List.replicate (wrap64 ((x6.length : Int) + 1) : Int).toNat 0)) x31 (wrap64 (x32 + 1))) else (none)) else (none)) else (none)) else (none)) else (breakpoint_Move.l1 k x5 x6 x7 (wrap64 ((x5.length : Int) - 1)))
def breakpoint_Move.l1 : Nat → List ByteArray → List ByteArray → List (List Int) → Int → Option (List Int)
  | 0, _, _, _, _ => none
  | k + 1, x5, x6, x7, x9 => if x9 ≥ 0 then (breakpoint_Move.l2 k x5 x6 x7 x9 (wrap64 ((x6.length : Int) - 1))) else (if 0 ≤ (x5.length : Int) then (if ((x5.length : Int) : Int).toNat ≤ 35184372088832 then (breakpoint_Move.l3 k x5 x6 x7 (List.replicate ((x5.length : Int) : Int).toNat 0) 0 0) else (none)) else (none))
def breakpoint_Move.l2 : Nat → List ByteArray → List ByteArray → List (List Int) → Int → Int → Option (List Int)
  | 0, _, _, _, _, _ => none
  | k + 1, x5, x6, x7, x9, x10 => if x10 ≥ 0 then (if 0 ≤ x9 then (if x9 < (x5.length : Int) then (if 0 ≤ x10 then (if x10 < (x6.length : Int) then (if (rdOf ByteArray.empty x5 x9).toList = (rdOf ByteArray.empty x6 x10).toList then (if x9 < (x7.length : Int) then (if 0 ≤ (wrap64 (x9 + 1)) then (if (wrap64 (x9 + 1)) < (x7.length : Int) then (if 0 ≤ (wrap64 (x10 + 1)) then (if (wrap64 (x10 + 1)) < ((rd_L3 x7 (wrap64 (x9 + 1))).length : Int) then (if x10 < ((rd_L3 x7 x9).length : Int) then (breakpoint_Move.l2 k x5 x6 (x7.set (x9 : Int).toNat ((rd_L3 x7 x9).set (x10 : Int).toNat (wrap64 ((rd (rd_L3 x7 (wrap64 (x9 + 1))) (wrap64 (x10 + 1))) + 1)))) x9 (wrap64 (x10 - 1))) else (none)) else (none)) else (none)) else (none)) else (none)) else (none)) else (if x9 < (x7.length : Int) then (if 0 ≤ (wrap64 (x9 + 1)) then (if (wrap64 (x9 + 1)) < (x7.length : Int) then (if x10 < ((rd_L3 x7 (wrap64 (x9 + 1))).length : Int) then (if 0 ≤ (wrap64 (x10 + 1)) then (if (wrap64 (x10 + 1)) < ((rd_L3 x7 x9).length : Int) then (if x10 < ((rd_L3 x7 x9).length : Int) then (breakpoint_Move.l2 k x5 x6 (x7.set (x9 : Int).toNat ((rd_L3 x7 x9).set (x10 : Int).toNat (mx (rd (rd_L3 x7 (wrap64 (x9 + 1))) x10) (rd (rd_L3 x7 x9) (wrap64 (x10 + 1)))))) x9 (wrap64 (x10 - 1))) else (none)) else (none)) else (none)) else (none)) else (none)) else (none)) else (none))) else (none)) else (none)) else (none)) else (none)) else (breakpoint_Move.l1 k x5 x6 x7 (wrap64 (x9 - 1)))
def breakpoint_Move.l3 : Nat → List ByteArray → List ByteArray → List (List Int) → List Int → Int → Int → Option (List Int)
  | 0, _, _, _, _, _, _ => none
  | k + 1, x5, x6, x7, x11, x12, x13 => if x12 < (x5.length : Int) then (breakpoint_Move.j5 k x5 x6 x7 x11 x12 x13 (decide (x13 < (x6.length : Int)))) else (breakpoint_Move.j5 k x5 x6 x7 x11 x12 x13 false)
def breakpoint_Move.j5 : Nat → List ByteArray → List ByteArray → List (List Int) → List Int → Int → Int → Bool → Option (List Int)
  | 0, _, _, _, _, _, _, _ => none
  | k + 1, x5, x6, x7, x11, x12, x13, x117 => if x117 = true then (if 0 ≤ x12 then (if x12 < (x5.length : Int) then (if 0 ≤ x13 then (if x13 < (x6.length : Int) then (if (rdOf ByteArray.empty x5 x12).toList = (rdOf ByteArray.empty x6 x13).toList then (if x12 < (x7.length : Int) then (if x13 < ((rd_L3 x7 x12).length : Int) then (if 0 ≤ (wrap64 (x12 + 1)) then (if (wrap64 (x12 + 1)) < (x7.length : Int) then (if 0 ≤ (wrap64 (x13 + 1)) then (if (wrap64 (x13 + 1)) < ((rd_L3 x7 (wrap64 (x12 + 1))).length : Int) then (breakpoint_Move.j6 k x5 x6 x7 x11 x12 x13 ((rd (rd_L3 x7 x12) x13) == (wrap64 ((rd (rd_L3 x7 (wrap64 (x12 + 1))) (wrap64 (x13 + 1))) + 1)))) else (none)) else (none)) else (none)) else (none)) else (none)) else (none)) else (breakpoint_Move.j6 k x5 x6 x7 x11 x12 x13 false)) else (none)) else (none)) else (none)) else (none)) else (some x11)
def breakpoint_Move.j6 : Nat → List ByteArray → List ByteArray → List (List Int) → List Int → Int → Int → Bool → Option (List Int)
  | 0, _, _, _, _, _, _, _ => none
  | k + 1, x5, x6, x7, x11, x12, x13, x120 => if x120 = true then (if 0 ≤ x12 then (if x12 < (x11.length : Int) then (breakpoint_Move.l3 k x5 x6 x7 (x11.set (x12 : Int).toNat (wrap64 (x13 + 1))) (wrap64 (x12 + 1)) (wrap64 (x13 + 1))) else (none)) else (none)) else (if 0 ≤ (wrap64 (x12 + 1)) then (if (wrap64 (x12 + 1)) < (x7.length : Int) then (if 0 ≤ x13 then (if x13 < ((rd_L3 x7 (wrap64 (x12 + 1))).length : Int) then (if 0 ≤ x12 then (if x12 < (x7.length : Int) then (if 0 ≤ (wrap64 (x13 + 1)) then (if (wrap64 (x13 + 1)) < ((rd_L3 x7 x12).length : Int) then (if (rd (rd_L3 x7 (wrap64 (x12 + 1))) x13) ≥ (rd (rd_L3 x7 x12) (wrap64 (x13 + 1))) then (breakpoint_Move.l3 k x5 x6 x7 x11 (wrap64 (x12 + 1)) x13) else (breakpoint_Move.l3 k x5 x6 x7 x11 x12 (wrap64 (x13 + 1)))) else (none)) else (none)) else (none)) else (none)) else (none)) else (none)) else (none)) else (none))
end
def breakpoint_Move.f (k : Nat) (a0 : ByteArray) (a1 : ByteArray) : Option (List Int) := (strings_Split.f k a0 (⟨#[10]⟩ : ByteArray)).bind fun t130 => ((strings_Split.f k a1 (⟨#[10]⟩ : ByteArray)).bind fun t133 => (if (t130.length : Int) > 400 then (breakpoint_Move.j0 k t130 t133 true) else (breakpoint_Move.j0 k t130 t133 (decide ((t133.length : Int) > 400)))))
theorem breakpoint_Move.mono_l : ∀ k, (∀ y0 y1 y2, LeO (breakpoint_Move.j0 k y0 y1 y2) (breakpoint_Move.j0 (k + 1) y0 y1 y2)) ∧ (∀ y0 y1 y2 y3 y4, LeO (breakpoint_Move.l0 k y0 y1 y2 y3 y4) (breakpoint_Move.l0 (k + 1) y0 y1 y2 y3 y4)) ∧ (∀ y0 y1 y2 y3, LeO (breakpoint_Move.l1 k y0 y1 y2 y3) (breakpoint_Move.l1 (k + 1) y0 y1 y2 y3)) ∧ (∀ y0 y1 y2 y3 y4, LeO (breakpoint_Move.l2 k y0 y1 y2 y3 y4) (breakpoint_Move.l2 (k + 1) y0 y1 y2 y3 y4)) ∧ (∀ y0 y1 y2 y3 y4 y5, LeO (breakpoint_Move.l3 k y0 y1 y2 y3 y4 y5) (breakpoint_Move.l3 (k + 1) y0 y1 y2 y3 y4 y5)) ∧ (∀ y0 y1 y2 y3 y4 y5 y6, LeO (breakpoint_Move.j5 k y0 y1 y2 y3 y4 y5 y6) (breakpoint_Move.j5 (k + 1) y0 y1 y2 y3 y4 y5 y6)) ∧ (∀ y0 y1 y2 y3 y4 y5 y6, LeO (breakpoint_Move.j6 k y0 y1 y2 y3 y4 y5 y6) (breakpoint_Move.j6 (k + 1) y0 y1 y2 y3 y4 y5 y6))
  | 0 => ⟨fun _ _ _ r h => by simp [breakpoint_Move.j0] at h, fun _ _ _ _ _ r h => by simp [breakpoint_Move.l0] at h, fun _ _ _ _ r h => by simp [breakpoint_Move.l1] at h, fun _ _ _ _ _ r h => by simp [breakpoint_Move.l2] at h, fun _ _ _ _ _ _ r h => by simp [breakpoint_Move.l3] at h, fun _ _ _ _ _ _ _ r h => by simp [breakpoint_Move.j5] at h, fun _ _ _ _ _ _ _ r h => by simp [breakpoint_Move.j6] at h⟩
  | k + 1 => by
    obtain ⟨ih0, ih1, ih2, ih3, ih4, ih5, ih6⟩ := breakpoint_Move.mono_l k
    refine ⟨?_, ?_, ?_, ?_, ?_, ?_, ?_⟩
    · intro y0 y1 y2
      unfold breakpoint_Move.j0
      repeat' first
      | (with_reducible exact ih0 _ _ _)
      | (with_reducible exact ih1 _ _ _ _ _)
      | (with_reducible exact ih2 _ _ _ _)
      | (with_reducible exact ih3 _ _ _ _ _)
      | (with_reducible exact ih4 _ _ _ _ _ _)
      | (with_reducible exact ih5 _ _ _ _ _ _ _)
      | (with_reducible exact ih6 _ _ _ _ _ _ _)
      | (with_reducible exact strings_Split.mono _ _ _)
      | (with_reducible exact LeO.refl _)
      | (with_reducible exact LeO.none _)
      | (with_reducible refine LeO.ite ?_ ?_)
      | (with_reducible refine LeO.bind ?_ (fun _ => ?_))
      | exact ih0 _ _ _
      | exact ih1 _ _ _ _ _
      | exact ih2 _ _ _ _
      | exact ih3 _ _ _ _ _
      | exact ih4 _ _ _ _ _ _
      | exact ih5 _ _ _ _ _ _ _
      | exact ih6 _ _ _ _ _ _ _
      | exact strings_Split.mono _ _ _
      | exact LeO.none _
      | refine LeO.ite ?_ ?_
      | refine LeO.bind ?_ (fun _ => ?_)
    · intro y0 y1 y2 y3 y4
      unfold breakpoint_Move.l0
      repeat' first
      | (with_reducible exact ih0 _ _ _)
      | (with_reducible exact ih1 _ _ _ _ _)
      | (with_reducible exact ih2 _ _ _ _)
      | (with_reducible exact ih3 _ _ _ _ _)
      | (with_reducible exact ih4 _ _ _ _ _ _)
      | (with_reducible exact ih5 _ _ _ _ _ _ _)
      | (with_reducible exact ih6 _ _ _ _ _ _ _)
      | (with_reducible exact strings_Split.mono _ _ _)
      | (with_reducible exact LeO.refl _)
      | (with_reducible exact LeO.none _)
      | (with_reducible refine LeO.ite ?_ ?_)
      | (with_reducible refine LeO.bind ?_ (fun _ => ?_))
      | exact ih0 _ _ _
      | exact ih1 _ _ _ _ _
      | exact ih2 _ _ _ _
      | exact ih3 _ _ _ _ _
      | exact ih4 _ _ _ _ _ _
      | exact ih5 _ _ _ _ _ _ _
      | exact ih6 _ _ _ _ _ _ _
      | exact strings_Split.mono _ _ _
      | exact LeO.none _
      | refine LeO.ite ?_ ?_
      | refine LeO.bind ?_ (fun _ => ?_)
    · intro y0 y1 y2 y3
      unfold breakpoint_Move.l1
      repeat' first
      | (with_reducible exact ih0 _ _ _)
      | (with_reducible exact ih1 _ _ _ _ _)
      | (with_reducible exact ih2 _ _ _ _)
      | (with_reducible exact ih3 _ _ _ _ _)
      | (with_reducible exact ih4 _ _ _ _ _ _)
      | (with_reducible exact ih5 _ _ _ _ _ _ _)
      | (with_reducible exact ih6 _ _ _ _ _ _ _)
      | (with_reducible exact strings_Split.mono _ _ _)
      | (with_reducible exact LeO.refl _)
      | (with_reducible exact LeO.none _)
      | (with_reducible refine LeO.ite ?_ ?_)
      | (with_reducible refine LeO.bind ?_ (fun _ => ?_))
      | exact ih0 _ _ _
      | exact ih1 _ _ _ _ _
      | exact ih2 _ _ _ _
      | exact ih3 _ _ _ _ _
      | exact ih4 _ _ _ _ _ _
      | exact ih5 _ _ _ _ _ _ _
      | exact ih6 _ _ _ _ _ _ _
      | exact strings_Split.mono _ _ _
      | exact LeO.none _
      | refine LeO.ite ?_ ?_
      | refine LeO.bind ?_ (fun _ => ?_)
    · intro y0 y1 y2 y3 y4
      unfold breakpoint_Move.l2
      repeat' first
      | (with_reducible exact ih0 _ _ _)
      | (with_reducible exact ih1 _ _ _ _ _)
      | (with_reducible exact ih2 _ _ _ _)
      | (with_reducible exact ih3 _ _ _ _ _)
      | (with_reducible exact ih4 _ _ _ _ _ _)
      | (with_reducible exact ih5 _ _ _ _ _ _ _)
      | (with_reducible exact ih6 _ _ _ _ _ _ _)
      | (with_reducible exact strings_Split.mono _ _ _)
      | (with_reducible exact LeO.refl _)
      | (with_reducible exact LeO.none _)
      | (with_reducible refine LeO.ite ?_ ?_)
      | (with_reducible refine LeO.bind ?_ (fun _ => ?_))
      | exact ih0 _ _ _
      | exact ih1 _ _ _ _ _
      | exact ih2 _ _ _ _
      | exact ih3 _ _ _ _ _
      | exact ih4 _ _ _ _ _ _
      | exact ih5 _ _ _ _ _ _ _
      | exact ih6 _ _ _ _ _ _ _
      | exact strings_Split.mono _ _ _
      | exact LeO.none _
      | refine LeO.ite ?_ ?_
      | refine LeO.bind ?_ (fun _ => ?_)
    · intro y0 y1 y2 y3 y4 y5
      unfold breakpoint_Move.l3
      repeat' first
      | (with_reducible exact ih0 _ _ _)
      | (with_reducible exact ih1 _ _ _ _ _)
      | (with_reducible exact ih2 _ _ _ _)
      | (with_reducible exact ih3 _ _ _ _ _)
      | (with_reducible exact ih4 _ _ _ _ _ _)
      | (with_reducible exact ih5 _ _ _ _ _ _ _)
      | (with_reducible exact ih6 _ _ _ _ _ _ _)
      | (with_reducible exact strings_Split.mono _ _ _)
      | (with_reducible exact LeO.refl _)
      | (with_reducible exact LeO.none _)
      | (with_reducible refine LeO.ite ?_ ?_)
      | (with_reducible refine LeO.bind ?_ (fun _ => ?_))
      | exact ih0 _ _ _
      | exact ih1 _ _ _ _ _
      | exact ih2 _ _ _ _
      | exact ih3 _ _ _ _ _
      | exact ih4 _ _ _ _ _ _
      | exact ih5 _ _ _ _ _ _ _
      | exact ih6 _ _ _ _ _ _ _
      | exact strings_Split.mono _ _ _
      | exact LeO.none _
      | refine LeO.ite ?_ ?_
      | refine LeO.bind ?_ (fun _ => ?_)
    · intro y0 y1 y2 y3 y4 y5 y6
      unfold breakpoint_Move.j5
      repeat' first
      | (with_reducible exact ih0 _ _ _)
      | (with_reducible exact ih1 _ _ _ _ _)
      | (with_reducible exact ih2 _ _ _ _)
      | (with_reducible exact ih3 _ _ _ _ _)
      | (with_reducible exact ih4 _ _ _ _ _ _)
      | (with_reducible exact ih5 _ _ _ _ _ _ _)
      | (with_reducible exact ih6 _ _ _ _ _ _ _)
      | (with_reducible exact strings_Split.mono _ _ _)
      | (with_reducible exact LeO.refl _)
      | (with_reducible exact LeO.none _)
      | (with_reducible refine LeO.ite ?_ ?_)
      | (with_reducible refine LeO.bind ?_ (fun _ => ?_))
      | exact ih0 _ _ _
      | exact ih1 _ _ _ _ _
      | exact ih2 _ _ _ _
      | exact ih3 _ _ _ _ _
      | exact ih4 _ _ _ _ _ _
      | exact ih5 _ _ _ _ _ _ _
      | exact ih6 _ _ _ _ _ _ _
      | exact strings_Split.mono _ _ _
      | exact LeO.none _
      | refine LeO.ite ?_ ?_
      | refine LeO.bind ?_ (fun _ => ?_)
    · intro y0 y1 y2 y3 y4 y5 y6
      unfold breakpoint_Move.j6
      repeat' first
      | (with_reducible exact ih0 _ _ _)
      | (with_reducible exact ih1 _ _ _ _ _)
      | (with_reducible exact ih2 _ _ _ _)
      | (with_reducible exact ih3 _ _ _ _ _)
      | (with_reducible exact ih4 _ _ _ _ _ _)
      | (with_reducible exact ih5 _ _ _ _ _ _ _)
      | (with_reducible exact ih6 _ _ _ _ _ _ _)
      | (with_reducible exact strings_Split.mono _ _ _)
      | (with_reducible exact LeO.refl _)
      | (with_reducible exact LeO.none _)
      | (with_reducible refine LeO.ite ?_ ?_)
      | (with_reducible refine LeO.bind ?_ (fun _ => ?_))
      | exact ih0 _ _ _
      | exact ih1 _ _ _ _ _
      | exact ih2 _ _ _ _
      | exact ih3 _ _ _ _ _
      | exact ih4 _ _ _ _ _ _
      | exact ih5 _ _ _ _ _ _ _
      | exact ih6 _ _ _ _ _ _ _
      | exact strings_Split.mono _ _ _
      | exact LeO.none _
      | refine LeO.ite ?_ ?_
      | refine LeO.bind ?_ (fun _ => ?_)
theorem breakpoint_Move.mono : ∀ a0 a1 k, LeO (breakpoint_Move.f k a0 a1) (breakpoint_Move.f (k + 1) a0 a1) := by
  intro a0 a1 k
  obtain ⟨ih0, ih1, ih2, ih3, ih4, ih5, ih6⟩ := breakpoint_Move.mono_l k
  unfold breakpoint_Move.f
  repeat' first
      | (with_reducible exact ih0 _ _ _)
      | (with_reducible exact ih1 _ _ _ _ _)
      | (with_reducible exact ih2 _ _ _ _)
      | (with_reducible exact ih3 _ _ _ _ _)
      | (with_reducible exact ih4 _ _ _ _ _ _)
      | (with_reducible exact ih5 _ _ _ _ _ _ _)
      | (with_reducible exact ih6 _ _ _ _ _ _ _)
      | (with_reducible exact strings_Split.mono _ _ _)
      | (with_reducible exact LeO.refl _)
      | (with_reducible exact LeO.none _)
      | (with_reducible refine LeO.ite ?_ ?_)
      | (with_reducible refine LeO.bind ?_ (fun _ => ?_))
      | exact ih0 _ _ _
      | exact ih1 _ _ _ _ _
      | exact ih2 _ _ _ _
      | exact ih3 _ _ _ _ _
      | exact ih4 _ _ _ _ _ _
      | exact ih5 _ _ _ _ _ _ _
      | exact ih6 _ _ _ _ _ _ _
      | exact strings_Split.mono _ _ _
      | exact LeO.none _
      | refine LeO.ite ?_ ?_
      | refine LeO.bind ?_ (fun _ => ?_)
def breakpoint_Move.T16 : Bool × List (List Nat × List Nat) := (true, [([], []), ([], []), ([0, 1], [0, 1]), ([2], [2]), ([], []), ([], []), ([4, 5], [4, 5]), ([6], [6]), ([3, 7], [3, 7])])
def breakpoint_Move.B16 : List Nat := [0, 0, 3, 7, 0, 0, 48, 112, 255]
theorem breakpoint_Move.tab16 : rtab .any (opsOf Tryz.f10 16) = breakpoint_Move.T16 := by kernel_rfl
theorem breakpoint_Move.bits16 : waitsOk breakpoint_Move.T16.2 breakpoint_Move.B16 = true := by kernel_rfl
def breakpoint_Move.T17 : Bool × List (List Nat × List Nat) := (true, [([], []), ([], []), ([0, 1], [0, 1]), ([2], [2]), ([], []), ([], []), ([], []), ([6], [6]), ([5, 7], [5, 7]), ([8], [8]), ([], []), ([10], [10]), ([9, 11], [9, 11]), ([12], [12]), ([13], [13]), ([3, 4, 0, 1, 2, 3, 4, 5, 6, 7, 8, 9, 10, 11, 12, 13, 14], [3, 4]), ([15, 14, 0, 1, 2, 3, 4, 5, 6, 7, 8, 9, 10, 11, 12, 13, 14], [14, 15])])
def breakpoint_Move.B17 : List Nat := [0, 0, 3, 7, 0, 0, 0, 64, 224, 480, 0, 1024, 4064, 8160, 16352, 32767, 65535]
theorem breakpoint_Move.tab17 : rtab .any (opsOf Tryz.f10 17) = breakpoint_Move.T17 := by kernel_rfl
theorem breakpoint_Move.bits17 : waitsOk breakpoint_Move.T17.2 breakpoint_Move.B17 = true := by kernel_rfl
def breakpoint_Move.T18 : Bool × List (List Nat × List Nat) := (true, [([], []), ([], []), ([0, 1], [0, 1]), ([2], [2]), ([], []), ([], []), ([], []), ([6], [6]), ([5, 7], [5, 7]), ([8], [8]), ([], []), ([9, 10], [9, 10]), ([11], [11]), ([], []), ([], []), ([13, 14], [13, 14]), ([15], [15]), ([], []), ([17], [17]), ([16, 18], [16, 18]), ([19], [19]), ([12, 20], [12, 20]), ([3, 4, 0, 1, 2, 3, 4, 5, 6, 7, 8, 9, 10, 11, 12, 13, 14, 15, 16, 17, 18, 19, 20, 21], [3, 4]), ([22, 21, 0, 1, 2, 3, 4, 5, 6, 7, 8, 9, 10, 11, 12, 13, 14, 15, 16, 17, 18, 19, 20, 21], [21, 22])])
def breakpoint_Move.B18 : List Nat := [0, 0, 3, 7, 0, 0, 0, 64, 224, 480, 0, 2016, 4064, 0, 0, 24576, 57344, 0, 131072, 516096, 1040384, 2097120, 4194303, 8388607]
theorem breakpoint_Move.tab18 : rtab .any (opsOf Tryz.f10 18) = breakpoint_Move.T18 := by kernel_rfl
theorem breakpoint_Move.bits18 : waitsOk breakpoint_Move.T18.2 breakpoint_Move.B18 = true := by kernel_rfl
def breakpoint_Move.T23 : Bool × List (List Nat × List Nat) := (true, [([], []), ([], []), ([0, 1], [0, 1]), ([2], [2]), ([], []), ([], []), ([4, 5], [4, 5]), ([6], [6]), ([3, 7], [3, 7]), ([8], [8]), ([9], [9]), ([9], [9]), ([10, 11, 9], [9, 10, 11]), ([12, 9], [9, 12]), ([9], [9]), ([13, 14, 9], [9, 13, 14]), ([15, 9], [9, 15]), ([9], [9]), ([9], [9]), ([18, 9], [9, 18]), ([17, 19, 9], [9, 17, 19]), ([20, 9], [9, 20]), ([9], [9]), ([22, 9], [9, 22]), ([21, 23, 9], [9, 21, 23]), ([24, 9], [9, 24]), ([25, 9], [9, 25]), ([16, 26, 9], [9, 16, 26]), ([9, 27], [9, 27]), ([28, 9], [28])])
def breakpoint_Move.B23 : List Nat := [0, 0, 3, 7, 0, 0, 48, 112, 255, 511, 1023, 1023, 4095, 8191, 1023, 32767, 65535, 1023, 1023, 263167, 918527, 1967103, 1023, 4195327, 16647167, 33424383, 66978815, 134217727, 268435455, 536870911]
theorem breakpoint_Move.tab23 : rtab .any (opsOf Tryz.f10 23) = breakpoint_Move.T23 := by kernel_rfl
theorem breakpoint_Move.bits23 : waitsOk breakpoint_Move.T23.2 breakpoint_Move.B23 = true := by kernel_rfl
def breakpoint_Move.T27 : Bool × List (List Nat × List Nat) := (true, [([], []), ([], []), ([1], [1]), ([0, 2], [0, 2]), ([3], [3]), ([], []), ([4, 5], [4, 5]), ([6], [6]), ([], []), ([], []), ([8, 9], [8, 9]), ([10], [10]), ([], []), ([12], [12]), ([11, 13], [11, 13]), ([14], [14]), ([7, 15], [7, 15]), ([16], [16])])
def breakpoint_Move.B27 : List Nat := [0, 0, 2, 7, 15, 0, 63, 127, 0, 0, 768, 1792, 0, 4096, 16128, 32512, 65535, 131071]
theorem breakpoint_Move.tab27 : rtab .any (opsOf Tryz.f10 27) = breakpoint_Move.T27 := by kernel_rfl
theorem breakpoint_Move.bits27 : waitsOk breakpoint_Move.T27.2 breakpoint_Move.B27 = true := by kernel_rfl

end Go.Proofs.YtkmhbfgkhalaoaaGreatDoor.PB

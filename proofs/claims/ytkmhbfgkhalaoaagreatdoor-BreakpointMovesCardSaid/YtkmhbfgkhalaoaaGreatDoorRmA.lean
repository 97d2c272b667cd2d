/- A walk through the code of law 40: what a function computes, as a Lean function. No condition but those in its lemmas. -/
import Derived.Test.YtkmhbfgkhalaoaaGreatDoorPx1
namespace Go.Proofs.YtkmhbfgkhalaoaaGreatDoor.PB
open Go.RowKit Go.Proofs.YtkmhbfgkhalaoaaGreatDoorW.PrintWords Go.Proofs.YtkmhbfgkhalaoaaGreatDoorW.PrintLast Go.Proofs.YtkmhbfgkhalaoaaGreatDoorW.PrintMore
attribute [local go_sem] max2_int min2_int max_two min_two max_three min_three max_four min_four   -- for this text's walks alone
set_option linter.unusedVariables false
set_option linter.unusedSimpArgs false

/-! ### debuggerref40_Move: function 11 -/
mutual
def debuggerref40_Move.j0 : Nat → List ByteArray → List ByteArray → Bool → Option (List Int)
  | 0, _, _, _ => none
  | k + 1, x5, x6, x24 => if x24 = true then (some ([] : List Int)) else (if 0 ≤ (wrap64 ((x5.length : Int) + 1)) then (if (wrap64 ((x5.length : Int) + 1) : Int).toNat ≤ 11728124029610 then ((some (List.replicate (wrap64 ((x5.length : Int) + 1) : Int).toNat [] : List (List Int))).bind fun y179 => (if 0 ≤ (wrap64 ((x6.length : Int) + 1)) then (if (wrap64 ((x6.length : Int) + 1) : Int).toNat ≤ 35184372088832 then (if 0 ≤ (x5.length : Int) then (if (x5.length : Int) < (y179.length : Int) then (debuggerref40_Move.l0 k x5 x6 (y179.set ((x5.length : Int) : Int).toNat (List.replicate (wrap64 ((x6.length : Int) + 1) : Int).toNat 0)) (wrap64 ((x5.length : Int) - 1))) else (none)) else (none)) else (none)) else (none))) else (none)) else (none))
def debuggerref40_Move.l0 : Nat → List ByteArray → List ByteArray → List (List Int) → Int → Option (List Int)
  | 0, _, _, _, _ => none
  | k + 1, x5, x6, x7, x8 => if x8 ≥ 0 then (if 0 ≤ (wrap64 ((x6.length : Int) + 1)) then (if (wrap64 ((x6.length : Int) + 1) : Int).toNat ≤ 35184372088832 then (if 0 ≤ x8 then (if x8 < (x7.length : Int) then (debuggerref40_Move.l1 k x5 x6 (x7.set (x8 : Int).toNat (List.replicate (wrap64 ((x6.length : Int) + 1) : Int).toNat 0)) x8 (wrap64 ((x6.length : Int) - 1))) else (none)) else (none)) else (none)) else (none)) else (if 0 ≤ (x5.length : Int) then (if ((x5.length : Int) : Int).toNat ≤ 35184372088832 then (debuggerref40_Move.l2 k x5 x6 x7 (List.replicate ((x5.length : Int) : Int).toNat 0) 0 0) else (none)) else (none))
def debuggerref40_Move.l1 : Nat → List ByteArray → List ByteArray → List (List Int) → Int → Int → Option (List Int)
  | 0, _, _, _, _, _ => none
  | k + 1, x5, x6, x7, x8, x9 => if x9 ≥ 0 then (if 0 ≤ x8 then (if x8 < (x7.length : Int) then (if 0 ≤ (wrap64 (x8 + 1)) then (if (wrap64 (x8 + 1)) < (x7.length : Int) then (if 0 ≤ x9 then (if x9 < ((rd_L3 x7 (wrap64 (x8 + 1))).length : Int) then (if 0 ≤ (wrap64 (x9 + 1)) then (if (wrap64 (x9 + 1)) < ((rd_L3 x7 x8).length : Int) then (if x9 < ((rd_L3 x7 x8).length : Int) then ((some (x7.set (x8 : Int).toNat ((rd_L3 x7 x8).set (x9 : Int).toNat (mx (rd (rd_L3 x7 (wrap64 (x8 + 1))) x9) (rd (rd_L3 x7 x8) (wrap64 (x9 + 1))))) : List (List Int))).bind fun y197 => (if x8 < (x5.length : Int) then (if x9 < (x6.length : Int) then (if (rdOf ByteArray.empty x5 x8).toList = (rdOf ByteArray.empty x6 x9).toList then (if x9 < ((rd_L3 y197 x8).length : Int) then (if (wrap64 (x9 + 1)) < ((rd_L3 y197 (wrap64 (x8 + 1))).length : Int) then (debuggerref40_Move.l1 k x5 x6 (y197.set (x8 : Int).toNat ((rd_L3 y197 x8).set (x9 : Int).toNat (mx (rd (rd_L3 y197 x8) x9) (wrap64 ((rd (rd_L3 y197 (wrap64 (x8 + 1))) (wrap64 (x9 + 1))) + 1))))) x8 (wrap64 (x9 - 1))) else (none)) else (none)) else (debuggerref40_Move.l1 k x5 x6 y197 x8 (wrap64 (x9 - 1)))) else (none)) else (none))) else (none)) else (none)) else (none)) else (none)) else (none)) else (none)) else (none)) else (none)) else (none)) else (debuggerref40_Move.l0 k x5 x6 x7 (wrap64 (x8 - 1)))
def debuggerref40_Move.l2 : Nat → List ByteArray → List ByteArray → List (List Int) → List Int → Int → Int → Option (List Int)
  | 0, _, _, _, _, _, _ => none
  | k + 1, x5, x6, x7, x10, x11, x12 => if x11 < (x5.length : Int) then (debuggerref40_Move.j4 k x5 x6 x7 x10 x11 x12 (decide (x12 < (x6.length : Int)))) else (debuggerref40_Move.j4 k x5 x6 x7 x10 x11 x12 false)
def debuggerref40_Move.j4 : Nat → List ByteArray → List ByteArray → List (List Int) → List Int → Int → Int → Bool → Option (List Int)
  | 0, _, _, _, _, _, _, _ => none
  | k + 1, x5, x6, x7, x10, x11, x12, x126 => if x126 = true then (if 0 ≤ x11 then (if x11 < (x5.length : Int) then (if 0 ≤ x12 then (if x12 < (x6.length : Int) then (if (rdOf ByteArray.empty x5 x11).toList = (rdOf ByteArray.empty x6 x12).toList then (if x11 < (x7.length : Int) then (if x12 < ((rd_L3 x7 x11).length : Int) then (if 0 ≤ (wrap64 (x11 + 1)) then (if (wrap64 (x11 + 1)) < (x7.length : Int) then (if 0 ≤ (wrap64 (x12 + 1)) then (if (wrap64 (x12 + 1)) < ((rd_L3 x7 (wrap64 (x11 + 1))).length : Int) then (debuggerref40_Move.j5 k x5 x6 x7 x10 x11 x12 ((rd (rd_L3 x7 x11) x12) == (wrap64 ((rd (rd_L3 x7 (wrap64 (x11 + 1))) (wrap64 (x12 + 1))) + 1)))) else (none)) else (none)) else (none)) else (none)) else (none)) else (none)) else (debuggerref40_Move.j5 k x5 x6 x7 x10 x11 x12 false)) else (none)) else (none)) else (none)) else (none)) else (some x10)
def debuggerref40_Move.j5 : Nat → List ByteArray → List ByteArray → List (List Int) → List Int → Int → Int → Bool → Option (List Int)
  | 0, _, _, _, _, _, _, _ => none
  | k + 1, x5, x6, x7, x10, x11, x12, x129 => if x129 = true then (if 0 ≤ x11 then (if x11 < (x10.length : Int) then (debuggerref40_Move.l2 k x5 x6 x7 (x10.set (x11 : Int).toNat (wrap64 (x12 + 1))) (wrap64 (x11 + 1)) (wrap64 (x12 + 1))) else (none)) else (none)) else (if 0 ≤ (wrap64 (x11 + 1)) then (if (wrap64 (x11 + 1)) < (x7.length : Int) then (if 0 ≤ x12 then (if x12 < ((rd_L3 x7 (wrap64 (x11 + 1))).length : Int) then (if 0 ≤ x11 then (if x11 < (x7.length : Int) then (if 0 ≤ (wrap64 (x12 + 1)) then (if (wrap64 (x12 + 1)) < ((rd_L3 x7 x11).length : Int) then (if (rd (rd_L3 x7 (wrap64 (x11 + 1))) x12) ≥ (rd (rd_L3 x7 x11) (wrap64 (x12 + 1))) then (debuggerref40_Move.l2 k x5 x6 x7 x10 (wrap64 (x11 + 1)) x12) else (debuggerref40_Move.l2 k x5 x6 x7 x10 x11 (wrap64 (x12 + 1)))) else (none)) else (none)) else (none)) else (none)) else (none)) else (none)) else (none)) else (none))
end
def debuggerref40_Move.f (k : Nat) (a0 : ByteArray) (a1 : ByteArray) : Option (List Int) := (debuggerref40_Lines.f k a0).bind fun t173 => ((debuggerref40_Lines.f k a1).bind fun t176 => (if (t173.length : Int) > 400 then (debuggerref40_Move.j0 k t173 t176 true) else (debuggerref40_Move.j0 k t173 t176 (decide ((t176.length : Int) > 400)))))
theorem debuggerref40_Move.mono_l : ∀ k, (∀ y0 y1 y2, LeO (debuggerref40_Move.j0 k y0 y1 y2) (debuggerref40_Move.j0 (k + 1) y0 y1 y2)) ∧ (∀ y0 y1 y2 y3, LeO (debuggerref40_Move.l0 k y0 y1 y2 y3) (debuggerref40_Move.l0 (k + 1) y0 y1 y2 y3)) ∧ (∀ y0 y1 y2 y3 y4, LeO (debuggerref40_Move.l1 k y0 y1 y2 y3 y4) (debuggerref40_Move.l1 (k + 1) y0 y1 y2 y3 y4)) ∧ (∀ y0 y1 y2 y3 y4 y5, LeO (debuggerref40_Move.l2 k y0 y1 y2 y3 y4 y5) (debuggerref40_Move.l2 (k + 1) y0 y1 y2 y3 y4 y5)) ∧ (∀ y0 y1 y2 y3 y4 y5 y6, LeO (debuggerref40_Move.j4 k y0 y1 y2 y3 y4 y5 y6) (debuggerref40_Move.j4 (k + 1) y0 y1 y2 y3 y4 y5 y6)) ∧ (∀ y0 y1 y2 y3 y4 y5 y6, LeO (debuggerref40_Move.j5 k y0 y1 y2 y3 y4 y5 y6) (debuggerref40_Move.j5 (k + 1) y0 y1 y2 y3 y4 y5 y6))
  | 0 => ⟨fun _ _ _ r h => by simp [debuggerref40_Move.j0] at h, fun _ _ _ _ r h => by simp [debuggerref40_Move.l0] at h, fun _ _ _ _ _ r h => by simp [debuggerref40_Move.l1] at h, fun _ _ _ _ _ _ r h => by simp [debuggerref40_Move.l2] at h, fun _ _ _ _ _ _ _ r h => by simp [debuggerref40_Move.j4] at h, fun _ _ _ _ _ _ _ r h => by simp [debuggerref40_Move.j5] at h⟩
  | k + 1 => by
    obtain ⟨ih0, ih1, ih2, ih3, ih4, ih5⟩ := debuggerref40_Move.mono_l k
    refine ⟨?_, ?_, ?_, ?_, ?_, ?_⟩
    · intro y0 y1 y2
      unfold debuggerref40_Move.j0
      repeat' first
      | (with_reducible exact ih0 _ _ _)
      | (with_reducible exact ih1 _ _ _ _)
      | (with_reducible exact ih2 _ _ _ _ _)
      | (with_reducible exact ih3 _ _ _ _ _ _)
      | (with_reducible exact ih4 _ _ _ _ _ _ _)
      | (with_reducible exact ih5 _ _ _ _ _ _ _)
      | (with_reducible exact debuggerref40_Lines.mono _ _)
      | (with_reducible exact LeO.refl _)
      | (with_reducible exact LeO.none _)
      | (with_reducible refine LeO.ite ?_ ?_)
      | (with_reducible refine LeO.bind ?_ (fun _ => ?_))
      | exact ih0 _ _ _
      | exact ih1 _ _ _ _
      | exact ih2 _ _ _ _ _
      | exact ih3 _ _ _ _ _ _
      | exact ih4 _ _ _ _ _ _ _
      | exact ih5 _ _ _ _ _ _ _
      | exact debuggerref40_Lines.mono _ _
      | exact LeO.none _
      | refine LeO.ite ?_ ?_
      | refine LeO.bind ?_ (fun _ => ?_)
    · intro y0 y1 y2 y3
      unfold debuggerref40_Move.l0
      repeat' first
      | (with_reducible exact ih0 _ _ _)
      | (with_reducible exact ih1 _ _ _ _)
      | (with_reducible exact ih2 _ _ _ _ _)
      | (with_reducible exact ih3 _ _ _ _ _ _)
      | (with_reducible exact ih4 _ _ _ _ _ _ _)
      | (with_reducible exact ih5 _ _ _ _ _ _ _)
      | (with_reducible exact debuggerref40_Lines.mono _ _)
      | (with_reducible exact LeO.refl _)
      | (with_reducible exact LeO.none _)
      | (with_reducible refine LeO.ite ?_ ?_)
      | (with_reducible refine LeO.bind ?_ (fun _ => ?_))
      | exact ih0 _ _ _
      | exact ih1 _ _ _ _
      | exact ih2 _ _ _ _ _
      | exact ih3 _ _ _ _ _ _
      | exact ih4 _ _ _ _ _ _ _
      | exact ih5 _ _ _ _ _ _ _
      | exact debuggerref40_Lines.mono _ _
      | exact LeO.none _
      | refine LeO.ite ?_ ?_
      | refine LeO.bind ?_ (fun _ => ?_)
    · intro y0 y1 y2 y3 y4
      unfold debuggerref40_Move.l1
      repeat' first
      | (with_reducible exact ih0 _ _ _)
      | (with_reducible exact ih1 _ _ _ _)
      | (with_reducible exact ih2 _ _ _ _ _)
      | (with_reducible exact ih3 _ _ _ _ _ _)
      | (with_reducible exact ih4 _ _ _ _ _ _ _)
      | (with_reducible exact ih5 _ _ _ _ _ _ _)
      | (with_reducible exact debuggerref40_Lines.mono _ _)
      | (with_reducible exact LeO.refl _)
      | (with_reducible exact LeO.none _)
      | (with_reducible refine LeO.ite ?_ ?_)
      | (with_reducible refine LeO.bind ?_ (fun _ => ?_))
      | exact ih0 _ _ _
      | exact ih1 _ _ _ _
      | exact ih2 _ _ _ _ _
      | exact ih3 _ _ _ _ _ _
      | exact ih4 _ _ _ _ _ _ _
      | exact ih5 _ _ _ _ _ _ _
      | exact debuggerref40_Lines.mono _ _
      | exact LeO.none _
      | refine LeO.ite ?_ ?_
      | refine LeO.bind ?_ (fun _ => ?_)
    · intro y0 y1 y2 y3 y4 y5
      unfold debuggerref40_Move.l2
      repeat' first
      | (with_reducible exact ih0 _ _ _)
      | (with_reducible exact ih1 _ _ _ _)
      | (with_reducible exact ih2 _ _ _ _ _)
      | (with_reducible exact ih3 _ _ _ _ _ _)
      | (with_reducible exact ih4 _ _ _ _ _ _ _)
      | (with_reducible exact ih5 _ _ _ _ _ _ _)
      | (with_reducible exact debuggerref40_Lines.mono _ _)
      | (with_reducible exact LeO.refl _)
      | (with_reducible exact LeO.none _)
      | (with_reducible refine LeO.ite ?_ ?_)
      | (with_reducible refine LeO.bind ?_ (fun _ => ?_))
      | exact ih0 _ _ _
      | exact ih1 _ _ _ _
      | exact ih2 _ _ _ _ _
      | exact ih3 _ _ _ _ _ _
      | exact ih4 _ _ _ _ _ _ _
      | exact ih5 _ _ _ _ _ _ _
      | exact debuggerref40_Lines.mono _ _
      | exact LeO.none _
      | refine LeO.ite ?_ ?_
      | refine LeO.bind ?_ (fun _ => ?_)
    · intro y0 y1 y2 y3 y4 y5 y6
      unfold debuggerref40_Move.j4
      repeat' first
      | (with_reducible exact ih0 _ _ _)
      | (with_reducible exact ih1 _ _ _ _)
      | (with_reducible exact ih2 _ _ _ _ _)
      | (with_reducible exact ih3 _ _ _ _ _ _)
      | (with_reducible exact ih4 _ _ _ _ _ _ _)
      | (with_reducible exact ih5 _ _ _ _ _ _ _)
      | (with_reducible exact debuggerref40_Lines.mono _ _)
      | (with_reducible exact LeO.refl _)
      | (with_reducible exact LeO.none _)
      | (with_reducible refine LeO.ite ?_ ?_)
      | (with_reducible refine LeO.bind ?_ (fun _ => ?_))
      | exact ih0 _ _ _
      | exact ih1 _ _ _ _
      | exact ih2 _ _ _ _ _
      | exact ih3 _ _ _ _ _ _
      | exact ih4 _ _ _ _ _ _ _
      | exact ih5 _ _ _ _ _ _ _
      | exact debuggerref40_Lines.mono _ _
      | exact LeO.none _
      | refine LeO.ite ?_ ?_
      | refine LeO.bind ?_ (fun _ => ?_)
    · intro y0 y1 y2 y3 y4 y5 y6
      unfold debuggerref40_Move.j5
      repeat' first
      | (with_reducible exact ih0 _ _ _)
      | (with_reducible exact ih1 _ _ _ _)
      | (with_reducible exact ih2 _ _ _ _ _)
      | (with_reducible exact ih3 _ _ _ _ _ _)
      | (with_reducible exact ih4 _ _ _ _ _ _ _)
      | (with_reducible exact ih5 _ _ _ _ _ _ _)
      | (with_reducible exact debuggerref40_Lines.mono _ _)
      | (with_reducible exact LeO.refl _)
      | (with_reducible exact LeO.none _)
      | (with_reducible refine LeO.ite ?_ ?_)
      | (with_reducible refine LeO.bind ?_ (fun _ => ?_))
      | exact ih0 _ _ _
      | exact ih1 _ _ _ _
      | exact ih2 _ _ _ _ _
      | exact ih3 _ _ _ _ _ _
      | exact ih4 _ _ _ _ _ _ _
      | exact ih5 _ _ _ _ _ _ _
      | exact debuggerref40_Lines.mono _ _
      | exact LeO.none _
      | refine LeO.ite ?_ ?_
      | refine LeO.bind ?_ (fun _ => ?_)
theorem debuggerref40_Move.mono : ∀ a0 a1 k, LeO (debuggerref40_Move.f k a0 a1) (debuggerref40_Move.f (k + 1) a0 a1) := by
  intro a0 a1 k
  obtain ⟨ih0, ih1, ih2, ih3, ih4, ih5⟩ := debuggerref40_Move.mono_l k
  unfold debuggerref40_Move.f
  repeat' first
      | (with_reducible exact ih0 _ _ _)
      | (with_reducible exact ih1 _ _ _ _)
      | (with_reducible exact ih2 _ _ _ _ _)
      | (with_reducible exact ih3 _ _ _ _ _ _)
      | (with_reducible exact ih4 _ _ _ _ _ _ _)
      | (with_reducible exact ih5 _ _ _ _ _ _ _)
      | (with_reducible exact debuggerref40_Lines.mono _ _)
      | (with_reducible exact LeO.refl _)
      | (with_reducible exact LeO.none _)
      | (with_reducible refine LeO.ite ?_ ?_)
      | (with_reducible refine LeO.bind ?_ (fun _ => ?_))
      | exact ih0 _ _ _
      | exact ih1 _ _ _ _
      | exact ih2 _ _ _ _ _
      | exact ih3 _ _ _ _ _ _
      | exact ih4 _ _ _ _ _ _ _
      | exact ih5 _ _ _ _ _ _ _
      | exact debuggerref40_Lines.mono _ _
      | exact LeO.none _
      | refine LeO.ite ?_ ?_
      | refine LeO.bind ?_ (fun _ => ?_)
def debuggerref40_Move.T13 : Bool × List (List Nat × List Nat) := (true, [([], []), ([], []), ([0, 1], [0, 1]), ([2], [2]), ([], []), ([], []), ([], []), ([6], [6]), ([5, 7], [5, 7]), ([8], [8]), ([], []), ([9, 10], [9, 10]), ([11], [11]), ([], []), ([], []), ([13, 14], [13, 14]), ([15], [15]), ([], []), ([17], [17]), ([16, 18], [16, 18]), ([19], [19]), ([12, 20], [12, 20]), ([3, 4, 0, 1, 2, 3, 4, 5, 6, 7, 8, 9, 10, 11, 12, 13, 14, 15, 16, 17, 18, 19, 20, 21], [3, 4]), ([22, 21, 0, 1, 2, 3, 4, 5, 6, 7, 8, 9, 10, 11, 12, 13, 14, 15, 16, 17, 18, 19, 20, 21], [21, 22])])
def debuggerref40_Move.B13 : List Nat := [0, 0, 3, 7, 0, 0, 0, 64, 224, 480, 0, 2016, 4064, 0, 0, 24576, 57344, 0, 131072, 516096, 1040384, 2097120, 4194303, 8388607]
theorem debuggerref40_Move.tab13 : rtab .any (opsOf Tryz.f11 13) = debuggerref40_Move.T13 := by kernel_rfl
theorem debuggerref40_Move.bits13 : waitsOk debuggerref40_Move.T13.2 debuggerref40_Move.B13 = true := by kernel_rfl
def debuggerref40_Move.T14 : Bool × List (List Nat × List Nat) := (true, [([], []), ([], []), ([0, 1], [0, 1]), ([2], [2]), ([], []), ([], []), ([4, 5], [4, 5]), ([6], [6]), ([3, 7], [3, 7])])
def debuggerref40_Move.B14 : List Nat := [0, 0, 3, 7, 0, 0, 48, 112, 255]
theorem debuggerref40_Move.tab14 : rtab .any (opsOf Tryz.f11 14) = debuggerref40_Move.T14 := by kernel_rfl
theorem debuggerref40_Move.bits14 : waitsOk debuggerref40_Move.T14.2 debuggerref40_Move.B14 = true := by kernel_rfl
def debuggerref40_Move.T15 : Bool × List (List Nat × List Nat) := (true, [([], []), ([], []), ([0, 1], [0, 1]), ([2], [2]), ([], []), ([], []), ([], []), ([5, 6], [5, 6]), ([7], [7]), ([], []), ([8, 9], [8, 9]), ([10], [10]), ([], []), ([], []), ([13], [13]), ([12, 14], [12, 14]), ([15], [15]), ([], []), ([17], [17]), ([16, 18], [16, 18]), ([19], [19]), ([20], [20]), ([11, 21], [11, 21]), ([3, 4, 0, 1, 2, 3, 4, 5, 6, 7, 8, 9, 10, 11, 12, 13, 14, 15, 16, 17, 18, 19, 20, 21, 22], [3, 4]), ([23, 22, 0, 1, 2, 3, 4, 5, 6, 7, 8, 9, 10, 11, 12, 13, 14, 15, 16, 17, 18, 19, 20, 21, 22], [22, 23])])
def debuggerref40_Move.B15 : List Nat := [0, 0, 3, 7, 0, 0, 0, 96, 224, 0, 992, 2016, 0, 0, 8192, 28672, 61440, 0, 131072, 520192, 1044480, 2093056, 4194272, 8388607, 16777215]
theorem debuggerref40_Move.tab15 : rtab .any (opsOf Tryz.f11 15) = debuggerref40_Move.T15 := by kernel_rfl
theorem debuggerref40_Move.bits15 : waitsOk debuggerref40_Move.T15.2 debuggerref40_Move.B15 = true := by kernel_rfl
def debuggerref40_Move.T20 : Bool × List (List Nat × List Nat) := (true, [([], []), ([], []), ([0, 1], [0, 1]), ([2], [2]), ([], []), ([], []), ([4, 5], [4, 5]), ([6], [6]), ([3, 7], [3, 7]), ([8], [8]), ([9], [9]), ([9], [9]), ([10, 11, 9], [9, 10, 11]), ([12, 9], [9, 12]), ([9], [9]), ([13, 14, 9], [9, 13, 14]), ([15, 9], [9, 15]), ([9], [9]), ([9], [9]), ([18, 9], [9, 18]), ([17, 19, 9], [9, 17, 19]), ([20, 9], [9, 20]), ([9], [9]), ([22, 9], [9, 22]), ([21, 23, 9], [9, 21, 23]), ([24, 9], [9, 24]), ([25, 9], [9, 25]), ([16, 26, 9], [9, 16, 26]), ([9, 27], [9, 27]), ([28, 9], [28])])
def debuggerref40_Move.B20 : List Nat := [0, 0, 3, 7, 0, 0, 48, 112, 255, 511, 1023, 1023, 4095, 8191, 1023, 32767, 65535, 1023, 1023, 263167, 918527, 1967103, 1023, 4195327, 16647167, 33424383, 66978815, 134217727, 268435455, 536870911]
theorem debuggerref40_Move.tab20 : rtab .any (opsOf Tryz.f11 20) = debuggerref40_Move.T20 := by kernel_rfl
theorem debuggerref40_Move.bits20 : waitsOk debuggerref40_Move.T20.2 debuggerref40_Move.B20 = true := by kernel_rfl
def debuggerref40_Move.T24 : Bool × List (List Nat × List Nat) := (true, [([], []), ([], []), ([1], [1]), ([0, 2], [0, 2]), ([3], [3]), ([], []), ([4, 5], [4, 5]), ([6], [6]), ([], []), ([], []), ([8, 9], [8, 9]), ([10], [10]), ([], []), ([12], [12]), ([11, 13], [11, 13]), ([14], [14]), ([7, 15], [7, 15]), ([16], [16])])
def debuggerref40_Move.B24 : List Nat := [0, 0, 2, 7, 15, 0, 63, 127, 0, 0, 768, 1792, 0, 4096, 16128, 32512, 65535, 131071]
theorem debuggerref40_Move.tab24 : rtab .any (opsOf Tryz.f11 24) = debuggerref40_Move.T24 := by kernel_rfl
theorem debuggerref40_Move.bits24 : waitsOk debuggerref40_Move.T24.2 debuggerref40_Move.B24 = true := by kernel_rfl

end Go.Proofs.YtkmhbfgkhalaoaaGreatDoor.PB

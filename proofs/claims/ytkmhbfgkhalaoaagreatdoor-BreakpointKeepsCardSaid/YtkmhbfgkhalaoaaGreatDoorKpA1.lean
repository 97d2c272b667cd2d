/- A walk through the code of law 40: what a function computes, as a Lean function. No condition but those in its lemmas. -/
import Derived.Test.YtkmhbfgkhalaoaaGreatDoorMvA
namespace Go.Proofs.YtkmhbfgkhalaoaaGreatDoor.PB
open Go.RowKit Go.Proofs.YtkmhbfgkhalaoaaGreatDoorW.PrintWords Go.Proofs.YtkmhbfgkhalaoaaGreatDoorW.PrintLast Go.Proofs.YtkmhbfgkhalaoaaGreatDoorW.PrintMore
attribute [local go_sem] max2_int min2_int max_two min_two max_three min_three max_four min_four   -- for this text's walks alone
set_option linter.unusedVariables false
set_option linter.unusedSimpArgs false

/-! ### debuggerlaw40_longest: function 17 -/
mutual
def debuggerlaw40_longest.l0 : Nat → List ByteArray → List ByteArray → List Int → Int → Option (Int)
  | 0, _, _, _, _ => none
  | k + 1, x0, x1, x5, x6 => if x6 < (x0.length : Int) then (if 0 ≤ (wrap64 ((x1.length : Int) + 1)) then (if (wrap64 ((x1.length : Int) + 1) : Int).toNat ≤ 35184372088832 then (debuggerlaw40_longest.l1 k x0 x1 x5 x6 (List.replicate (wrap64 ((x1.length : Int) + 1) : Int).toNat 0) 0) else (none)) else (none)) else (if 0 ≤ (x1.length : Int) then (if (x1.length : Int) < (x5.length : Int) then (some (rd x5 (x1.length : Int))) else (none)) else (none))
def debuggerlaw40_longest.l1 : Nat → List ByteArray → List ByteArray → List Int → Int → List Int → Int → Option (Int)
  | 0, _, _, _, _, _, _ => none
  | k + 1, x0, x1, x5, x6, x7, x8 => if x8 < (x1.length : Int) then (if 0 ≤ x8 then (if x8 < (x7.length : Int) then (if 0 ≤ (wrap64 (x8 + 1)) then (if (wrap64 (x8 + 1)) < (x5.length : Int) then (if (wrap64 (x8 + 1)) < (x7.length : Int) then ((some (x7.set ((wrap64 (x8 + 1)) : Int).toNat (mx (rd x7 x8) (rd x5 (wrap64 (x8 + 1)))) : List Int)).bind fun y182 => (if 0 ≤ x6 then (if x6 < (x0.length : Int) then (if (rdOf ByteArray.empty x0 x6).toList = (rdOf ByteArray.empty x1 x8).toList then (if x8 < (x5.length : Int) then (debuggerlaw40_longest.l1 k x0 x1 x5 x6 (y182.set ((wrap64 (x8 + 1)) : Int).toNat (mx (rd y182 (wrap64 (x8 + 1))) (wrap64 ((rd x5 x8) + 1)))) (wrap64 (x8 + 1))) else (none)) else (debuggerlaw40_longest.l1 k x0 x1 x5 x6 y182 (wrap64 (x8 + 1)))) else (none)) else (none))) else (none)) else (none)) else (none)) else (none)) else (none)) else (debuggerlaw40_longest.l0 k x0 x1 x7 (wrap64 (x6 + 1)))
end
def debuggerlaw40_longest.f (k : Nat) (l0 : List ByteArray) (l1 : List ByteArray) : Option (Int) := if 0 ≤ (wrap64 ((l1.length : Int) + 1)) then (if (wrap64 ((l1.length : Int) + 1) : Int).toNat ≤ 35184372088832 then (debuggerlaw40_longest.l0 k l0 l1 (List.replicate (wrap64 ((l1.length : Int) + 1) : Int).toNat 0) 0) else (none)) else (none)
theorem debuggerlaw40_longest.mono_l : ∀ k, (∀ y0 y1 y2 y3, LeO (debuggerlaw40_longest.l0 k y0 y1 y2 y3) (debuggerlaw40_longest.l0 (k + 1) y0 y1 y2 y3)) ∧ (∀ y0 y1 y2 y3 y4 y5, LeO (debuggerlaw40_longest.l1 k y0 y1 y2 y3 y4 y5) (debuggerlaw40_longest.l1 (k + 1) y0 y1 y2 y3 y4 y5))
  | 0 => ⟨fun _ _ _ _ r h => by simp [debuggerlaw40_longest.l0] at h, fun _ _ _ _ _ _ r h => by simp [debuggerlaw40_longest.l1] at h⟩
  | k + 1 => by
    obtain ⟨ih0, ih1⟩ := debuggerlaw40_longest.mono_l k
    refine ⟨?_, ?_⟩
    · intro y0 y1 y2 y3
      unfold debuggerlaw40_longest.l0
      repeat' first
      | (with_reducible exact ih0 _ _ _ _)
      | (with_reducible exact ih1 _ _ _ _ _ _)
      | (with_reducible exact LeO.refl _)
      | (with_reducible exact LeO.none _)
      | (with_reducible refine LeO.ite ?_ ?_)
      | (with_reducible refine LeO.bind ?_ (fun _ => ?_))
      | exact ih0 _ _ _ _
      | exact ih1 _ _ _ _ _ _
      | exact LeO.none _
      | refine LeO.ite ?_ ?_
      | refine LeO.bind ?_ (fun _ => ?_)
    · intro y0 y1 y2 y3 y4 y5
      unfold debuggerlaw40_longest.l1
      repeat' first
      | (with_reducible exact ih0 _ _ _ _)
      | (with_reducible exact ih1 _ _ _ _ _ _)
      | (with_reducible exact LeO.refl _)
      | (with_reducible exact LeO.none _)
      | (with_reducible refine LeO.ite ?_ ?_)
      | (with_reducible refine LeO.bind ?_ (fun _ => ?_))
      | exact ih0 _ _ _ _
      | exact ih1 _ _ _ _ _ _
      | exact LeO.none _
      | refine LeO.ite ?_ ?_
      | refine LeO.bind ?_ (fun _ => ?_)
theorem debuggerlaw40_longest.mono : ∀ a0 a1 k, LeO (debuggerlaw40_longest.f k a0 a1) (debuggerlaw40_longest.f (k + 1) a0 a1) := by
  intro a0 a1 k
  obtain ⟨ih0, ih1⟩ := debuggerlaw40_longest.mono_l k
  unfold debuggerlaw40_longest.f
  repeat' first
      | (with_reducible exact ih0 _ _ _ _)
      | (with_reducible exact ih1 _ _ _ _ _ _)
      | (with_reducible exact LeO.refl _)
      | (with_reducible exact LeO.none _)
      | (with_reducible refine LeO.ite ?_ ?_)
      | (with_reducible refine LeO.bind ?_ (fun _ => ?_))
      | exact ih0 _ _ _ _
      | exact ih1 _ _ _ _ _ _
      | exact LeO.none _
      | refine LeO.ite ?_ ?_
      | refine LeO.bind ?_ (fun _ => ?_)
def debuggerlaw40_longest.T9 : Bool × List (List Nat × List Nat) := (true, [([], []), ([], []), ([1], [1]), ([], []), ([], []), ([3, 4], [3, 4]), ([5], [5]), ([], []), ([], []), ([8], [8]), ([7, 9], [7, 9]), ([10], [10]), ([6, 11], [6, 11]), ([0, 2, 0, 1, 2, 3, 4, 5, 6, 7, 8, 9, 10, 11, 12], [0, 2]), ([13, 12, 0, 1, 2, 3, 4, 5, 6, 7, 8, 9, 10, 11, 12], [12, 13])])
def debuggerlaw40_longest.B9 : List Nat := [0, 0, 2, 0, 0, 24, 56, 0, 0, 256, 896, 1920, 4088, 8191, 16383]
theorem debuggerlaw40_longest.tab9 : rtab .any (opsOf Tryz.f17 9) = debuggerlaw40_longest.T9 := by kernel_rfl
theorem debuggerlaw40_longest.bits9 : waitsOk debuggerlaw40_longest.T9.2 debuggerlaw40_longest.B9 = true := by kernel_rfl
def debuggerlaw40_longest.T10 : Bool × List (List Nat × List Nat) := (true, [([], []), ([], []), ([0, 1], [0, 1]), ([2], [2]), ([], []), ([], []), ([4, 5], [4, 5]), ([6], [6]), ([3, 7], [3, 7])])
def debuggerlaw40_longest.B10 : List Nat := [0, 0, 3, 7, 0, 0, 48, 112, 255]
theorem debuggerlaw40_longest.tab10 : rtab .any (opsOf Tryz.f17 10) = debuggerlaw40_longest.T10 := by kernel_rfl
theorem debuggerlaw40_longest.bits10 : waitsOk debuggerlaw40_longest.T10.2 debuggerlaw40_longest.B10 = true := by kernel_rfl
def debuggerlaw40_longest.T11 : Bool × List (List Nat × List Nat) := (true, [([], []), ([], []), ([1], [1]), ([], []), ([], []), ([4], [4]), ([3, 5], [3, 5]), ([6], [6]), ([], []), ([], []), ([8, 9], [8, 9]), ([10], [10]), ([11], [11]), ([7, 12], [7, 12]), ([0, 2, 0, 1, 2, 3, 4, 5, 6, 7, 8, 9, 10, 11, 12, 13], [0, 2]), ([14, 13, 0, 1, 2, 3, 4, 5, 6, 7, 8, 9, 10, 11, 12, 13], [13, 14])])
def debuggerlaw40_longest.B11 : List Nat := [0, 0, 2, 0, 0, 16, 56, 120, 0, 0, 768, 1792, 3840, 8184, 16383, 32767]
theorem debuggerlaw40_longest.tab11 : rtab .any (opsOf Tryz.f17 11) = debuggerlaw40_longest.T11 := by kernel_rfl
theorem debuggerlaw40_longest.bits11 : waitsOk debuggerlaw40_longest.T11.2 debuggerlaw40_longest.B11 = true := by kernel_rfl

end Go.Proofs.YtkmhbfgkhalaoaaGreatDoor.PB

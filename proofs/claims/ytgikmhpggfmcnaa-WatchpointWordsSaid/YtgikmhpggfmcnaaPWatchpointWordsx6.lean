/- The Lean function of WatchpointWords: its rounds, and the tables of its regions. Printed by a changed copy of the kit's printer in this session: not print.sh's own text. -/
import Derived.Test.YtgikmhpggfmcnaaPWatchpointWordsx0
import Derived.Test.YtgikmhpggfmcnaaPWatchpointWordsx3
import Derived.Test.YtgikmhpggfmcnaaPWatchpointWordsx5
namespace Go.Proofs.Ytgikmhpggfmcnaa.PWatchpointWords
open Go.RowKit Go.Proofs.YtgikmhpggfmcnaaW.PrintWords Go.Proofs.YtgikmhpggfmcnaaW.PrintLast Go.Proofs.YtgikmhpggfmcnaaW.PrintMore
attribute [local go_sem] max2_int min2_int max_two min_two max_three min_three max_four min_four   -- for this text's walks alone
set_option linter.unusedVariables false
set_option linter.unusedSimpArgs false

/-! ### debuggerlaw41_WatchpointWords: function 4 -/
mutual
def debuggerlaw41_WatchpointWords.l0 : Nat → List Int → List Int → Int → Int → Bool → Int → Int → Int → List Bool → List Int → Int → Int → List Bool → List Int → Option (Bool)
  | 0, _, _, _, _, _, _, _, _, _, _, _, _, _, _ => none
  | k + 1, x0, x1, x2, x7, x10, x11, x210000, x210001, x210002, x210003, x211000, x211001, x211002, x211003 => if x11 < x7 then (if 0 ≤ (IntKind.u64.wrap (x11)) then ((some (([true] : List Bool) : List Bool)).bind fun y211 => (if x210002.length + y211.length < 140737488355328 then ((some (x210002 ++ y211 : List Bool)).bind fun y214 => (if 0 ≤ x11 then (if x11 < (x0.length : Int) then ((some (([rd x0 x11] : List Int) : List Int)).bind fun y218 => (if x210003.length + y218.length < 17592186044416 then ((some (x210003 ++ y218 : List Int)).bind fun y221 => ((some (([((Go.bits .and .i64 (shr .i64 x2 (IntKind.u64.wrap (x11))) 1) == 0)] : List Bool) : List Bool)).bind fun y224 => (if x211002.length + y224.length < 140737488355328 then ((some (x211002 ++ y224 : List Bool)).bind fun y227 => (if x11 < (x1.length : Int) then ((some (([rd x1 x11] : List Int) : List Int)).bind fun y231 => (if x211003.length + y231.length < 17592186044416 then ((some (x211003 ++ y231 : List Int)).bind fun y234 => (if x10 = true then (debuggerlaw41_WatchpointWords.l0 k x0 x1 x2 x7 true (wrap64 (x11 + 1)) x210000 x210001 y214 y221 x211000 x211001 y227 y234) else (if (Go.bits .and .i64 (shr .i64 x2 (IntKind.u64.wrap (x11))) 1) = 0 then (debuggerlaw41_WatchpointWords.l0 k x0 x1 x2 x7 ((rd x0 x11) != (rd x1 x11)) (wrap64 (x11 + 1)) x210000 x210001 y214 y221 x211000 x211001 y227 y234) else (debuggerlaw41_WatchpointWords.l0 k x0 x1 x2 x7 false (wrap64 (x11 + 1)) x210000 x210001 y214 y221 x211000 x211001 y227 y234)))) else (none))) else (none))) else (none)))) else (none))) else (none)) else (none))) else (none))) else (none)) else ((watchpoint_Check.f k x210000 x210001 x210002 x210003 x211000 x211001 x211002 x211003).bind fun bt239 => (if (bt239.2.2.2.2 != x10) = true then (debuggerlaw41_WatchpointWords.j1 k x0 x1 x2 x7 true bt239.1 bt239.2.1 bt239.2.2.1 bt239.2.2.2.1) else (if (bt239.2.2.2.1.length : Int) = x7 then (debuggerlaw41_WatchpointWords.j1 k x0 x1 x2 x7 ((bt239.2.2.1.length : Int) != x7) bt239.1 bt239.2.1 bt239.2.2.1 bt239.2.2.2.1) else (debuggerlaw41_WatchpointWords.j1 k x0 x1 x2 x7 true bt239.1 bt239.2.1 bt239.2.2.1 bt239.2.2.2.1))))
def debuggerlaw41_WatchpointWords.j1 : Nat → List Int → List Int → Int → Int → Bool → Int → Int → List Bool → List Int → Option (Bool)
  | 0, _, _, _, _, _, _, _, _, _ => none
  | k + 1, x0, x1, x2, x7, x101, x249000, x249001, x249002, x249003 => if x101 = true then (some false) else (debuggerlaw41_WatchpointWords.l1 k x0 x1 x2 x7 0 x249000 x249001 x249002 x249003)
def debuggerlaw41_WatchpointWords.l1 : Nat → List Int → List Int → Int → Int → Int → Int → Int → List Bool → List Int → Option (Bool)
  | 0, _, _, _, _, _, _, _, _, _ => none
  | k + 1, x0, x1, x2, x7, x15, x249000, x249001, x249002, x249003 => if x15 < x7 then (if 0 ≤ x15 then (if x15 < (x0.length : Int) then (if 0 ≤ (IntKind.u64.wrap (x15)) then (if (Go.bits .and .i64 (shr .i64 x2 (IntKind.u64.wrap (x15))) 1) = 0 then (if x15 < (x1.length : Int) then (if x15 < (x249002.length : Int) then (if rdOf false x249002 x15 = true then (if x15 < (x249003.length : Int) then (if (rd x249003 x15) = (rd x1 x15) then (debuggerlaw41_WatchpointWords.l1 k x0 x1 x2 x7 (wrap64 (x15 + 1)) x249000 x249001 x249002 x249003) else (some false)) else (none)) else (some false)) else (none)) else (none)) else (if x15 < (x249002.length : Int) then (if rdOf false x249002 x15 = true then (if x15 < (x249003.length : Int) then (if (rd x249003 x15) = (rd x0 x15) then (debuggerlaw41_WatchpointWords.l1 k x0 x1 x2 x7 (wrap64 (x15 + 1)) x249000 x249001 x249002 x249003) else (some false)) else (none)) else (some false)) else (none))) else (none)) else (none)) else (none)) else ((debuggerlaw41_awake.f k).bind fun t249 => (some t249))
end
def debuggerlaw41_WatchpointWords.f (k : Nat) (l0 : List Int) (l1 : List Int) (a2 : Int) : Option (Bool) := debuggerlaw41_WatchpointWords.l0 k l0 l1 a2 (mn (mn (l0.length : Int) (l1.length : Int)) 6) false 0 3 0 ([] : List Bool) ([] : List Int) 3 0 ([] : List Bool) ([] : List Int)
theorem debuggerlaw41_WatchpointWords.mono_l : ∀ k, (∀ y0 y1 y2 y3 y4 y5 y6 y7 y8 y9 y10 y11 y12 y13, LeO (debuggerlaw41_WatchpointWords.l0 k y0 y1 y2 y3 y4 y5 y6 y7 y8 y9 y10 y11 y12 y13) (debuggerlaw41_WatchpointWords.l0 (k + 1) y0 y1 y2 y3 y4 y5 y6 y7 y8 y9 y10 y11 y12 y13)) ∧ (∀ y0 y1 y2 y3 y4 y5 y6 y7 y8, LeO (debuggerlaw41_WatchpointWords.j1 k y0 y1 y2 y3 y4 y5 y6 y7 y8) (debuggerlaw41_WatchpointWords.j1 (k + 1) y0 y1 y2 y3 y4 y5 y6 y7 y8)) ∧ (∀ y0 y1 y2 y3 y4 y5 y6 y7 y8, LeO (debuggerlaw41_WatchpointWords.l1 k y0 y1 y2 y3 y4 y5 y6 y7 y8) (debuggerlaw41_WatchpointWords.l1 (k + 1) y0 y1 y2 y3 y4 y5 y6 y7 y8))
  | 0 => ⟨fun _ _ _ _ _ _ _ _ _ _ _ _ _ _ r h => by simp [debuggerlaw41_WatchpointWords.l0] at h, fun _ _ _ _ _ _ _ _ _ r h => by simp [debuggerlaw41_WatchpointWords.j1] at h, fun _ _ _ _ _ _ _ _ _ r h => by simp [debuggerlaw41_WatchpointWords.l1] at h⟩
  | k + 1 => by
    obtain ⟨ih0, ih1, ih2⟩ := debuggerlaw41_WatchpointWords.mono_l k
    refine ⟨?_, ?_, ?_⟩
    · intro y0 y1 y2 y3 y4 y5 y6 y7 y8 y9 y10 y11 y12 y13
      unfold debuggerlaw41_WatchpointWords.l0
      repeat' first
      | (with_reducible exact ih0 _ _ _ _ _ _ _ _ _ _ _ _ _ _)
      | (with_reducible exact ih1 _ _ _ _ _ _ _ _ _)
      | (with_reducible exact ih2 _ _ _ _ _ _ _ _ _)
      | (with_reducible exact debuggerlaw41_awake.mono _)
      | (with_reducible exact watchpoint_Check.mono _ _ _ _ _ _ _ _ _)
      | (with_reducible exact LeO.refl _)
      | (with_reducible exact LeO.none _)
      | (with_reducible refine LeO.ite ?_ ?_)
      | (with_reducible refine LeO.bind ?_ (fun _ => ?_))
      | exact ih0 _ _ _ _ _ _ _ _ _ _ _ _ _ _
      | exact ih1 _ _ _ _ _ _ _ _ _
      | exact ih2 _ _ _ _ _ _ _ _ _
      | exact debuggerlaw41_awake.mono _
      | exact watchpoint_Check.mono _ _ _ _ _ _ _ _ _
      | exact LeO.none _
      | refine LeO.ite ?_ ?_
      | refine LeO.bind ?_ (fun _ => ?_)
    · intro y0 y1 y2 y3 y4 y5 y6 y7 y8
      unfold debuggerlaw41_WatchpointWords.j1
      repeat' first
      | (with_reducible exact ih0 _ _ _ _ _ _ _ _ _ _ _ _ _ _)
      | (with_reducible exact ih1 _ _ _ _ _ _ _ _ _)
      | (with_reducible exact ih2 _ _ _ _ _ _ _ _ _)
      | (with_reducible exact debuggerlaw41_awake.mono _)
      | (with_reducible exact watchpoint_Check.mono _ _ _ _ _ _ _ _ _)
      | (with_reducible exact LeO.refl _)
      | (with_reducible exact LeO.none _)
      | (with_reducible refine LeO.ite ?_ ?_)
      | (with_reducible refine LeO.bind ?_ (fun _ => ?_))
      | exact ih0 _ _ _ _ _ _ _ _ _ _ _ _ _ _
      | exact ih1 _ _ _ _ _ _ _ _ _
      | exact ih2 _ _ _ _ _ _ _ _ _
      | exact debuggerlaw41_awake.mono _
      | exact watchpoint_Check.mono _ _ _ _ _ _ _ _ _
      | exact LeO.none _
      | refine LeO.ite ?_ ?_
      | refine LeO.bind ?_ (fun _ => ?_)
    · intro y0 y1 y2 y3 y4 y5 y6 y7 y8
      unfold debuggerlaw41_WatchpointWords.l1
      repeat' first
      | (with_reducible exact ih0 _ _ _ _ _ _ _ _ _ _ _ _ _ _)
      | (with_reducible exact ih1 _ _ _ _ _ _ _ _ _)
      | (with_reducible exact ih2 _ _ _ _ _ _ _ _ _)
      | (with_reducible exact debuggerlaw41_awake.mono _)
      | (with_reducible exact watchpoint_Check.mono _ _ _ _ _ _ _ _ _)
      | (with_reducible exact LeO.refl _)
      | (with_reducible exact LeO.none _)
      | (with_reducible refine LeO.ite ?_ ?_)
      | (with_reducible refine LeO.bind ?_ (fun _ => ?_))
      | exact ih0 _ _ _ _ _ _ _ _ _ _ _ _ _ _
      | exact ih1 _ _ _ _ _ _ _ _ _
      | exact ih2 _ _ _ _ _ _ _ _ _
      | exact debuggerlaw41_awake.mono _
      | exact watchpoint_Check.mono _ _ _ _ _ _ _ _ _
      | exact LeO.none _
      | refine LeO.ite ?_ ?_
      | refine LeO.bind ?_ (fun _ => ?_)
theorem debuggerlaw41_WatchpointWords.mono : ∀ a0 a1 a2 k, LeO (debuggerlaw41_WatchpointWords.f k a0 a1 a2) (debuggerlaw41_WatchpointWords.f (k + 1) a0 a1 a2) := by
  intro a0 a1 a2 k
  obtain ⟨ih0, ih1, ih2⟩ := debuggerlaw41_WatchpointWords.mono_l k
  unfold debuggerlaw41_WatchpointWords.f
  repeat' first
      | (with_reducible exact ih0 _ _ _ _ _ _ _ _ _ _ _ _ _ _)
      | (with_reducible exact ih1 _ _ _ _ _ _ _ _ _)
      | (with_reducible exact ih2 _ _ _ _ _ _ _ _ _)
      | (with_reducible exact debuggerlaw41_awake.mono _)
      | (with_reducible exact watchpoint_Check.mono _ _ _ _ _ _ _ _ _)
      | (with_reducible exact LeO.refl _)
      | (with_reducible exact LeO.none _)
      | (with_reducible refine LeO.ite ?_ ?_)
      | (with_reducible refine LeO.bind ?_ (fun _ => ?_))
      | exact ih0 _ _ _ _ _ _ _ _ _ _ _ _ _ _
      | exact ih1 _ _ _ _ _ _ _ _ _
      | exact ih2 _ _ _ _ _ _ _ _ _
      | exact debuggerlaw41_awake.mono _
      | exact watchpoint_Check.mono _ _ _ _ _ _ _ _ _
      | exact LeO.none _
      | refine LeO.ite ?_ ?_
      | refine LeO.bind ?_ (fun _ => ?_)
def debuggerlaw41_WatchpointWords.T8 : Bool × List (List Nat × List Nat) := (true, [([], []), ([0], [0]), ([], []), ([1, 2], [1, 2]), ([], []), ([4], [4]), ([], []), ([], []), ([6, 7], [6, 7]), ([8], [8]), ([9], [9]), ([5, 10, 3], [5, 10]), ([0, 1, 2, 3, 4, 5], []), ([12, 3, 11, 0, 1, 2, 3, 4, 5], [3, 12]), ([0, 1, 2, 3, 4, 5, 6, 7, 8, 9, 10, 11, 12, 13], []), ([14, 11, 13, 0, 1, 2, 3, 4, 5, 6, 7, 8, 9, 10, 11, 12, 13], [11, 14])])
def debuggerlaw41_WatchpointWords.B8 : List Nat := [0, 1, 0, 7, 0, 16, 0, 0, 192, 448, 960, 2047, 63, 8191, 16383, 32767]
theorem debuggerlaw41_WatchpointWords.tab8 : rtab .any (opsOf Try.f4 8) = debuggerlaw41_WatchpointWords.T8 := by kernel_rfl
theorem debuggerlaw41_WatchpointWords.bits8 : waitsOk debuggerlaw41_WatchpointWords.T8.2 debuggerlaw41_WatchpointWords.B8 = true := by kernel_rfl
def debuggerlaw41_WatchpointWords.T9 : Bool × List (List Nat × List Nat) := (true, [([], []), ([0], [0]), ([], []), ([2], [2]), ([1, 3], [1, 3]), ([], []), ([5], [5]), ([], []), ([], []), ([7, 8], [7, 8]), ([9], [9]), ([10], [10]), ([6, 11, 4], [6, 11]), ([0, 1, 2, 3, 4, 5, 6], []), ([13, 4, 12, 0, 1, 2, 3, 4, 5, 6], [4, 13]), ([0, 1, 2, 3, 4, 5, 6, 7, 8, 9, 10, 11, 12, 13, 14], []), ([15, 12, 14, 0, 1, 2, 3, 4, 5, 6, 7, 8, 9, 10, 11, 12, 13, 14], [12, 15])])
def debuggerlaw41_WatchpointWords.B9 : List Nat := [0, 1, 0, 4, 15, 0, 32, 0, 0, 384, 896, 1920, 4095, 127, 16383, 32767, 65535]
theorem debuggerlaw41_WatchpointWords.tab9 : rtab .any (opsOf Try.f4 9) = debuggerlaw41_WatchpointWords.T9 := by kernel_rfl
theorem debuggerlaw41_WatchpointWords.bits9 : waitsOk debuggerlaw41_WatchpointWords.T9.2 debuggerlaw41_WatchpointWords.B9 = true := by kernel_rfl
def debuggerlaw41_WatchpointWords.T10 : Bool × List (List Nat × List Nat) := (true, [([], []), ([0], [0]), ([1], [1]), ([2, 1, 1], [1, 2]), ([3], [3]), ([3], [3]), ([4, 5, 3], [3, 4, 5]), ([6, 3], [3, 6]), ([3], [3]), ([3], [3]), ([8, 9, 3], [3, 8, 9]), ([10, 3], [3, 10]), ([7, 11, 3], [3, 7, 11]), ([3, 12, 1], [1, 3, 12]), ([1, 13], [1, 13]), ([14, 3, 0, 1, 2, 3, 4, 5, 6, 7, 8, 9, 10, 11, 12, 13, 14], [0, 14])])
def debuggerlaw41_WatchpointWords.B10 : List Nat := [0, 1, 3, 7, 15, 15, 63, 127, 15, 15, 783, 1807, 4095, 8191, 16383, 32767]
theorem debuggerlaw41_WatchpointWords.tab10 : rtab .any (opsOf Try.f4 10) = debuggerlaw41_WatchpointWords.T10 := by kernel_rfl
theorem debuggerlaw41_WatchpointWords.bits10 : waitsOk debuggerlaw41_WatchpointWords.T10.2 debuggerlaw41_WatchpointWords.B10 = true := by kernel_rfl
end Go.Proofs.Ytgikmhpggfmcnaa.PWatchpointWords

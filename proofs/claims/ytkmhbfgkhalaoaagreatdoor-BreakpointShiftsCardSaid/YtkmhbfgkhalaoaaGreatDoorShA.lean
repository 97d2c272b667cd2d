/- A walk through the code of law 40: what a function computes, as a Lean function. No condition but those in its lemmas. -/
import Derived.Test.YtkmhbfgkhalaoaaGreatDoorMvA
namespace Go.Proofs.YtkmhbfgkhalaoaaGreatDoor.PB
open Go.RowKit Go.Proofs.YtkmhbfgkhalaoaaGreatDoorW.PrintWords Go.Proofs.YtkmhbfgkhalaoaaGreatDoorW.PrintLast Go.Proofs.YtkmhbfgkhalaoaaGreatDoorW.PrintMore
attribute [local go_sem] max2_int min2_int max_two min_two max_three min_three max_four min_four   -- for this text's walks alone
set_option linter.unusedVariables false
set_option linter.unusedSimpArgs false

/-! ### breakpoint_Follow: function 14 -/
def breakpoint_Follow.l0 : Nat → List Int → Int → Option (Int)
  | 0, _, _ => none
  | k + 1, x0, x5 => if x5 < (x0.length : Int) then (if 0 ≤ x5 then (if (rd x0 x5) = 0 then (breakpoint_Follow.l0 k x0 (wrap64 (x5 + 1))) else (some (rd x0 x5))) else (none)) else (some 0)
def breakpoint_Follow.f (k : Nat) (l0 : List Int) (a1 : Int) : Option (Int) := if a1 < 1 then (some 0) else (breakpoint_Follow.l0 k l0 (wrap64 (a1 - 1)))
theorem breakpoint_Follow.mono_l : ∀ k, (∀ y0 y1, LeO (breakpoint_Follow.l0 k y0 y1) (breakpoint_Follow.l0 (k + 1) y0 y1))
  | 0 => fun _ _ r h => by simp [breakpoint_Follow.l0] at h
  | k + 1 => by
    have ih0 := breakpoint_Follow.mono_l k
    · intro y0 y1
      unfold breakpoint_Follow.l0
      repeat' first
      | (with_reducible exact ih0 _ _)
      | (with_reducible exact LeO.refl _)
      | (with_reducible exact LeO.none _)
      | (with_reducible refine LeO.ite ?_ ?_)
      | (with_reducible refine LeO.bind ?_ (fun _ => ?_))
      | exact ih0 _ _
      | exact LeO.none _
      | refine LeO.ite ?_ ?_
      | refine LeO.bind ?_ (fun _ => ?_)
theorem breakpoint_Follow.mono : ∀ a0 a1 k, LeO (breakpoint_Follow.f k a0 a1) (breakpoint_Follow.f (k + 1) a0 a1) := by
  intro a0 a1 k
  have ih0 := breakpoint_Follow.mono_l k
  unfold breakpoint_Follow.f
  repeat' first
      | (with_reducible exact ih0 _ _)
      | (with_reducible exact LeO.refl _)
      | (with_reducible exact LeO.none _)
      | (with_reducible refine LeO.ite ?_ ?_)
      | (with_reducible refine LeO.bind ?_ (fun _ => ?_))
      | exact ih0 _ _
      | exact LeO.none _
      | refine LeO.ite ?_ ?_
      | refine LeO.bind ?_ (fun _ => ?_)
/-! ### debuggerlaw40_BreakpointShifts: function 5 -/
mutual
def debuggerlaw40_BreakpointShifts.l0 : Nat → Int → Int → Int → ByteArray → ByteArray → Int → Option (Bool)
  | 0, _, _, _, _, _, _ => none
  | k + 1, x1, x2, x3, x9, x11, x12 => if x12 < x1 then (if x11.size + 4 ≤ 9223372036854775807 then (debuggerlaw40_BreakpointShifts.l0 k x1 x2 x3 x9 (x11 ++ (⟨#[110, 101, 119, 10]⟩ : ByteArray)) (wrap64 (x12 + 1))) else (none)) else (if x11.size + x9.size ≤ 9223372036854775807 then (debuggerlaw40_BreakpointShifts.l1 k x1 x2 x3 x9 (x11 ++ x9) 0) else (none))
def debuggerlaw40_BreakpointShifts.l1 : Nat → Int → Int → Int → ByteArray → ByteArray → Int → Option (Bool)
  | 0, _, _, _, _, _, _ => none
  | k + 1, x1, x2, x3, x9, x11, x13 => if x13 < x2 then (if x11.size + 5 ≤ 9223372036854775807 then (debuggerlaw40_BreakpointShifts.l1 k x1 x2 x3 x9 (x11 ++ (⟨#[10, 108, 97, 116, 101]⟩ : ByteArray)) (wrap64 (x13 + 1))) else (none)) else ((breakpoint_Move.f k x9 x11).bind fun t179 => ((debuggerref40_Lines.f k x9).bind fun t182 => (if (t179.length : Int) = (t182.length : Int) then (debuggerlaw40_BreakpointShifts.l2 k x1 x3 t179 t182 0) else (some false))))
def debuggerlaw40_BreakpointShifts.l2 : Nat → Int → Int → List Int → List ByteArray → Int → Option (Bool)
  | 0, _, _, _, _, _ => none
  | k + 1, x1, x3, x14, x15, x16 => if x16 < (x15.length : Int) then (if 0 ≤ x16 then (if x16 < (x14.length : Int) then (if (rd x14 x16) = (wrap64 ((wrap64 (x16 + 1)) + x1)) then (debuggerlaw40_BreakpointShifts.l2 k x1 x3 x14 x15 (wrap64 (x16 + 1))) else (some false)) else (none)) else (none)) else ((debuggerkit_Mod.f x3 (x15.length : Int)).bind fun t186 => ((breakpoint_Follow.f k x14 (wrap64 (1 + t186))).bind fun t187 => (if t187 = (wrap64 ((wrap64 (1 + t186)) + x1)) then ((debuggerlaw40_awake.f).bind fun t188 => (some t188)) else (some false))))
end
def debuggerlaw40_BreakpointShifts.f (k : Nat) (l0 : List Int) (a1 : Int) (a2 : Int) (a3 : Int) : Option (Bool) := (debuggerlaw40_texts.f k l0 ([] : List Int)).bind fun bt175 => ((debuggerkit_Mod.f a1 9).bind fun t177 => ((debuggerkit_Mod.f a2 9).bind fun t178 => (debuggerlaw40_BreakpointShifts.l0 k t177 t178 a3 bt175.1 (⟨#[]⟩ : ByteArray) 0)))
theorem debuggerlaw40_BreakpointShifts.mono_l : ∀ k, (∀ y0 y1 y2 y3 y4 y5, LeO (debuggerlaw40_BreakpointShifts.l0 k y0 y1 y2 y3 y4 y5) (debuggerlaw40_BreakpointShifts.l0 (k + 1) y0 y1 y2 y3 y4 y5)) ∧ (∀ y0 y1 y2 y3 y4 y5, LeO (debuggerlaw40_BreakpointShifts.l1 k y0 y1 y2 y3 y4 y5) (debuggerlaw40_BreakpointShifts.l1 (k + 1) y0 y1 y2 y3 y4 y5)) ∧ (∀ y0 y1 y2 y3 y4, LeO (debuggerlaw40_BreakpointShifts.l2 k y0 y1 y2 y3 y4) (debuggerlaw40_BreakpointShifts.l2 (k + 1) y0 y1 y2 y3 y4))
  | 0 => ⟨fun _ _ _ _ _ _ r h => by simp [debuggerlaw40_BreakpointShifts.l0] at h, fun _ _ _ _ _ _ r h => by simp [debuggerlaw40_BreakpointShifts.l1] at h, fun _ _ _ _ _ r h => by simp [debuggerlaw40_BreakpointShifts.l2] at h⟩
  | k + 1 => by
    obtain ⟨ih0, ih1, ih2⟩ := debuggerlaw40_BreakpointShifts.mono_l k
    refine ⟨?_, ?_, ?_⟩
    · intro y0 y1 y2 y3 y4 y5
      unfold debuggerlaw40_BreakpointShifts.l0
      repeat' first
      | (with_reducible exact ih0 _ _ _ _ _ _)
      | (with_reducible exact ih1 _ _ _ _ _ _)
      | (with_reducible exact ih2 _ _ _ _ _)
      | (with_reducible exact breakpoint_Follow.mono _ _ _)
      | (with_reducible exact breakpoint_Move.mono _ _ _)
      | (with_reducible exact debuggerlaw40_texts.mono _ _ _)
      | (with_reducible exact debuggerref40_Lines.mono _ _)
      | (with_reducible exact LeO.refl _)
      | (with_reducible exact LeO.none _)
      | (with_reducible refine LeO.ite ?_ ?_)
      | (with_reducible refine LeO.bind ?_ (fun _ => ?_))
      | exact ih0 _ _ _ _ _ _
      | exact ih1 _ _ _ _ _ _
      | exact ih2 _ _ _ _ _
      | exact breakpoint_Follow.mono _ _ _
      | exact breakpoint_Move.mono _ _ _
      | exact debuggerlaw40_texts.mono _ _ _
      | exact debuggerref40_Lines.mono _ _
      | exact LeO.none _
      | refine LeO.ite ?_ ?_
      | refine LeO.bind ?_ (fun _ => ?_)
    · intro y0 y1 y2 y3 y4 y5
      unfold debuggerlaw40_BreakpointShifts.l1
      repeat' first
      | (with_reducible exact ih0 _ _ _ _ _ _)
      | (with_reducible exact ih1 _ _ _ _ _ _)
      | (with_reducible exact ih2 _ _ _ _ _)
      | (with_reducible exact breakpoint_Follow.mono _ _ _)
      | (with_reducible exact breakpoint_Move.mono _ _ _)
      | (with_reducible exact debuggerlaw40_texts.mono _ _ _)
      | (with_reducible exact debuggerref40_Lines.mono _ _)
      | (with_reducible exact LeO.refl _)
      | (with_reducible exact LeO.none _)
      | (with_reducible refine LeO.ite ?_ ?_)
      | (with_reducible refine LeO.bind ?_ (fun _ => ?_))
      | exact ih0 _ _ _ _ _ _
      | exact ih1 _ _ _ _ _ _
      | exact ih2 _ _ _ _ _
      | exact breakpoint_Follow.mono _ _ _
      | exact breakpoint_Move.mono _ _ _
      | exact debuggerlaw40_texts.mono _ _ _
      | exact debuggerref40_Lines.mono _ _
      | exact LeO.none _
      | refine LeO.ite ?_ ?_
      | refine LeO.bind ?_ (fun _ => ?_)
    · intro y0 y1 y2 y3 y4
      unfold debuggerlaw40_BreakpointShifts.l2
      repeat' first
      | (with_reducible exact ih0 _ _ _ _ _ _)
      | (with_reducible exact ih1 _ _ _ _ _ _)
      | (with_reducible exact ih2 _ _ _ _ _)
      | (with_reducible exact breakpoint_Follow.mono _ _ _)
      | (with_reducible exact breakpoint_Move.mono _ _ _)
      | (with_reducible exact debuggerlaw40_texts.mono _ _ _)
      | (with_reducible exact debuggerref40_Lines.mono _ _)
      | (with_reducible exact LeO.refl _)
      | (with_reducible exact LeO.none _)
      | (with_reducible refine LeO.ite ?_ ?_)
      | (with_reducible refine LeO.bind ?_ (fun _ => ?_))
      | exact ih0 _ _ _ _ _ _
      | exact ih1 _ _ _ _ _ _
      | exact ih2 _ _ _ _ _
      | exact breakpoint_Follow.mono _ _ _
      | exact breakpoint_Move.mono _ _ _
      | exact debuggerlaw40_texts.mono _ _ _
      | exact debuggerref40_Lines.mono _ _
      | exact LeO.none _
      | refine LeO.ite ?_ ?_
      | refine LeO.bind ?_ (fun _ => ?_)
theorem debuggerlaw40_BreakpointShifts.mono : ∀ a0 a1 a2 a3 k, LeO (debuggerlaw40_BreakpointShifts.f k a0 a1 a2 a3) (debuggerlaw40_BreakpointShifts.f (k + 1) a0 a1 a2 a3) := by
  intro a0 a1 a2 a3 k
  obtain ⟨ih0, ih1, ih2⟩ := debuggerlaw40_BreakpointShifts.mono_l k
  unfold debuggerlaw40_BreakpointShifts.f
  repeat' first
      | (with_reducible exact ih0 _ _ _ _ _ _)
      | (with_reducible exact ih1 _ _ _ _ _ _)
      | (with_reducible exact ih2 _ _ _ _ _)
      | (with_reducible exact breakpoint_Follow.mono _ _ _)
      | (with_reducible exact breakpoint_Move.mono _ _ _)
      | (with_reducible exact debuggerlaw40_texts.mono _ _ _)
      | (with_reducible exact debuggerref40_Lines.mono _ _)
      | (with_reducible exact LeO.refl _)
      | (with_reducible exact LeO.none _)
      | (with_reducible refine LeO.ite ?_ ?_)
      | (with_reducible refine LeO.bind ?_ (fun _ => ?_))
      | exact ih0 _ _ _ _ _ _
      | exact ih1 _ _ _ _ _ _
      | exact ih2 _ _ _ _ _
      | exact breakpoint_Follow.mono _ _ _
      | exact breakpoint_Move.mono _ _ _
      | exact debuggerlaw40_texts.mono _ _ _
      | exact debuggerref40_Lines.mono _ _
      | exact LeO.none _
      | refine LeO.ite ?_ ?_
      | refine LeO.bind ?_ (fun _ => ?_)
/-- THE ONE PURE STATEMENT of debuggerlaw40_BreakpointShifts: yours. -/
def debuggerlaw40_BreakpointShifts.Pure : Prop := ∀ (l0 : List Int) (a1 : Int) (a2 : Int) (a3 : Int), l0.length ≤ maxLen → l0.length * 8 ≤ 140737488351232 → (∀ x ∈ l0, (Lit.int .i64 x).wf = true) → (Lit.int .i64 a1).wf = true → (Lit.int .i64 a2).wf = true → (Lit.int .i64 a3).wf = true → ∃ k, debuggerlaw40_BreakpointShifts.f k l0 a1 a2 a3 = some true

end Go.Proofs.YtkmhbfgkhalaoaaGreatDoor.PB

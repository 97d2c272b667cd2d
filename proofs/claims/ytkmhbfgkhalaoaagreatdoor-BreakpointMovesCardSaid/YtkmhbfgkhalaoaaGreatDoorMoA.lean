/- A walk through the code of law 40: what a function computes, as a Lean function. No condition but those in its lemmas. -/
import Derived.Test.YtkmhbfgkhalaoaaGreatDoorRmA
import Derived.Test.YtkmhbfgkhalaoaaGreatDoorPx2
import Derived.Test.YtkmhbfgkhalaoaaGreatDoorMvA
namespace Go.Proofs.YtkmhbfgkhalaoaaGreatDoor.PB
open Go.RowKit Go.Proofs.YtkmhbfgkhalaoaaGreatDoorW.PrintWords Go.Proofs.YtkmhbfgkhalaoaaGreatDoorW.PrintLast Go.Proofs.YtkmhbfgkhalaoaaGreatDoorW.PrintMore
attribute [local go_sem] max2_int min2_int max_two min_two max_three min_three max_four min_four   -- for this text's walks alone
set_option linter.unusedVariables false
set_option linter.unusedSimpArgs false

/-! ### debuggersame_List_int: function 13 -/
def debuggersame_List_int.l0 : Nat → List Int → List Int → Int → Option (Bool)
  | 0, _, _, _ => none
  | k + 1, x0, x1, x5 => if x5 < (x0.length : Int) then (if 0 ≤ x5 then (if x5 < (x1.length : Int) then (if (rd x0 x5) = (rd x1 x5) then (debuggersame_List_int.l0 k x0 x1 (wrap64 (x5 + 1))) else (some false)) else (none)) else (none)) else (some true)
def debuggersame_List_int.f (k : Nat) (l0 : List Int) (l1 : List Int) : Option (Bool) := if (l0.length : Int) = (l1.length : Int) then (debuggersame_List_int.l0 k l0 l1 0) else (some false)
theorem debuggersame_List_int.mono_l : ∀ k, (∀ y0 y1 y2, LeO (debuggersame_List_int.l0 k y0 y1 y2) (debuggersame_List_int.l0 (k + 1) y0 y1 y2))
  | 0 => fun _ _ _ r h => by simp [debuggersame_List_int.l0] at h
  | k + 1 => by
    have ih0 := debuggersame_List_int.mono_l k
    · intro y0 y1 y2
      unfold debuggersame_List_int.l0
      repeat' first
      | (with_reducible exact ih0 _ _ _)
      | (with_reducible exact LeO.refl _)
      | (with_reducible exact LeO.none _)
      | (with_reducible refine LeO.ite ?_ ?_)
      | (with_reducible refine LeO.bind ?_ (fun _ => ?_))
      | exact ih0 _ _ _
      | exact LeO.none _
      | refine LeO.ite ?_ ?_
      | refine LeO.bind ?_ (fun _ => ?_)
theorem debuggersame_List_int.mono : ∀ a0 a1 k, LeO (debuggersame_List_int.f k a0 a1) (debuggersame_List_int.f (k + 1) a0 a1) := by
  intro a0 a1 k
  have ih0 := debuggersame_List_int.mono_l k
  unfold debuggersame_List_int.f
  repeat' first
      | (with_reducible exact ih0 _ _ _)
      | (with_reducible exact LeO.refl _)
      | (with_reducible exact LeO.none _)
      | (with_reducible refine LeO.ite ?_ ?_)
      | (with_reducible refine LeO.bind ?_ (fun _ => ?_))
      | exact ih0 _ _ _
      | exact LeO.none _
      | refine LeO.ite ?_ ?_
      | refine LeO.bind ?_ (fun _ => ?_)
/-! ### breakpoint_Follow: function 14 -/
def breakpoint_Follow.l0 : Nat → List Int → Int → Option (Int)
  | 0, _, _ => none
  | k + 1, x0, x5 => if x5 < (x0.length : Int) then (if 0 ≤ x5 then (if (rd x0 x5) = 0 then (breakpoint_Follow.l0 k x0 (wrap64 (x5 + 1))) else (some (rd x0 x5))) else (none)) else (some 0)
def breakpoint_Follow.f (k : Nat) (l0 : List Int) (a1 : Int) : Option (Int) := if a1 < 1 then (some 0) else (breakpoint_Follow.l0 k l0 (wrap64 (a1 - 1)))
theorem breakpoint_Follow.mono_l : ∀ k, (∀ y0 y1, LeO (breakpoint_Follow.l0 k y0 y1) (breakpoint_Follow.l0 (k + 1) y0 y1))
  | 0 => fun _ _ r h => by simp [breakpoint_Follow.l0] at h
  | k + 1 => by
    have ih0 := breakpoint_Follow.mono_l k
    · intro y0 y1
      unfold breakpoint_Follow.l0
      repeat' first
      | (with_reducible exact ih0 _ _)
      | (with_reducible exact LeO.refl _)
      | (with_reducible exact LeO.none _)
      | (with_reducible refine LeO.ite ?_ ?_)
      | (with_reducible refine LeO.bind ?_ (fun _ => ?_))
      | exact ih0 _ _
      | exact LeO.none _
      | refine LeO.ite ?_ ?_
      | refine LeO.bind ?_ (fun _ => ?_)
theorem breakpoint_Follow.mono : ∀ a0 a1 k, LeO (breakpoint_Follow.f k a0 a1) (breakpoint_Follow.f (k + 1) a0 a1) := by
  intro a0 a1 k
  have ih0 := breakpoint_Follow.mono_l k
  unfold breakpoint_Follow.f
  repeat' first
      | (with_reducible exact ih0 _ _)
      | (with_reducible exact LeO.refl _)
      | (with_reducible exact LeO.none _)
      | (with_reducible refine LeO.ite ?_ ?_)
      | (with_reducible refine LeO.bind ?_ (fun _ => ?_))
      | exact ih0 _ _
      | exact LeO.none _
      | refine LeO.ite ?_ ?_
      | refine LeO.bind ?_ (fun _ => ?_)
/-! ### debuggerref40_Follow: function 15 -/
def debuggerref40_Follow.l0 : Nat → List Int → Int → Option (Int)
  | 0, _, _ => none
  | k + 1, x0, x5 => if x5 < (x0.length : Int) then (if 0 ≤ x5 then (if (rd x0 x5) = 0 then (debuggerref40_Follow.l0 k x0 (wrap64 (x5 + 1))) else (some (rd x0 x5))) else (none)) else (some 0)
def debuggerref40_Follow.f (k : Nat) (l0 : List Int) (a1 : Int) : Option (Int) := if a1 < 1 then (some 0) else (debuggerref40_Follow.l0 k l0 (wrap64 (a1 - 1)))
theorem debuggerref40_Follow.mono_l : ∀ k, (∀ y0 y1, LeO (debuggerref40_Follow.l0 k y0 y1) (debuggerref40_Follow.l0 (k + 1) y0 y1))
  | 0 => fun _ _ r h => by simp [debuggerref40_Follow.l0] at h
  | k + 1 => by
    have ih0 := debuggerref40_Follow.mono_l k
    · intro y0 y1
      unfold debuggerref40_Follow.l0
      repeat' first
      | (with_reducible exact ih0 _ _)
      | (with_reducible exact LeO.refl _)
      | (with_reducible exact LeO.none _)
      | (with_reducible refine LeO.ite ?_ ?_)
      | (with_reducible refine LeO.bind ?_ (fun _ => ?_))
      | exact ih0 _ _
      | exact LeO.none _
      | refine LeO.ite ?_ ?_
      | refine LeO.bind ?_ (fun _ => ?_)
theorem debuggerref40_Follow.mono : ∀ a0 a1 k, LeO (debuggerref40_Follow.f k a0 a1) (debuggerref40_Follow.f (k + 1) a0 a1) := by
  intro a0 a1 k
  have ih0 := debuggerref40_Follow.mono_l k
  unfold debuggerref40_Follow.f
  repeat' first
      | (with_reducible exact ih0 _ _)
      | (with_reducible exact LeO.refl _)
      | (with_reducible exact LeO.none _)
      | (with_reducible refine LeO.ite ?_ ?_)
      | (with_reducible refine LeO.bind ?_ (fun _ => ?_))
      | exact ih0 _ _
      | exact LeO.none _
      | refine LeO.ite ?_ ?_
      | refine LeO.bind ?_ (fun _ => ?_)
/-! ### debuggerlaw40_BreakpointMoves: function 3 -/
mutual
def debuggerlaw40_BreakpointMoves.j0 : Nat → ByteArray → ByteArray → List Int → List Int → Int → Bool → Option (Bool)
  | 0, _, _, _, _, _, _ => none
  | k + 1, x0, x1, x2, x3, x4, x25 => if x25 = true then ((debuggerlaw40_awake.f).bind fun t228 => (some t228)) else ((debuggerlaw40_texts.f k x2 x3).bind fun bt229 => ((some (([(⟨x0, x1⟩ : S26), (⟨bt229.1, bt229.2⟩ : S26), (⟨bt229.2, bt229.1⟩ : S26), (⟨bt229.1, x0⟩ : S26)] : List (S26)) : List (S26))).bind fun y231 => (debuggerlaw40_BreakpointMoves.l0 k x4 y231 (y231.length : Int) 0)))
def debuggerlaw40_BreakpointMoves.l0 : Nat → Int → List (S26) → Int → Int → Option (Bool)
  | 0, _, _, _, _ => none
  | k + 1, x4, x45, x46, x47 => if x47 < x46 then (if 0 ≤ x47 then (if x47 < (x45.length : Int) then ((breakpoint_Move.f k ((rd_T26 x45 x47).f0) ((rd_T26 x45 x47).f1)).bind fun t237 => ((debuggerref40_Move.f k ((rd_T26 x45 x47).f0) ((rd_T26 x45 x47).f1)).bind fun t240 => ((debuggerkit_Mod.f x4 (wrap64 ((t240.length : Int) + 3))).bind fun t243 => ((debuggersame_List_int.f k t237 t240).bind fun t244 => (if t244 = true then ((breakpoint_Follow.f k t240 x4).bind fun t245 => ((debuggerref40_Follow.f k t240 x4).bind fun t246 => (if t245 = t246 then ((breakpoint_Follow.f k t240 (wrap64 (t243 - 1))).bind fun t247 => ((debuggerref40_Follow.f k t240 (wrap64 (t243 - 1))).bind fun t248 => (if t247 = t248 then (debuggerlaw40_BreakpointMoves.l0 k x4 x45 x46 (wrap64 (x47 + 1))) else (some false)))) else (some false)))) else (some false)))))) else (none)) else (none)) else ((debuggerlaw40_awake.f).bind fun t234 => (some t234))
end
def debuggerlaw40_BreakpointMoves.f (k : Nat) (a0 : ByteArray) (a1 : ByteArray) (l2 : List Int) (l3 : List Int) (a4 : Int) : Option (Bool) := if (a0.size : Int) > 300 then (debuggerlaw40_BreakpointMoves.j0 k a0 a1 l2 l3 a4 true) else (debuggerlaw40_BreakpointMoves.j0 k a0 a1 l2 l3 a4 (decide ((a1.size : Int) > 300)))
theorem debuggerlaw40_BreakpointMoves.mono_l : ∀ k, (∀ y0 y1 y2 y3 y4 y5, LeO (debuggerlaw40_BreakpointMoves.j0 k y0 y1 y2 y3 y4 y5) (debuggerlaw40_BreakpointMoves.j0 (k + 1) y0 y1 y2 y3 y4 y5)) ∧ (∀ y0 y1 y2 y3, LeO (debuggerlaw40_BreakpointMoves.l0 k y0 y1 y2 y3) (debuggerlaw40_BreakpointMoves.l0 (k + 1) y0 y1 y2 y3))
  | 0 => ⟨fun _ _ _ _ _ _ r h => by simp [debuggerlaw40_BreakpointMoves.j0] at h, fun _ _ _ _ r h => by simp [debuggerlaw40_BreakpointMoves.l0] at h⟩
  | k + 1 => by
    obtain ⟨ih0, ih1⟩ := debuggerlaw40_BreakpointMoves.mono_l k
    refine ⟨?_, ?_⟩
    · intro y0 y1 y2 y3 y4 y5
      unfold debuggerlaw40_BreakpointMoves.j0
      repeat' first
      | (with_reducible exact ih0 _ _ _ _ _ _)
      | (with_reducible exact ih1 _ _ _ _)
      | (with_reducible exact breakpoint_Follow.mono _ _ _)
      | (with_reducible exact breakpoint_Move.mono _ _ _)
      | (with_reducible exact debuggerlaw40_texts.mono _ _ _)
      | (with_reducible exact debuggerref40_Follow.mono _ _ _)
      | (with_reducible exact debuggerref40_Move.mono _ _ _)
      | (with_reducible exact debuggersame_List_int.mono _ _ _)
      | (with_reducible exact LeO.refl _)
      | (with_reducible exact LeO.none _)
      | (with_reducible refine LeO.ite ?_ ?_)
      | (with_reducible refine LeO.bind ?_ (fun _ => ?_))
      | exact ih0 _ _ _ _ _ _
      | exact ih1 _ _ _ _
      | exact breakpoint_Follow.mono _ _ _
      | exact breakpoint_Move.mono _ _ _
      | exact debuggerlaw40_texts.mono _ _ _
      | exact debuggerref40_Follow.mono _ _ _
      | exact debuggerref40_Move.mono _ _ _
      | exact debuggersame_List_int.mono _ _ _
      | exact LeO.none _
      | refine LeO.ite ?_ ?_
      | refine LeO.bind ?_ (fun _ => ?_)
    · intro y0 y1 y2 y3
      unfold debuggerlaw40_BreakpointMoves.l0
      repeat' first
      | (with_reducible exact ih0 _ _ _ _ _ _)
      | (with_reducible exact ih1 _ _ _ _)
      | (with_reducible exact breakpoint_Follow.mono _ _ _)
      | (with_reducible exact breakpoint_Move.mono _ _ _)
      | (with_reducible exact debuggerlaw40_texts.mono _ _ _)
      | (with_reducible exact debuggerref40_Follow.mono _ _ _)
      | (with_reducible exact debuggerref40_Move.mono _ _ _)
      | (with_reducible exact debuggersame_List_int.mono _ _ _)
      | (with_reducible exact LeO.refl _)
      | (with_reducible exact LeO.none _)
      | (with_reducible refine LeO.ite ?_ ?_)
      | (with_reducible refine LeO.bind ?_ (fun _ => ?_))
      | exact ih0 _ _ _ _ _ _
      | exact ih1 _ _ _ _
      | exact breakpoint_Follow.mono _ _ _
      | exact breakpoint_Move.mono _ _ _
      | exact debuggerlaw40_texts.mono _ _ _
      | exact debuggerref40_Follow.mono _ _ _
      | exact debuggerref40_Move.mono _ _ _
      | exact debuggersame_List_int.mono _ _ _
      | exact LeO.none _
      | refine LeO.ite ?_ ?_
      | refine LeO.bind ?_ (fun _ => ?_)
theorem debuggerlaw40_BreakpointMoves.mono : ∀ a0 a1 a2 a3 a4 k, LeO (debuggerlaw40_BreakpointMoves.f k a0 a1 a2 a3 a4) (debuggerlaw40_BreakpointMoves.f (k + 1) a0 a1 a2 a3 a4) := by
  intro a0 a1 a2 a3 a4 k
  obtain ⟨ih0, ih1⟩ := debuggerlaw40_BreakpointMoves.mono_l k
  unfold debuggerlaw40_BreakpointMoves.f
  repeat' first
      | (with_reducible exact ih0 _ _ _ _ _ _)
      | (with_reducible exact ih1 _ _ _ _)
      | (with_reducible exact breakpoint_Follow.mono _ _ _)
      | (with_reducible exact breakpoint_Move.mono _ _ _)
      | (with_reducible exact debuggerlaw40_texts.mono _ _ _)
      | (with_reducible exact debuggerref40_Follow.mono _ _ _)
      | (with_reducible exact debuggerref40_Move.mono _ _ _)
      | (with_reducible exact debuggersame_List_int.mono _ _ _)
      | (with_reducible exact LeO.refl _)
      | (with_reducible exact LeO.none _)
      | (with_reducible refine LeO.ite ?_ ?_)
      | (with_reducible refine LeO.bind ?_ (fun _ => ?_))
      | exact ih0 _ _ _ _ _ _
      | exact ih1 _ _ _ _
      | exact breakpoint_Follow.mono _ _ _
      | exact breakpoint_Move.mono _ _ _
      | exact debuggerlaw40_texts.mono _ _ _
      | exact debuggerref40_Follow.mono _ _ _
      | exact debuggerref40_Move.mono _ _ _
      | exact debuggersame_List_int.mono _ _ _
      | exact LeO.none _
      | refine LeO.ite ?_ ?_
      | refine LeO.bind ?_ (fun _ => ?_)
/-- THE ONE PURE STATEMENT of debuggerlaw40_BreakpointMoves: yours. -/
def debuggerlaw40_BreakpointMoves.Pure : Prop := ∀ (a0 : ByteArray) (a1 : ByteArray) (l2 : List Int) (l3 : List Int) (a4 : Int), a0.size ≤ 140737488351232 → a1.size ≤ 140737488351232 → l2.length ≤ maxLen → l2.length * 8 ≤ 140737488351232 → (∀ x ∈ l2, (Lit.int .i64 x).wf = true) → l3.length ≤ maxLen → l3.length * 8 ≤ 140737488351232 → (∀ x ∈ l3, (Lit.int .i64 x).wf = true) → (Lit.int .i64 a4).wf = true → ∃ k, debuggerlaw40_BreakpointMoves.f k a0 a1 l2 l3 a4 = some true

end Go.Proofs.YtkmhbfgkhalaoaaGreatDoor.PB

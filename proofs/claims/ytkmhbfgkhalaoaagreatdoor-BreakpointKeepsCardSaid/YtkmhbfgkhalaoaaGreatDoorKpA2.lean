/- A walk through the code of law 40: what a function computes, as a Lean function. No condition but those in its lemmas. -/
import Derived.Test.YtkmhbfgkhalaoaaGreatDoorKpA1
namespace Go.Proofs.YtkmhbfgkhalaoaaGreatDoor.PB
open Go.RowKit Go.Proofs.YtkmhbfgkhalaoaaGreatDoorW.PrintWords Go.Proofs.YtkmhbfgkhalaoaaGreatDoorW.PrintLast Go.Proofs.YtkmhbfgkhalaoaaGreatDoorW.PrintMore
attribute [local go_sem] max2_int min2_int max_two min_two max_three min_three max_four min_four   -- for this text's walks alone
set_option linter.unusedVariables false
set_option linter.unusedSimpArgs false

/-! ### debuggerlaw40_BreakpointKeeps: function 4 -/
mutual
def debuggerlaw40_BreakpointKeeps.l0 : Nat → ByteArray → List ByteArray → List ByteArray → List Int → Int → Int → Int → Option (Bool)
  | 0, _, _, _, _, _, _, _ => none
  | k + 1, x5, x7, x8, x9, x10, x11, x12 => if x12 < (x9.length : Int) then (if 0 ≤ x12 then (if (rd x9 x12) = 0 then (debuggerlaw40_BreakpointKeeps.l0 k x5 x7 x8 x9 x10 x11 (wrap64 (x12 + 1))) else (if (rd x9 x12) ≤ x10 then (some false) else (if (rd x9 x12) > (x8.length : Int) then (some false) else (if x12 < (x7.length : Int) then (if 0 ≤ (wrap64 ((rd x9 x12) - 1)) then (if (wrap64 ((rd x9 x12) - 1)) < (x8.length : Int) then (if (rdOf ByteArray.empty x7 x12).toList = (rdOf ByteArray.empty x8 (wrap64 ((rd x9 x12) - 1))).toList then (debuggerlaw40_BreakpointKeeps.l0 k x5 x7 x8 x9 (rd x9 x12) (wrap64 (x11 + 1)) (wrap64 (x12 + 1))) else (some false)) else (none)) else (none)) else (none))))) else (none)) else ((breakpoint_Move.f k x5 x5).bind fun t206 => (debuggerlaw40_BreakpointKeeps.l1 k x7 x8 x11 t206 0))
def debuggerlaw40_BreakpointKeeps.l1 : Nat → List ByteArray → List ByteArray → Int → List Int → Int → Option (Bool)
  | 0, _, _, _, _, _ => none
  | k + 1, x7, x8, x11, x13, x14 => if x14 < (x7.length : Int) then (if x14 ≥ (x13.length : Int) then (some false) else (if 0 ≤ x14 then (if x14 < (x13.length : Int) then (if (rd x13 x14) = (wrap64 (x14 + 1)) then (debuggerlaw40_BreakpointKeeps.l1 k x7 x8 x11 x13 (wrap64 (x14 + 1))) else (some false)) else (none)) else (none))) else ((debuggerlaw40_longest.f k x7 x8).bind fun t210 => (if x11 = t210 then ((debuggerlaw40_awake.f).bind fun t211 => (some t211)) else (some false)))
end
def debuggerlaw40_BreakpointKeeps.f (k : Nat) (l0 : List Int) (l1 : List Int) : Option (Bool) := (debuggerlaw40_texts.f k l0 l1).bind fun bt188 => ((debuggerref40_Lines.f k bt188.1).bind fun t190 => ((debuggerref40_Lines.f k bt188.2).bind fun t193 => ((breakpoint_Move.f k bt188.1 bt188.2).bind fun t196 => (if (t196.length : Int) = (t190.length : Int) then (debuggerlaw40_BreakpointKeeps.l0 k bt188.1 t190 t193 t196 0 0 0) else (some false)))))
theorem debuggerlaw40_BreakpointKeeps.mono_l : ∀ k, (∀ y0 y1 y2 y3 y4 y5 y6, LeO (debuggerlaw40_BreakpointKeeps.l0 k y0 y1 y2 y3 y4 y5 y6) (debuggerlaw40_BreakpointKeeps.l0 (k + 1) y0 y1 y2 y3 y4 y5 y6)) ∧ (∀ y0 y1 y2 y3 y4, LeO (debuggerlaw40_BreakpointKeeps.l1 k y0 y1 y2 y3 y4) (debuggerlaw40_BreakpointKeeps.l1 (k + 1) y0 y1 y2 y3 y4))
  | 0 => ⟨fun _ _ _ _ _ _ _ r h => by simp [debuggerlaw40_BreakpointKeeps.l0] at h, fun _ _ _ _ _ r h => by simp [debuggerlaw40_BreakpointKeeps.l1] at h⟩
  | k + 1 => by
    obtain ⟨ih0, ih1⟩ := debuggerlaw40_BreakpointKeeps.mono_l k
    refine ⟨?_, ?_⟩
    · intro y0 y1 y2 y3 y4 y5 y6
      unfold debuggerlaw40_BreakpointKeeps.l0
      repeat' first
      | (with_reducible exact ih0 _ _ _ _ _ _ _)
      | (with_reducible exact ih1 _ _ _ _ _)
      | (with_reducible exact breakpoint_Move.mono _ _ _)
      | (with_reducible exact debuggerlaw40_longest.mono _ _ _)
      | (with_reducible exact debuggerlaw40_texts.mono _ _ _)
      | (with_reducible exact debuggerref40_Lines.mono _ _)
      | (with_reducible exact LeO.refl _)
      | (with_reducible exact LeO.none _)
      | (with_reducible refine LeO.ite ?_ ?_)
      | (with_reducible refine LeO.bind ?_ (fun _ => ?_))
      | exact ih0 _ _ _ _ _ _ _
      | exact ih1 _ _ _ _ _
      | exact breakpoint_Move.mono _ _ _
      | exact debuggerlaw40_longest.mono _ _ _
      | exact debuggerlaw40_texts.mono _ _ _
      | exact debuggerref40_Lines.mono _ _
      | exact LeO.none _
      | refine LeO.ite ?_ ?_
      | refine LeO.bind ?_ (fun _ => ?_)
    · intro y0 y1 y2 y3 y4
      unfold debuggerlaw40_BreakpointKeeps.l1
      repeat' first
      | (with_reducible exact ih0 _ _ _ _ _ _ _)
      | (with_reducible exact ih1 _ _ _ _ _)
      | (with_reducible exact breakpoint_Move.mono _ _ _)
      | (with_reducible exact debuggerlaw40_longest.mono _ _ _)
      | (with_reducible exact debuggerlaw40_texts.mono _ _ _)
      | (with_reducible exact debuggerref40_Lines.mono _ _)
      | (with_reducible exact LeO.refl _)
      | (with_reducible exact LeO.none _)
      | (with_reducible refine LeO.ite ?_ ?_)
      | (with_reducible refine LeO.bind ?_ (fun _ => ?_))
      | exact ih0 _ _ _ _ _ _ _
      | exact ih1 _ _ _ _ _
      | exact breakpoint_Move.mono _ _ _
      | exact debuggerlaw40_longest.mono _ _ _
      | exact debuggerlaw40_texts.mono _ _ _
      | exact debuggerref40_Lines.mono _ _
      | exact LeO.none _
      | refine LeO.ite ?_ ?_
      | refine LeO.bind ?_ (fun _ => ?_)
theorem debuggerlaw40_BreakpointKeeps.mono : ∀ a0 a1 k, LeO (debuggerlaw40_BreakpointKeeps.f k a0 a1) (debuggerlaw40_BreakpointKeeps.f (k + 1) a0 a1) := by
  intro a0 a1 k
  obtain ⟨ih0, ih1⟩ := debuggerlaw40_BreakpointKeeps.mono_l k
  unfold debuggerlaw40_BreakpointKeeps.f
  repeat' first
      | (with_reducible exact ih0 _ _ _ _ _ _ _)
      | (with_reducible exact ih1 _ _ _ _ _)
      | (with_reducible exact breakpoint_Move.mono _ _ _)
      | (with_reducible exact debuggerlaw40_longest.mono _ _ _)
      | (with_reducible exact debuggerlaw40_texts.mono _ _ _)
      | (with_reducible exact debuggerref40_Lines.mono _ _)
      | (with_reducible exact LeO.refl _)
      | (with_reducible exact LeO.none _)
      | (with_reducible refine LeO.ite ?_ ?_)
      | (with_reducible refine LeO.bind ?_ (fun _ => ?_))
      | exact ih0 _ _ _ _ _ _ _
      | exact ih1 _ _ _ _ _
      | exact breakpoint_Move.mono _ _ _
      | exact debuggerlaw40_longest.mono _ _ _
      | exact debuggerlaw40_texts.mono _ _ _
      | exact debuggerref40_Lines.mono _ _
      | exact LeO.none _
      | refine LeO.ite ?_ ?_
      | refine LeO.bind ?_ (fun _ => ?_)
/-- THE ONE PURE STATEMENT of debuggerlaw40_BreakpointKeeps: yours. -/
def debuggerlaw40_BreakpointKeeps.Pure : Prop := ∀ (l0 : List Int) (l1 : List Int), l0.length ≤ maxLen → l0.length * 8 ≤ 140737488351232 → (∀ x ∈ l0, (Lit.int .i64 x).wf = true) → l1.length ≤ maxLen → l1.length * 8 ≤ 140737488351232 → (∀ x ∈ l1, (Lit.int .i64 x).wf = true) → ∃ k, debuggerlaw40_BreakpointKeeps.f k l0 l1 = some true

end Go.Proofs.YtkmhbfgkhalaoaaGreatDoor.PB

/- The functions printed here answer what their Lean functions say, where these answer. Printed by a changed copy of the kit's printer in this session: not print.sh's own text. -/
import Derived.Test.YtgikmhpggfmcnaaPWatchpointSeesx0
import Derived.Test.YtgikmhpggfmcnaaPWatchpointSeesx1
import Derived.Test.YtgikmhpggfmcnaaPWatchpointSeesx3
import Derived.Test.YtgikmhpggfmcnaaPWatchpointSeesx4
namespace Go.Proofs.Ytgikmhpggfmcnaa.PWatchpointSees
open Go.RowKit Go.Proofs.YtgikmhpggfmcnaaW.PrintWords Go.Proofs.YtgikmhpggfmcnaaW.PrintLast Go.Proofs.YtgikmhpggfmcnaaW.PrintMore
attribute [local go_sem] max2_int min2_int max_two min_two max_three min_three max_four min_four   -- for this text's walks alone
set_option linter.unusedVariables false
set_option linter.unusedSimpArgs false

/-! ### debuggerlaw41_WatchpointSees: function 3 -/
mutual
def debuggerlaw41_WatchpointSees.l0 : Nat → List Int → List Bool → Int → Int → Int → Int → List Bool → List Int → Option (Bool)
  | 0, _, _, _, _, _, _, _, _ => none
  | k + 1, x1, x2, x8, x9, x218000, x218001, x218002, x218003 => if x9 < (x1.length : Int) then (debuggerlaw41_WatchpointSees.j1 k x1 x2 x8 x9 (decide (x9 < 40)) x218000 x218001 x218002 x218003) else (debuggerlaw41_WatchpointSees.j1 k x1 x2 x8 x9 false x218000 x218001 x218002 x218003)
def debuggerlaw41_WatchpointSees.j1 : Nat → List Int → List Bool → Int → Int → Bool → Int → Int → List Bool → List Int → Option (Bool)
  | 0, _, _, _, _, _, _, _, _, _ => none
  | k + 1, x1, x2, x8, x9, x23, x218000, x218001, x218002, x218003 => if x23 = true then (if x9 ≥ (x2.length : Int) then (debuggerlaw41_WatchpointSees.j2 k x1 x2 x8 x9 true x218000 x218001 x218002 x218003) else (if 0 ≤ x9 then (if x9 < (x2.length : Int) then (debuggerlaw41_WatchpointSees.j2 k x1 x2 x8 x9 (rdOf false x2 x9) x218000 x218001 x218002 x218003) else (none)) else (none))) else ((debuggerlaw41_awake.f k).bind fun t218 => (some t218))
def debuggerlaw41_WatchpointSees.j2 : Nat → List Int → List Bool → Int → Int → Bool → Int → Int → List Bool → List Int → Option (Bool)
  | 0, _, _, _, _, _, _, _, _, _ => none
  | k + 1, x1, x2, x8, x9, x10, x218000, x218001, x218002, x218003 => if 0 ≤ x9 then (if x9 < (x1.length : Int) then ((debuggerkit_Mod.f (rd x1 x9) 3).bind fun t221 => ((debuggerlaw41_number.f t221 x10).bind fun bt222 => ((watchpoint_Check.f k x218000 x218001 x218002 x218003 bt222.1 bt222.2.1 bt222.2.2.1 bt222.2.2.2).bind fun bt230 => (if x10 = true then (debuggerlaw41_WatchpointSees.j3 k x1 x2 x8 x9 x10 t221 (bt230.2.2.2.2 != (t221 != x8)) bt230.1 bt230.2.1 bt230.2.2.1 bt230.2.2.2.1) else (debuggerlaw41_WatchpointSees.j3 k x1 x2 x8 x9 x10 t221 (bt230.2.2.2.2 != false) bt230.1 bt230.2.1 bt230.2.2.1 bt230.2.2.2.1))))) else (none)) else (none)
def debuggerlaw41_WatchpointSees.j3 : Nat → List Int → List Bool → Int → Int → Bool → Int → Bool → Int → Int → List Bool → List Int → Option (Bool)
  | 0, _, _, _, _, _, _, _, _, _, _, _ => none
  | k + 1, x1, x2, x8, x9, x10, x11, x56, x218000, x218001, x218002, x218003 => if x56 = true then (some false) else (if x10 = true then (if (x218003.length : Int) = 1 then (if 0 < (x218003.length : Int) then (if (rd x218003 0) = x11 then (if (x218002.length : Int) = 1 then (if 0 < (x218002.length : Int) then (if rdOf false x218002 0 = true then (debuggerlaw41_WatchpointSees.l0 k x1 x2 x11 (wrap64 (x9 + 1)) x218000 x218001 x218002 x218003) else (some false)) else (none)) else (some false)) else (some false)) else (none)) else (some false)) else (if (x218003.length : Int) = 1 then (if 0 < (x218003.length : Int) then (if (rd x218003 0) = x8 then (if (x218002.length : Int) = 1 then (if 0 < (x218002.length : Int) then (if rdOf false x218002 0 = true then (debuggerlaw41_WatchpointSees.l0 k x1 x2 x8 (wrap64 (x9 + 1)) x218000 x218001 x218002 x218003) else (some false)) else (none)) else (some false)) else (some false)) else (none)) else (some false)))
end
def debuggerlaw41_WatchpointSees.f (k : Nat) (a0 : Int) (l1 : List Int) (l2 : List Bool) : Option (Bool) := (debuggerlaw41_number.f a0 true).bind fun bt209 => (debuggerlaw41_WatchpointSees.l0 k l1 l2 a0 0 bt209.1 bt209.2.1 bt209.2.2.1 bt209.2.2.2)
theorem debuggerlaw41_WatchpointSees.mono_l : ∀ k, (∀ y0 y1 y2 y3 y4 y5 y6 y7, LeO (debuggerlaw41_WatchpointSees.l0 k y0 y1 y2 y3 y4 y5 y6 y7) (debuggerlaw41_WatchpointSees.l0 (k + 1) y0 y1 y2 y3 y4 y5 y6 y7)) ∧ (∀ y0 y1 y2 y3 y4 y5 y6 y7 y8, LeO (debuggerlaw41_WatchpointSees.j1 k y0 y1 y2 y3 y4 y5 y6 y7 y8) (debuggerlaw41_WatchpointSees.j1 (k + 1) y0 y1 y2 y3 y4 y5 y6 y7 y8)) ∧ (∀ y0 y1 y2 y3 y4 y5 y6 y7 y8, LeO (debuggerlaw41_WatchpointSees.j2 k y0 y1 y2 y3 y4 y5 y6 y7 y8) (debuggerlaw41_WatchpointSees.j2 (k + 1) y0 y1 y2 y3 y4 y5 y6 y7 y8)) ∧ (∀ y0 y1 y2 y3 y4 y5 y6 y7 y8 y9 y10, LeO (debuggerlaw41_WatchpointSees.j3 k y0 y1 y2 y3 y4 y5 y6 y7 y8 y9 y10) (debuggerlaw41_WatchpointSees.j3 (k + 1) y0 y1 y2 y3 y4 y5 y6 y7 y8 y9 y10))
  | 0 => ⟨fun _ _ _ _ _ _ _ _ r h => by simp [debuggerlaw41_WatchpointSees.l0] at h, fun _ _ _ _ _ _ _ _ _ r h => by simp [debuggerlaw41_WatchpointSees.j1] at h, fun _ _ _ _ _ _ _ _ _ r h => by simp [debuggerlaw41_WatchpointSees.j2] at h, fun _ _ _ _ _ _ _ _ _ _ _ r h => by simp [debuggerlaw41_WatchpointSees.j3] at h⟩
  | k + 1 => by
    obtain ⟨ih0, ih1, ih2, ih3⟩ := debuggerlaw41_WatchpointSees.mono_l k
    refine ⟨?_, ?_, ?_, ?_⟩
    · intro y0 y1 y2 y3 y4 y5 y6 y7
      unfold debuggerlaw41_WatchpointSees.l0
      repeat' first
      | (with_reducible exact ih0 _ _ _ _ _ _ _ _)
      | (with_reducible exact ih1 _ _ _ _ _ _ _ _ _)
      | (with_reducible exact ih2 _ _ _ _ _ _ _ _ _)
      | (with_reducible exact ih3 _ _ _ _ _ _ _ _ _ _ _)
      | (with_reducible exact debuggerlaw41_awake.mono _)
      | (with_reducible exact watchpoint_Check.mono _ _ _ _ _ _ _ _ _)
      | (with_reducible exact LeO.refl _)
      | (with_reducible exact LeO.none _)
      | (with_reducible refine LeO.ite ?_ ?_)
      | (with_reducible refine LeO.bind ?_ (fun _ => ?_))
      | exact ih0 _ _ _ _ _ _ _ _
      | exact ih1 _ _ _ _ _ _ _ _ _
      | exact ih2 _ _ _ _ _ _ _ _ _
      | exact ih3 _ _ _ _ _ _ _ _ _ _ _
      | exact debuggerlaw41_awake.mono _
      | exact watchpoint_Check.mono _ _ _ _ _ _ _ _ _
      | exact LeO.none _
      | refine LeO.ite ?_ ?_
      | refine LeO.bind ?_ (fun _ => ?_)
    · intro y0 y1 y2 y3 y4 y5 y6 y7 y8
      unfold debuggerlaw41_WatchpointSees.j1
      repeat' first
      | (with_reducible exact ih0 _ _ _ _ _ _ _ _)
      | (with_reducible exact ih1 _ _ _ _ _ _ _ _ _)
      | (with_reducible exact ih2 _ _ _ _ _ _ _ _ _)
      | (with_reducible exact ih3 _ _ _ _ _ _ _ _ _ _ _)
      | (with_reducible exact debuggerlaw41_awake.mono _)
      | (with_reducible exact watchpoint_Check.mono _ _ _ _ _ _ _ _ _)
      | (with_reducible exact LeO.refl _)
      | (with_reducible exact LeO.none _)
      | (with_reducible refine LeO.ite ?_ ?_)
      | (with_reducible refine LeO.bind ?_ (fun _ => ?_))
      | exact ih0 _ _ _ _ _ _ _ _
      | exact ih1 _ _ _ _ _ _ _ _ _
      | exact ih2 _ _ _ _ _ _ _ _ _
      | exact ih3 _ _ _ _ _ _ _ _ _ _ _
      | exact debuggerlaw41_awake.mono _
      | exact watchpoint_Check.mono _ _ _ _ _ _ _ _ _
      | exact LeO.none _
      | refine LeO.ite ?_ ?_
      | refine LeO.bind ?_ (fun _ => ?_)
    · intro y0 y1 y2 y3 y4 y5 y6 y7 y8
      unfold debuggerlaw41_WatchpointSees.j2
      repeat' first
      | (with_reducible exact ih0 _ _ _ _ _ _ _ _)
      | (with_reducible exact ih1 _ _ _ _ _ _ _ _ _)
      | (with_reducible exact ih2 _ _ _ _ _ _ _ _ _)
      | (with_reducible exact ih3 _ _ _ _ _ _ _ _ _ _ _)
      | (with_reducible exact debuggerlaw41_awake.mono _)
      | (with_reducible exact watchpoint_Check.mono _ _ _ _ _ _ _ _ _)
      | (with_reducible exact LeO.refl _)
      | (with_reducible exact LeO.none _)
      | (with_reducible refine LeO.ite ?_ ?_)
      | (with_reducible refine LeO.bind ?_ (fun _ => ?_))
      | exact ih0 _ _ _ _ _ _ _ _
      | exact ih1 _ _ _ _ _ _ _ _ _
      | exact ih2 _ _ _ _ _ _ _ _ _
      | exact ih3 _ _ _ _ _ _ _ _ _ _ _
      | exact debuggerlaw41_awake.mono _
      | exact watchpoint_Check.mono _ _ _ _ _ _ _ _ _
      | exact LeO.none _
      | refine LeO.ite ?_ ?_
      | refine LeO.bind ?_ (fun _ => ?_)
    · intro y0 y1 y2 y3 y4 y5 y6 y7 y8 y9 y10
      unfold debuggerlaw41_WatchpointSees.j3
      repeat' first
      | (with_reducible exact ih0 _ _ _ _ _ _ _ _)
      | (with_reducible exact ih1 _ _ _ _ _ _ _ _ _)
      | (with_reducible exact ih2 _ _ _ _ _ _ _ _ _)
      | (with_reducible exact ih3 _ _ _ _ _ _ _ _ _ _ _)
      | (with_reducible exact debuggerlaw41_awake.mono _)
      | (with_reducible exact watchpoint_Check.mono _ _ _ _ _ _ _ _ _)
      | (with_reducible exact LeO.refl _)
      | (with_reducible exact LeO.none _)
      | (with_reducible refine LeO.ite ?_ ?_)
      | (with_reducible refine LeO.bind ?_ (fun _ => ?_))
      | exact ih0 _ _ _ _ _ _ _ _
      | exact ih1 _ _ _ _ _ _ _ _ _
      | exact ih2 _ _ _ _ _ _ _ _ _
      | exact ih3 _ _ _ _ _ _ _ _ _ _ _
      | exact debuggerlaw41_awake.mono _
      | exact watchpoint_Check.mono _ _ _ _ _ _ _ _ _
      | exact LeO.none _
      | refine LeO.ite ?_ ?_
      | refine LeO.bind ?_ (fun _ => ?_)
theorem debuggerlaw41_WatchpointSees.mono : ∀ a0 a1 a2 k, LeO (debuggerlaw41_WatchpointSees.f k a0 a1 a2) (debuggerlaw41_WatchpointSees.f (k + 1) a0 a1 a2) := by
  intro a0 a1 a2 k
  obtain ⟨ih0, ih1, ih2, ih3⟩ := debuggerlaw41_WatchpointSees.mono_l k
  unfold debuggerlaw41_WatchpointSees.f
  repeat' first
      | (with_reducible exact ih0 _ _ _ _ _ _ _ _)
      | (with_reducible exact ih1 _ _ _ _ _ _ _ _ _)
      | (with_reducible exact ih2 _ _ _ _ _ _ _ _ _)
      | (with_reducible exact ih3 _ _ _ _ _ _ _ _ _ _ _)
      | (with_reducible exact debuggerlaw41_awake.mono _)
      | (with_reducible exact watchpoint_Check.mono _ _ _ _ _ _ _ _ _)
      | (with_reducible exact LeO.refl _)
      | (with_reducible exact LeO.none _)
      | (with_reducible refine LeO.ite ?_ ?_)
      | (with_reducible refine LeO.bind ?_ (fun _ => ?_))
      | exact ih0 _ _ _ _ _ _ _ _
      | exact ih1 _ _ _ _ _ _ _ _ _
      | exact ih2 _ _ _ _ _ _ _ _ _
      | exact ih3 _ _ _ _ _ _ _ _ _ _ _
      | exact debuggerlaw41_awake.mono _
      | exact watchpoint_Check.mono _ _ _ _ _ _ _ _ _
      | exact LeO.none _
      | refine LeO.ite ?_ ?_
      | refine LeO.bind ?_ (fun _ => ?_)
def debuggerlaw41_WatchpointSees.T9 : Bool × List (List Nat × List Nat) := (true, [([], []), ([], []), ([], []), ([1, 2], [1, 2]), ([0, 3, 3], [0, 3]), ([4], [4]), ([5], [5]), ([5], [5]), ([6, 4, 0, 1, 2, 3, 4, 5, 6], [6]), ([7, 8, 0, 1, 2, 3, 4, 5, 6, 7, 8], [7])])
def debuggerlaw41_WatchpointSees.B9 : List Nat := [0, 0, 0, 6, 15, 31, 63, 63, 127, 511]
theorem debuggerlaw41_WatchpointSees.tab9 : rtab .any (opsOf Try.f3 9) = debuggerlaw41_WatchpointSees.T9 := by kernel_rfl
theorem debuggerlaw41_WatchpointSees.bits9 : waitsOk debuggerlaw41_WatchpointSees.T9.2 debuggerlaw41_WatchpointSees.B9 = true := by kernel_rfl
set_option maxHeartbeats 8000000 in
set_option maxRecDepth 100000 in
theorem debuggerlaw41_WatchpointSees.calls (k : Nat) (a0 : Int) (A1 : Option Addr) (c1 : Nat) (l1 : List Int) (A2 : Option Addr) (c2 : Nat) (l2 : List Bool) (r : Bool) (w : World) (hr1 : Kd.C (Kd.int .i64) w A1 l1.length l1) (hc1 : l1.length ≤ c1) (hr2 : Kd.C Kd.bool w A2 l2.length l2) (hc2 : l2.length ≤ c2) (h : debuggerlaw41_WatchpointSees.f k a0 l1 l2 = some r) :
    Calls Try.prog 3 #[.int .i64 a0, .slice A1 l1.length c1, .slice A2 l2.length c2] w fun e w' => e = .returned (.bool r) ∧ Below w.heap.size w w' := by
  have hu25 := Try.underlying25
  have HR1 := Aside0.mk hr1
  have HC1 := Aside0.mk hc1
  clear hr1 hc1
  have HR2 := Aside0.mk hr2
  have HC2 := Aside0.mk hc2
  clear hr2 hc2
  have HB := Aside0.mk (Below.refl w.heap.size w)
  have H : ((debuggerlaw41_number.f a0 true).bind fun bt209 => (debuggerlaw41_WatchpointSees.l0 k l1 l2 a0 0 bt209.1 bt209.2.1 bt209.2.2.1 bt209.2.2.2)) = some r := h
  clear h
  replace H := Option.bind_eq_some_iff.mp H
  obtain ⟨⟨t209, t210, t211, t214⟩, A40, H⟩ := H
  replace H : (debuggerlaw41_WatchpointSees.l0 k l1 l2 a0 0 t209 t210 t211 t214) = some r := H
  have A4 := Aside0.mk A40
  clear A40
  have H' := Aside0.mk H
  clear H
  go_enter Try.func3, Try.ntmps3
  go_wp2_with (first | ((with_reducible refine gate_callee (f := 5) rfl ?_); refine goesL_ (some 14) rfl rfl Try.func5 (by kernel_rfl) rfl #[.int .i64 a0, .bool true] rfl (by (try simp only [List.map_toArray, List.map_cons, List.map_nil]); first | done | rfl | (simp only [List.length_drop, List.length_take]; rfl)) ?_; (with_reducible refine (debuggerlaw41_number.calls a0 true t209 t210 t211 t214 _ A4.out).mono ?_); rintro e w5 ⟨v212, v215, rfl, ho0, ho1, hb⟩; refine ⟨_, rfl, ?_⟩; have n0_ := Aside0.mk (Kd.R_lower ho0 (below_size (by repeat (first | (with_reducible first | exact HB.out | apply below_alloc | apply pw_below_drewN | apply below_drew1) | exact HB.out)))); have n1_ := Aside0.mk (Kd.R_lower ho1 (below_size (by repeat (first | (with_reducible first | exact HB.out | apply below_alloc | apply pw_below_drewN | apply below_drew1) | exact HB.out)))); have n2_ := Aside0.mk (below_step (by repeat (first | (with_reducible first | exact HB.out | apply below_alloc | apply pw_below_drewN | apply below_drew1) | exact HB.out)) hb); clear HB; have HO213 := n0_; have HO216 := n1_; have HB := n2_; clear n0_ n1_ n2_; (try clear hb); (try clear hb2); (try clear hk); (try clear hi); (try clear ho0); (try clear ho1)) | ((with_reducible refine gate_dst (N := 7) rfl ?_); (try (refine gate_guard (by rfl) ?_; dsimp only)); refine box_event ?hg (N := 7) ?hd (cs := #[.int .i64 0, .int .i64 0, .slice none 0 0, .slice none 0 0]) (t := 25) ?hr ?_; (case hd => rfl); (case hg => rfl); (case hr => first | (go_simp; done) | (go_simp; rfl)); intro gb217 hg w6 hbox hb; have n0_ := Aside0.mk (Kd.R_below (by (with_reducible repeat (first | apply Kd.R_alloc | apply Kd.R_drewN | apply Kd.R_drew)); exact HO213.out) hb); have n1_ := Aside0.mk (Kd.R_below (by (with_reducible repeat (first | apply Kd.R_alloc | apply Kd.R_drewN | apply Kd.R_drew)); exact HO216.out) hb); have n2_ := Aside0.mk (below_step (by repeat (first | (with_reducible first | exact HB.out | apply below_alloc | apply pw_below_drewN | apply below_drew1) | exact HB.out)) hb); have n3_ := Aside0.mk (hbox); have n4_ := Aside0.mk ((by rw [hg]; exact (below_size (by repeat (first | (with_reducible first | exact HB.out | apply below_alloc | apply pw_below_drewN | apply below_drew1) | exact HB.out))) : w.heap.size ≤ gb217)); have n5_ := Aside0.mk ((by rw [hg]; exact (below_size (by repeat (first | (with_reducible first | exact HB.out | apply below_alloc | apply pw_below_drewN | apply below_drew1) | exact HB.out))) : w.heap.size ≤ gb217)); clear HO213; clear HO216; clear HB; have HO213 := n0_; have HO216 := n1_; have HB := n2_; have BK217 := n3_; have GW217 := n4_; have GE217 := n5_; clear n0_ n1_ n2_ n3_ n4_ n5_; clear hb hbox hg; have hcz7_0 : w6.cell? ⟨gb217, 0, none⟩ = some (.int .i64 0) := (blk_cell BK217.out 0).trans rfl; have hcz7_1 : w6.cell? ⟨gb217, 1, none⟩ = some (.int .i64 0) := (blk_cell BK217.out 1).trans rfl; have hcz7_2 : w6.cell? ⟨gb217, 2, none⟩ = some (.slice none 0 0) := (blk_cell BK217.out 2).trans rfl; have hcz7_3 : w6.cell? ⟨gb217, 3, none⟩ = some (.slice none 0 0) := (blk_cell BK217.out 3).trans rfl; have hfz7_0 := blk_frozen BK217.out 0; have hfz7_1 := blk_frozen BK217.out 1; have hfz7_2 := blk_frozen BK217.out 2; have hfz7_3 := blk_frozen BK217.out 3; obtain ⟨Ao8, co8, eo8⟩ := Kd.R_slice HO213.out; subst eo8; obtain ⟨Ao9, co9, eo9⟩ := Kd.R_slice HO216.out; subst eo9))
  go_loopg [8, 9] k (fun kq v8 v9 w' => ∃ (x8_1 : Int) (x9_1 : Int) (x218000_1 : Int) (x218001_1 : Int) (x218002_1 : List Bool) (x218003_1 : List Int) (u218002 : Value) (u218003 : Value), v8 = .int .i64 x8_1 ∧ v9 = .int .i64 x9_1 ∧ Aside0 (debuggerlaw41_WatchpointSees.l0 kq l1 l2 x8_1 x9_1 x218000_1 x218001_1 x218002_1 x218003_1 = some r) ∧ Aside0 (kq ≤ k) ∧ Aside0 (Kd.R Kd.bool 4 w' w.heap.size (fun _ => True) u218002 x218002_1) ∧ Aside0 (Kd.R (Kd.int .i64) 3 w' w.heap.size (fun _ => True) u218003 x218003_1) ∧ Aside0 (w'.heap[gb217]? = some (.cells #[.int .i64 x218000_1, .int .i64 x218001_1, u218002, u218003] 25 (0, 0))) ∧ Aside0 (Below w.heap.size w w'))
  case atStart => exact ⟨(a0), (0), (t209), (t210), (t211), (t214), (.slice Ao8 t211.length co8), (.slice Ao9 t214.length co9), (by first | rfl | (simp; done) | (simp [*]; done)), (by first | rfl | (simp; done) | (simp [*]; done)), H', ⟨Nat.le_refl _⟩, ⟨by (with_reducible repeat (first | apply Kd.R_alloc | apply Kd.R_drewN | apply Kd.R_drew)); exact Kd.R_mono (Kd.R_far (p := ⟨gb217, 3, none⟩) (Kd.R_far (p := ⟨gb217, 2, none⟩) (Kd.R_far (p := ⟨gb217, 1, none⟩) (Kd.R_far (p := ⟨gb217, 0, none⟩) (Kd.R_types HO213.out BK217.out (by decide)) (fun _ hk => hk.2) (.int .i64 t209)) (fun _ hk => hk.2) (.int .i64 t210)) (fun _ hk => hk.2) (.slice Ao8 t211.length co8)) (fun _ hk => hk.2) (.slice Ao9 t214.length co9)) (fun _ hk => trivial)⟩, ⟨by (with_reducible repeat (first | apply Kd.R_alloc | apply Kd.R_drewN | apply Kd.R_drew)); exact Kd.R_mono (Kd.R_far (p := ⟨gb217, 3, none⟩) (Kd.R_far (p := ⟨gb217, 2, none⟩) (Kd.R_far (p := ⟨gb217, 1, none⟩) (Kd.R_far (p := ⟨gb217, 0, none⟩) (Kd.R_types HO216.out BK217.out (by decide)) (fun _ hk => hk.2) (.int .i64 t209)) (fun _ hk => hk.2) (.int .i64 t210)) (fun _ hk => hk.2) (.slice Ao8 t211.length co8)) (fun _ hk => hk.2) (.slice Ao9 t214.length co9)) (fun _ hk => trivial)⟩, ⟨by (with_reducible repeat (first | refine blk_drewN ?_ _ | refine blk_drew ?_ | refine blk_alloc ?_ _)); refine blk_put (cs := #[.int .i64 t209, .int .i64 t210, .slice Ao8 t211.length co8, .slice none 0 0]) ?_ 3 _ rfl; (with_reducible repeat (first | refine blk_drewN ?_ _ | refine blk_drew ?_ | refine blk_alloc ?_ _)); refine blk_put (cs := #[.int .i64 t209, .int .i64 t210, .slice none 0 0, .slice none 0 0]) ?_ 2 _ rfl; (with_reducible repeat (first | refine blk_drewN ?_ _ | refine blk_drew ?_ | refine blk_alloc ?_ _)); refine blk_put (cs := #[.int .i64 t209, .int .i64 0, .slice none 0 0, .slice none 0 0]) ?_ 1 _ rfl; (with_reducible repeat (first | refine blk_drewN ?_ _ | refine blk_drew ?_ | refine blk_alloc ?_ _)); refine blk_put (cs := #[.int .i64 0, .int .i64 0, .slice none 0 0, .slice none 0 0]) ?_ 0 _ rfl; (with_reducible repeat (first | refine blk_drewN ?_ _ | refine blk_drew ?_ | refine blk_alloc ?_ _)); exact BK217.out⟩, ⟨by repeat (first | (with_reducible first | exact HB.out | apply below_alloc | apply pw_below_drewN | apply below_drew1 | refine below_set ?_ GE217.out) | exact HB.out)⟩⟩
  case round =>
    clear H'
    try clear c1
    try clear c2
    try clear p2
    try clear c3
    try clear c5
    try clear hcz7_0
    try clear hcz7_1
    try clear hcz7_2
    try clear hcz7_3
    try clear hfz7_0
    try clear hfz7_1
    try clear hfz7_2
    try clear hfz7_3
    obtain ⟨x8_1, x9_1, x218000_1, x218001_1, x218002_1, x218003_1, u218002, u218003, rfl, rfl, HA, HK1, HO_218002, HO_218003, BK217, HB⟩ := hrel
    cases gk with
    | zero => exact absurd HA.out (by simp [debuggerlaw41_WatchpointSees.l0])
    | succ k1 =>
      have H := HA.out
      clear HA
      simp only [debuggerlaw41_WatchpointSees.l0] at H
      have HC10 := Aside0.mk H
      clear H
      go_upto_region 4 with (fail)
      go_cut [23] (fun v23 wc => ∃ (kq : Nat) (x23_9 : Bool), v23 = .bool x23_9 ∧ Aside0 (debuggerlaw41_WatchpointSees.j1 kq l1 l2 x8_1 x9_1 x23_9 x218000_1 x218001_1 x218002_1 x218003_1 = some r) ∧ Aside0 (kq ≤ k1) ∧ Aside0 (Kd.R Kd.bool 4 wc w.heap.size (fun _ => True) u218002 x218002_1) ∧ Aside0 (Kd.R (Kd.int .i64) 3 wc w.heap.size (fun _ => True) u218003 x218003_1) ∧ Aside0 (wc.heap[gb217]? = some (.cells #[.int .i64 x218000_1, .int .i64 x218001_1, u218002, u218003] 25 (0, 0))) ∧ Aside0 (Below w.heap.size w wc))
      case first =>
        have H := HC10.out
        clear HC10
        by_cases c11 : x9_1 < (l1.length : Int)
        · rw [if_pos c11] at H
          have c11b0 : decide (x9_1 < (l1.length : Int)) = true := decide_eq_true c11
          clear c11
          (first | rw [c11b0] | (simp only [i64_w, i32_w]; rw [c11b0]) | skip)
          have H' := Aside0.mk H
          clear H
          go_wp2
          go_meet
          case rel => exact ⟨_, (decide (x9_1 < 40)), (by first | rfl | (simp; done) | (simp [*]; done)), H', ⟨by have := HK1.out; first | omega | exact Nat.le_refl _⟩, ⟨by (with_reducible repeat (first | apply Kd.R_alloc | apply Kd.R_drewN | apply Kd.R_drew)); exact HO_218002.out⟩, ⟨by (with_reducible repeat (first | apply Kd.R_alloc | apply Kd.R_drewN | apply Kd.R_drew)); exact HO_218003.out⟩, ⟨by (with_reducible repeat (first | refine blk_drewN ?_ _ | refine blk_drew ?_ | refine blk_alloc ?_ _)); exact BK217.out⟩, ⟨by repeat (first | (with_reducible first | exact HB.out | apply below_alloc | apply pw_below_drewN | apply below_drew1 | refine below_set ?_ GE217.out) | exact HB.out)⟩⟩
        · rw [if_neg c11] at H
          have c11b0 : decide (x9_1 < (l1.length : Int)) = false := decide_eq_false c11
          clear c11
          (first | rw [c11b0] | (simp only [i64_w, i32_w]; rw [c11b0]) | skip)
          have H' := Aside0.mk H
          clear H
          go_wp2
          go_meet
          case rel => exact ⟨_, (false), (by first | rfl | (simp; done) | (simp [*]; done)), H', ⟨by have := HK1.out; first | omega | exact Nat.le_refl _⟩, ⟨by (with_reducible repeat (first | apply Kd.R_alloc | apply Kd.R_drewN | apply Kd.R_drew)); exact HO_218002.out⟩, ⟨by (with_reducible repeat (first | apply Kd.R_alloc | apply Kd.R_drewN | apply Kd.R_drew)); exact HO_218003.out⟩, ⟨by (with_reducible repeat (first | refine blk_drewN ?_ _ | refine blk_drew ?_ | refine blk_alloc ?_ _)); exact BK217.out⟩, ⟨by repeat (first | (with_reducible first | exact HB.out | apply below_alloc | apply pw_below_drewN | apply below_drew1 | refine below_set ?_ GE217.out) | exact HB.out)⟩⟩
      case rest =>
        clear HC10
        try clear c1
        try clear c2
        try clear p2
        try clear c3
        try clear c5
        try clear c11
        try clear c11b0
        try clear hcz7_0
        try clear hcz7_1
        try clear hcz7_2
        try clear hcz7_3
        try clear hfz7_0
        try clear hfz7_1
        try clear hfz7_2
        try clear hfz7_3
        try clear p2
        obtain ⟨kq, x23_9, rfl, HA, HJ9, HO_218002, HO_218003, BK217, HB⟩ := hcut
        cases kq with
        | zero => exact absurd HA.out (by simp [debuggerlaw41_WatchpointSees.j1])
        | succ kj9 =>
          have H := HA.out
          clear HA
          simp only [debuggerlaw41_WatchpointSees.j1] at H
          by_cases c12 : x23_9 = true
          · subst c12
            have H1 : (if x9_1 ≥ (l2.length : Int) then (debuggerlaw41_WatchpointSees.j2 kj9 l1 l2 x8_1 x9_1 true x218000_1 x218001_1 x218002_1 x218003_1) else (if 0 ≤ x9_1 then (if x9_1 < (l2.length : Int) then (debuggerlaw41_WatchpointSees.j2 kj9 l1 l2 x8_1 x9_1 (rdOf false l2 x9_1) x218000_1 x218001_1 x218002_1 x218003_1) else (none)) else (none))) = some r := by rw [if_pos rfl] at H; exact H
            clear H
            have H := H1
            clear H1
            have HC13 := Aside0.mk H
            clear H
            go_upto_region 6 with (fail)
            go_cut [10] (fun v10 wc => ∃ (kq : Nat) (x10_12 : Bool), v10 = .bool x10_12 ∧ Aside0 (debuggerlaw41_WatchpointSees.j2 kq l1 l2 x8_1 x9_1 x10_12 x218000_1 x218001_1 x218002_1 x218003_1 = some r) ∧ Aside0 (kq ≤ kj9) ∧ Aside0 (Kd.R Kd.bool 4 wc w.heap.size (fun _ => True) u218002 x218002_1) ∧ Aside0 (Kd.R (Kd.int .i64) 3 wc w.heap.size (fun _ => True) u218003 x218003_1) ∧ Aside0 (wc.heap[gb217]? = some (.cells #[.int .i64 x218000_1, .int .i64 x218001_1, u218002, u218003] 25 (0, 0))) ∧ Aside0 (Below w.heap.size w wc))
            case first =>
              have H := HC13.out
              clear HC13
              by_cases c14 : x9_1 ≥ (l2.length : Int)
              · rw [if_pos c14] at H
                have c14b0 : decide ((l2.length : Int) ≤ x9_1) = true := decide_eq_true c14
                clear c14
                (first | rw [c14b0] | (simp only [i64_w, i32_w]; rw [c14b0]) | skip)
                have H' := Aside0.mk H
                clear H
                go_wp2
                go_meet
                case rel => exact ⟨_, (true), (by first | rfl | (simp; done) | (simp [*]; done)), H', ⟨by have := HK1.out; have := HJ9.out; first | omega | exact Nat.le_refl _⟩, ⟨by (with_reducible repeat (first | apply Kd.R_alloc | apply Kd.R_drewN | apply Kd.R_drew)); exact HO_218002.out⟩, ⟨by (with_reducible repeat (first | apply Kd.R_alloc | apply Kd.R_drewN | apply Kd.R_drew)); exact HO_218003.out⟩, ⟨by (with_reducible repeat (first | refine blk_drewN ?_ _ | refine blk_drew ?_ | refine blk_alloc ?_ _)); exact BK217.out⟩, ⟨by repeat (first | (with_reducible first | exact HB.out | apply below_alloc | apply pw_below_drewN | apply below_drew1 | refine below_set ?_ GE217.out) | exact HB.out)⟩⟩
              · rw [if_neg c14] at H
                have c14b0 : decide ((l2.length : Int) ≤ x9_1) = false := decide_eq_false c14
                clear c14
                (first | rw [c14b0] | (simp only [i64_w, i32_w]; rw [c14b0]) | skip)
                by_cases c15 : 0 ≤ x9_1
                · rw [if_pos c15] at H
                  have c15b0 : decide (0 ≤ x9_1) = true := decide_eq_true c15
                  clear c15
                  by_cases c16 : x9_1 < (l2.length : Int)
                  · rw [if_pos c16] at H
                    have c16b0 : decide (x9_1 < (l2.length : Int)) = true := decide_eq_true c16
                    clear c16
                    have H' := Aside0.mk H
                    clear H
                    have p219 : 0 ≤ (x9_1 : Int) := of_decide_eq_true (by first | (with_reducible assumption) | assumption)
                    have q219 : x9_1 < (l2.length : Int) := of_decide_eq_true (by first | (with_reducible assumption) | assumption)
                    obtain ⟨ad219, e219, hx219_0⟩ := Kd.at_bool HR2.out x9_1 p219 q219
                    cases e219
                    replace hx219_0 := (HB.out.cell (World.block_lt_of_cell? w _ hx219_0)).trans hx219_0
                    replace p219 := eq_true p219
                    replace q219 := eq_true q219
                    go_wp2
                    go_meet
                    case rel => exact ⟨_, (rdOf false l2 x9_1), (by first | rfl | (simp; done) | (simp [*]; done)), H', ⟨by have := HK1.out; have := HJ9.out; first | omega | exact Nat.le_refl _⟩, ⟨by (with_reducible repeat (first | apply Kd.R_alloc | apply Kd.R_drewN | apply Kd.R_drew)); exact HO_218002.out⟩, ⟨by (with_reducible repeat (first | apply Kd.R_alloc | apply Kd.R_drewN | apply Kd.R_drew)); exact HO_218003.out⟩, ⟨by (with_reducible repeat (first | refine blk_drewN ?_ _ | refine blk_drew ?_ | refine blk_alloc ?_ _)); exact BK217.out⟩, ⟨by repeat (first | (with_reducible first | exact HB.out | apply below_alloc | apply pw_below_drewN | apply below_drew1 | refine below_set ?_ GE217.out) | exact HB.out)⟩⟩
                  · rw [if_neg c16] at H
                    exact absurd H (by simp)
                · rw [if_neg c15] at H
                  exact absurd H (by simp)
            case rest =>
              clear HC13
              try clear c1
              try clear c2
              try clear p2
              try clear q2
              try clear hx2
              try clear c3
              try clear c5
              try clear c11
              try clear c11b0
              try clear c12
              try clear c14
              try clear c14b0
              try clear c15
              try clear c15b0
              try clear c16
              try clear c16b0
              try clear hcz7_0
              try clear hcz7_1
              try clear hcz7_2
              try clear hcz7_3
              try clear hfz7_0
              try clear hfz7_1
              try clear hfz7_2
              try clear hfz7_3
              try clear hx219_0
              try clear p2
              try clear p219
              try clear q219
              obtain ⟨kq, x10_12, rfl, HA, HJ12, HO_218002, HO_218003, BK217, HB⟩ := hcut
              cases kq with
              | zero => exact absurd HA.out (by simp [debuggerlaw41_WatchpointSees.j2])
              | succ kj12 =>
                have H := HA.out
                clear HA
                simp only [debuggerlaw41_WatchpointSees.j2] at H
                by_cases c17 : 0 ≤ x9_1
                · rw [if_pos c17] at H
                  have c17b0 : decide (0 ≤ x9_1) = true := decide_eq_true c17
                  clear c17
                  by_cases c18 : x9_1 < (l1.length : Int)
                  · rw [if_pos c18] at H
                    have c18b0 : decide (x9_1 < (l1.length : Int)) = true := decide_eq_true c18
                    clear c18
                    replace H := Option.bind_eq_some_iff.mp H
                    obtain ⟨t221, A190, H⟩ := H
                    replace H : ((debuggerlaw41_number.f t221 x10_12).bind fun bt222 => ((watchpoint_Check.f kj12 x218000_1 x218001_1 x218002_1 x218003_1 bt222.1 bt222.2.1 bt222.2.2.1 bt222.2.2.2).bind fun bt230 => (if x10_12 = true then (debuggerlaw41_WatchpointSees.j3 kj12 l1 l2 x8_1 x9_1 x10_12 t221 (bt230.2.2.2.2 != (t221 != x8_1)) bt230.1 bt230.2.1 bt230.2.2.1 bt230.2.2.2.1) else (debuggerlaw41_WatchpointSees.j3 kj12 l1 l2 x8_1 x9_1 x10_12 t221 (bt230.2.2.2.2 != false) bt230.1 bt230.2.1 bt230.2.2.1 bt230.2.2.2.1)))) = some r := H
                    have A19 := Aside0.mk A190
                    clear A190
                    replace H := Option.bind_eq_some_iff.mp H
                    obtain ⟨⟨t222, t223, t224, t227⟩, A200, H⟩ := H
                    replace H : ((watchpoint_Check.f kj12 x218000_1 x218001_1 x218002_1 x218003_1 t222 t223 t224 t227).bind fun bt230 => (if x10_12 = true then (debuggerlaw41_WatchpointSees.j3 kj12 l1 l2 x8_1 x9_1 x10_12 t221 (bt230.2.2.2.2 != (t221 != x8_1)) bt230.1 bt230.2.1 bt230.2.2.1 bt230.2.2.2.1) else (debuggerlaw41_WatchpointSees.j3 kj12 l1 l2 x8_1 x9_1 x10_12 t221 (bt230.2.2.2.2 != false) bt230.1 bt230.2.1 bt230.2.2.1 bt230.2.2.2.1))) = some r := H
                    have A20 := Aside0.mk A200
                    clear A200
                    replace H := Option.bind_eq_some_iff.mp H
                    obtain ⟨⟨t230, t231, t232, t235, t238⟩, A210, H⟩ := H
                    replace H : (if x10_12 = true then (debuggerlaw41_WatchpointSees.j3 kj12 l1 l2 x8_1 x9_1 x10_12 t221 (t238 != (t221 != x8_1)) t230 t231 t232 t235) else (debuggerlaw41_WatchpointSees.j3 kj12 l1 l2 x8_1 x9_1 x10_12 t221 (t238 != false) t230 t231 t232 t235)) = some r := H
                    have A21 := Aside0.mk A210
                    clear A210
                    have HC22 := Aside0.mk H
                    clear H
                    have p220 : 0 ≤ (x9_1 : Int) := of_decide_eq_true (by first | (with_reducible assumption) | assumption)
                    have q220 : x9_1 < (l1.length : Int) := of_decide_eq_true (by first | (with_reducible assumption) | assumption)
                    obtain ⟨ad220, e220, hx220_0⟩ := Kd.at_int HR1.out x9_1 p220 q220
                    cases e220
                    replace hx220_0 := (HB.out.cell (World.block_lt_of_cell? w _ hx220_0)).trans hx220_0
                    replace p220 := eq_true p220
                    replace q220 := eq_true q220
                    try go_wp2_with (first | ((with_reducible refine gate_callee (f := 6) rfl ?_); refine goesL_ (some 40) rfl rfl Try.func6 (by kernel_rfl) rfl #[.int .i64 (rd l1 x9_1), .int .i64 3] rfl (by (try simp only [List.map_toArray, List.map_cons, List.map_nil]); first | done | rfl | (simp only [List.length_drop, List.length_take]; rfl)) ?_; (with_reducible refine (debuggerkit_Mod.calls (rd l1 x9_1) 3 t221 _ A19.out).mono ?_); rintro e w' ⟨rfl, ⟨nd, rfl⟩⟩; refine ⟨_, rfl, ?_⟩; (try (rw [drewN_self wc]; generalize hq_ : World.drewN wc _ = wc; have n0_ : Aside0 (Kd.R Kd.bool 4 wc w.heap.size (fun _ => True) u218002 x218002_1) := ⟨by rw [← hq_]; exact (by (with_reducible repeat (first | apply Kd.R_alloc | apply Kd.R_drewN | apply Kd.R_drew)); exact HO_218002.out)⟩; have n1_ : Aside0 (Kd.R (Kd.int .i64) 3 wc w.heap.size (fun _ => True) u218003 x218003_1) := ⟨by rw [← hq_]; exact (by (with_reducible repeat (first | apply Kd.R_alloc | apply Kd.R_drewN | apply Kd.R_drew)); exact HO_218003.out)⟩; have n2_ : Aside0 (wc.heap[gb217]? = some (.cells #[.int .i64 x218000_1, .int .i64 x218001_1, u218002, u218003] 25 (0, 0))) := ⟨by rw [← hq_]; exact (by (with_reducible repeat (first | refine blk_drewN ?_ _ | refine blk_drew ?_ | refine blk_alloc ?_ _)); exact BK217.out)⟩; have n3_ : Aside0 (Below w.heap.size w wc) := ⟨by rw [← hq_]; exact (by repeat (first | (with_reducible first | exact HB.out | apply below_alloc | apply pw_below_drewN | apply below_drew1 | refine below_set ?_ GE217.out) | exact HB.out))⟩; clear HO_218002 HO_218003 BK217 HB hq_; have HO_218002 := n0_; have HO_218003 := n1_; have BK217 := n2_; have HB := n3_; clear n0_ n1_ n2_ n3_))))
                    have n0_ := Aside0.mk (Kd.R_drew HO_218002.out)
                    have n1_ := Aside0.mk (Kd.R_drew HO_218003.out)
                    have n2_ := Aside0.mk (blk_drew BK217.out)
                    have n3_ := Aside0.mk (below_drew1 HB.out)
                    clear HO_218002
                    clear HO_218003
                    clear BK217
                    clear HB
                    have HO_218002 := n0_
                    have HO_218003 := n1_
                    have BK217 := n2_
                    have HB := n3_
                    clear n0_ n1_ n2_ n3_
                    refine start_ (n := 10) (S := fun w' => w'.cell? ⟨gb217, 0, none⟩ = some (.int .i64 x218000_1) ∧ w'.cell? ⟨gb217, 1, none⟩ = some (.int .i64 x218001_1) ∧ w'.cell? ⟨gb217, 2, none⟩ = some (u218002) ∧ w'.cell? ⟨gb217, 3, none⟩ = some (u218003)) (ds := [8]) #[false, false, false, false, false, false, false, false, false, false] (by kernel_rfl) rfl rfl ⟨(blk_cell BK217.out 0).trans rfl, (blk_cell BK217.out 1).trans rfl, (blk_cell BK217.out 2).trans rfl, (blk_cell BK217.out 3).trans rfl⟩ (fun hHeld => ?_); refine with_tabW debuggerlaw41_WatchpointSees.tab9 debuggerlaw41_WatchpointSees.bits9 (fun HT_ HW_ => ?_)
                    generalize wc.drew = w23 at HO_218002 HO_218003 BK217 HB hHeld ⊢
                    refine pure_ (i := 1) (N := some 43) (v := ?_) (a' := ?_) #[false, true, false, false, false, false, false, false, false, false] rfl rfl (any_of HT_.out (by kernel_rfl)) (fun _ _ _ h => h) (Or.inl ⟨by rfl, ?_⟩) ?_ ?_
                    rotate_left
                    · intro w'
                      go_simp
                      with_reducible rfl
                    rotate_left
                    · simp only [Act.put, List.setIfInBounds_toArray, List.set_cons_zero, List.set_cons_succ, i64_w, i32_w]
                      rfl
                    refine pure_ (i := 2) (N := some 44) (v := ?_) (a' := ?_) #[false, true, true, false, false, false, false, false, false, false] rfl rfl (any_of HT_.out (by kernel_rfl)) (fun _ _ _ h => h) (Or.inl ⟨by rfl, ?_⟩) ?_ ?_
                    rotate_left
                    · intro w'
                      go_simp
                      with_reducible rfl
                    rotate_left
                    · simp only [Act.put, List.setIfInBounds_toArray, List.set_cons_zero, List.set_cons_succ, i64_w, i32_w]
                      rfl
                    refine take_ (i := 0) (N := some 42) (v := ?_) (a' := ?_) #[true, true, true, false, false, false, false, false, false, false] rfl rfl (take_ofW HT_.out HW_.out (by kernel_rfl)) (fun _ _ _ h => h) (Or.inl ⟨by rfl, ?_⟩) hHeld ?_ ?_
                    rotate_left
                    · rintro w' ⟨s0, s1, s2, s3⟩
                      go_simp
                      with_reducible rfl
                    rotate_left
                    · simp only [Act.put, List.setIfInBounds_toArray, List.set_cons_zero, List.set_cons_succ, i64_w, i32_w]
                      rfl
                    refine one_ (i := 3) (N := some 45) #[true, true, true, true, false, false, false, false, false, false] rfl rfl (one_of HT_.out (by kernel_rfl)) (by decide) (fun K hK => ?_)
                    refine goes_ Try.func5 (by kernel_rfl) rfl #[.int .i64 t221, .bool x10_12] (by rfl) rfl rfl (by (try simp only [List.map_toArray, List.map_cons, List.map_nil]); first | done | rfl | (simp only [List.length_drop, List.length_take]; rfl)) ?_
                    with_reducible refine (debuggerlaw41_number.calls t221 x10_12 t222 t223 t224 t227 _ A20.out).mono ?_
                    rintro e w24 ⟨v225, v228, rfl, ho0, ho1, hb⟩
                    refine ⟨_, rfl, ?_⟩
                    have n0_ := Aside0.mk (Kd.R_elder' (by (with_reducible repeat (first | apply Kd.R_alloc | apply Kd.R_drewN | apply Kd.R_drew)); exact HO_218002.out) (Kd.R_base ho0) hb)
                    have n1_ := Aside0.mk (Kd.R_elder' (by (with_reducible repeat (first | apply Kd.R_alloc | apply Kd.R_drewN | apply Kd.R_drew)); exact HO_218003.out) (Kd.R_base ho1) hb)
                    have n2_ := Aside0.mk (Kd.R_lower (Kd.R_new' ho0 (Kd.R_lt (by (with_reducible repeat (first | apply Kd.R_alloc | apply Kd.R_drewN | apply Kd.R_drew)); exact HO_218002.out))) (below_size (by repeat (first | (with_reducible first | exact HB.out | apply below_alloc | apply pw_below_drewN | apply below_drew1 | refine below_set ?_ GE217.out) | exact HB.out))))
                    have n3_ := Aside0.mk (Kd.R_lower (Kd.R_new' ho1 (Kd.R_lt (by (with_reducible repeat (first | apply Kd.R_alloc | apply Kd.R_drewN | apply Kd.R_drew)); exact HO_218003.out))) (below_size (by repeat (first | (with_reducible first | exact HB.out | apply below_alloc | apply pw_below_drewN | apply below_drew1 | refine below_set ?_ GE217.out) | exact HB.out))))
                    have n4_ := Aside0.mk (blk_below (g := gb217) (o := .cells #[.int .i64 x218000_1, .int .i64 x218001_1, u218002, u218003] 25 (0, 0)) (by (with_reducible repeat (first | refine blk_drewN ?_ _ | refine blk_drew ?_ | refine blk_alloc ?_ _)); exact BK217.out) hb)
                    have n5_ := Aside0.mk (below_step (by repeat (first | (with_reducible first | exact HB.out | apply below_alloc | apply pw_below_drewN | apply below_drew1 | refine below_set ?_ GE217.out) | exact HB.out)) hb)
                    clear HO_218002
                    clear HO_218003
                    clear BK217
                    clear HB
                    have HO_218002 := n0_
                    have HO_218003 := n1_
                    have HO226 := n2_
                    have HO229 := n3_
                    have BK217 := n4_
                    have HB := n5_
                    clear n0_ n1_ n2_ n3_ n4_ n5_
                    (try clear hb)
                    (try clear hb2)
                    (try clear hk)
                    (try clear hi)
                    (try clear ho0)
                    (try clear ho1)
                    obtain ⟨Ao25, co25, eo25⟩ := Kd.R_slice HO_218002.out
                    (first | subst eo25 | (injection eo25 with f1_ f2_ f3_; have f4_ := f1_.symm; have f5_ := f3_.symm; clear f1_ f2_ f3_; subst f4_; subst f5_))
                    obtain ⟨Ao26, co26, eo26⟩ := Kd.R_slice HO_218003.out
                    (first | subst eo26 | (injection eo26 with f1_ f2_ f3_; have f4_ := f1_.symm; have f5_ := f3_.symm; clear f1_ f2_ f3_; subst f4_; subst f5_))
                    obtain ⟨Ao27, co27, eo27⟩ := Kd.R_slice HO226.out
                    (first | subst eo27 | (injection eo27 with f1_ f2_ f3_; have f4_ := f1_.symm; have f5_ := f3_.symm; clear f1_ f2_ f3_; subst f4_; subst f5_))
                    obtain ⟨Ao28, co28, eo28⟩ := Kd.R_slice HO229.out
                    (first | subst eo28 | (injection eo28 with f1_ f2_ f3_; have f4_ := f1_.symm; have f5_ := f3_.symm; clear f1_ f2_ f3_; subst f4_; subst f5_))
                    refine hK.out _ _ ⟨(blk_cell BK217.out 0).trans rfl, (blk_cell BK217.out 1).trans rfl, (blk_cell BK217.out 2).trans rfl, (blk_cell BK217.out 3).trans rfl⟩ (fun hHeld => ?_)
                    clear hK K
                    refine norm_ (a' := ?_) ?_ ?_
                    rotate_left
                    · show Act.put _ (some 45) _ = _
                      simp only [Act.put, List.setIfInBounds_toArray, List.set_cons_zero, List.set_cons_succ, i64_w, i32_w]
                      rfl
                    refine one_ (i := 4) (N := some 46) #[true, true, true, true, true, false, false, false, false, false] rfl rfl (one_of HT_.out (by kernel_rfl)) (by decide) (fun K hK => ?_)
                    refine goes_ Try.func7 (by kernel_rfl) rfl #[.agg #[.int .i64 x218000_1, .int .i64 x218001_1, .slice Ao25 x218002_1.length co25, .slice Ao26 x218003_1.length co26], .agg #[.int .i64 t222, .int .i64 t223, .slice Ao27 t224.length co27, .slice Ao28 t227.length co28]] (by rfl) rfl rfl (by (try simp only [List.map_toArray, List.map_cons, List.map_nil]); first | done | rfl | (simp only [List.length_drop, List.length_take]; rfl)) ?_
                    with_reducible refine (watchpoint_Check.calls kj12 x218000_1 x218001_1 _ _ x218002_1 _ _ x218003_1 t222 t223 _ _ t224 _ _ t227 t230 t231 t232 t235 t238 _ ?side1 ?side2 ?side3 ?side4 ?side5 ?side6 ?side7 ?side8 A21.out).mono ?_
                    (case side1 => repeat (first | exact (Kd.R_reads' HO_218002.out).2.2 | (with_reducible refine Kd.C_alloc ?_ _) | (with_reducible refine Kd.C_drewN ?_ _) | (with_reducible refine Kd.C_drew ?_)))
                    (case side2 => exact (Kd.R_reads' HO_218002.out).2.1)
                    (case side3 => repeat (first | exact (Kd.R_reads' HO_218003.out).2.2 | (with_reducible refine Kd.C_alloc ?_ _) | (with_reducible refine Kd.C_drewN ?_ _) | (with_reducible refine Kd.C_drew ?_)))
                    (case side4 => exact (Kd.R_reads' HO_218003.out).2.1)
                    (case side5 => repeat (first | exact (Kd.R_reads' HO226.out).2.2 | (with_reducible refine Kd.C_alloc ?_ _) | (with_reducible refine Kd.C_drewN ?_ _) | (with_reducible refine Kd.C_drew ?_)))
                    (case side6 => exact (Kd.R_reads' HO226.out).2.1)
                    (case side7 => repeat (first | exact (Kd.R_reads' HO229.out).2.2 | (with_reducible refine Kd.C_alloc ?_ _) | (with_reducible refine Kd.C_drewN ?_ _) | (with_reducible refine Kd.C_drew ?_)))
                    (case side8 => exact (Kd.R_reads' HO229.out).2.1)
                    rintro e w29 ⟨v233, v236, rfl, ho0, ho1, hb⟩
                    refine ⟨_, rfl, ?_⟩
                    have n0_ := Aside0.mk (Kd.R_elder' (by (with_reducible repeat (first | apply Kd.R_alloc | apply Kd.R_drewN | apply Kd.R_drew)); exact HO_218002.out) (Kd.R_base ho0) hb)
                    have n1_ := Aside0.mk (Kd.R_elder' (by (with_reducible repeat (first | apply Kd.R_alloc | apply Kd.R_drewN | apply Kd.R_drew)); exact HO_218003.out) (Kd.R_base ho1) hb)
                    have n2_ := Aside0.mk (Kd.R_elder' (by (with_reducible repeat (first | apply Kd.R_alloc | apply Kd.R_drewN | apply Kd.R_drew)); exact HO226.out) (Kd.R_base ho0) hb)
                    have n3_ := Aside0.mk (Kd.R_elder' (by (with_reducible repeat (first | apply Kd.R_alloc | apply Kd.R_drewN | apply Kd.R_drew)); exact HO229.out) (Kd.R_base ho1) hb)
                    have n4_ := Aside0.mk (Kd.R_lower (Kd.R_new' (Kd.R_new' ho0 (Kd.R_lt (by (with_reducible repeat (first | apply Kd.R_alloc | apply Kd.R_drewN | apply Kd.R_drew)); exact HO_218002.out))) (Kd.R_lt (by (with_reducible repeat (first | apply Kd.R_alloc | apply Kd.R_drewN | apply Kd.R_drew)); exact HO226.out))) (below_size (by repeat (first | (with_reducible first | exact HB.out | apply below_alloc | apply pw_below_drewN | apply below_drew1 | refine below_set ?_ GE217.out) | exact HB.out))))
                    have n5_ := Aside0.mk (Kd.R_lower (Kd.R_new' (Kd.R_new' ho1 (Kd.R_lt (by (with_reducible repeat (first | apply Kd.R_alloc | apply Kd.R_drewN | apply Kd.R_drew)); exact HO_218003.out))) (Kd.R_lt (by (with_reducible repeat (first | apply Kd.R_alloc | apply Kd.R_drewN | apply Kd.R_drew)); exact HO229.out))) (below_size (by repeat (first | (with_reducible first | exact HB.out | apply below_alloc | apply pw_below_drewN | apply below_drew1 | refine below_set ?_ GE217.out) | exact HB.out))))
                    have n6_ := Aside0.mk (blk_below (g := gb217) (o := .cells #[.int .i64 x218000_1, .int .i64 x218001_1, .slice Ao25 x218002_1.length co25, .slice Ao26 x218003_1.length co26] 25 (0, 0)) (by (with_reducible repeat (first | refine blk_drewN ?_ _ | refine blk_drew ?_ | refine blk_alloc ?_ _)); exact BK217.out) hb)
                    have n7_ := Aside0.mk (below_step (by repeat (first | (with_reducible first | exact HB.out | apply below_alloc | apply pw_below_drewN | apply below_drew1 | refine below_set ?_ GE217.out) | exact HB.out)) hb)
                    clear HO_218002
                    clear HO_218003
                    clear HO226
                    clear HO229
                    clear BK217
                    clear HB
                    have HO_218002 := n0_
                    have HO_218003 := n1_
                    have HO226 := n2_
                    have HO229 := n3_
                    have HO234 := n4_
                    have HO237 := n5_
                    have BK217 := n6_
                    have HB := n7_
                    clear n0_ n1_ n2_ n3_ n4_ n5_ n6_ n7_
                    (try clear hb)
                    (try clear hb2)
                    (try clear hk)
                    (try clear hi)
                    (try clear ho0)
                    (try clear ho1)
                    obtain ⟨Ao32, co32, eo32⟩ := Kd.R_slice HO234.out
                    (first | subst eo32 | (injection eo32 with f1_ f2_ f3_; have f4_ := f1_.symm; have f5_ := f3_.symm; clear f1_ f2_ f3_; subst f4_; subst f5_))
                    obtain ⟨Ao34, co34, eo34⟩ := Kd.R_slice HO237.out
                    (first | subst eo34 | (injection eo34 with f1_ f2_ f3_; have f4_ := f1_.symm; have f5_ := f3_.symm; clear f1_ f2_ f3_; subst f4_; subst f5_))
                    refine hK.out _ _ ⟨(blk_cell BK217.out 0).trans rfl, (blk_cell BK217.out 1).trans rfl, (blk_cell BK217.out 2).trans rfl, (blk_cell BK217.out 3).trans rfl⟩ (fun hHeld => ?_)
                    clear hK K
                    refine norm_ (a' := ?_) ?_ ?_
                    rotate_left
                    · show Act.put _ (some 46) _ = _
                      simp only [Act.put, List.setIfInBounds_toArray, List.set_cons_zero, List.set_cons_succ, i64_w, i32_w]
                      rfl
                    refine pure_ (i := 5) (N := some 41) (v := ?_) (a' := ?_) #[true, true, true, true, true, true, false, false, false, false] rfl rfl (any_of HT_.out (by kernel_rfl)) (fun _ _ _ h => h) (Or.inl ⟨by rfl, ?_⟩) ?_ ?_
                    rotate_left
                    · intro w'
                      go_simp
                      with_reducible rfl
                    rotate_left
                    · simp only [Act.put, List.setIfInBounds_toArray, List.set_cons_zero, List.set_cons_succ, i64_w, i32_w]
                      rfl
                    refine pure_ (i := 6) (N := some 47) (v := ?_) (a' := ?_) #[true, true, true, true, true, true, true, false, false, false] rfl rfl (any_of HT_.out (by kernel_rfl)) (fun _ _ _ h => h) (Or.inl ⟨by rfl, ?_⟩) ?_ ?_
                    rotate_left
                    · intro w'
                      go_simp
                      with_reducible rfl
                    rotate_left
                    · simp only [Act.put, List.setIfInBounds_toArray, List.set_cons_zero, List.set_cons_succ, i64_w, i32_w]
                      rfl
                    refine pure_ (i := 7) (N := some 48) (v := ?_) (a' := ?_) #[true, true, true, true, true, true, true, true, false, false] rfl rfl (any_of HT_.out (by kernel_rfl)) (fun _ _ _ h => h) (Or.inl ⟨by rfl, ?_⟩) ?_ ?_
                    rotate_left
                    · intro w'
                      go_simp
                      with_reducible rfl
                    rotate_left
                    · simp only [Act.put, List.setIfInBounds_toArray, List.set_cons_zero, List.set_cons_succ, i64_w, i32_w]
                      rfl
                    refine last_ (i := 8) (N := none) #[true, true, true, true, true, true, true, true, true, false] rfl rfl (one_of HT_.out (by kernel_rfl)) (by decide) (fun K hK => ?_)
                    have hs30 : w29.cell? ⟨gb217, 0, none⟩ = some (.int .i64 x218000_1) := (blk_cell BK217.out 0).trans rfl
                    have hfs30 := blk_frozen BK217.out 0
                    have hs31 : w29.cell? ⟨gb217, 1, none⟩ = some (.int .i64 x218001_1) := (blk_cell BK217.out 1).trans rfl
                    have hfs31 := blk_frozen BK217.out 1
                    have hs33 : w29.cell? ⟨gb217, 2, none⟩ = some (.slice Ao25 x218002_1.length co25) := (blk_cell BK217.out 2).trans rfl
                    have hfs33 := blk_frozen BK217.out 2
                    have hs35 : w29.cell? ⟨gb217, 3, none⟩ = some (.slice Ao26 x218003_1.length co26) := (blk_cell BK217.out 3).trans rfl
                    have hfs35 := blk_frozen BK217.out 3
                    refine skip_ (w1 := ?_) (by rfl) rfl ?_ ?_
                    rotate_left
                    · go_simp
                      rfl
                    refine hK.out _ _ ?_
                    clear hK K
                    refine pure_ (i := 9) (N := some 12) (v := ?_) (a' := ?_) #[true, true, true, true, true, true, true, true, true, true] rfl rfl (any_of HT_.out (by kernel_rfl)) (fun _ _ _ h => h) (Or.inl ⟨by rfl, ?_⟩) ?_ ?_
                    rotate_left
                    · intro w'
                      go_simp
                      with_reducible rfl
                    rotate_left
                    · simp only [Act.put, List.setIfInBounds_toArray, List.set_cons_zero, List.set_cons_succ, i64_w, i32_w]
                      rfl
                    refine done_ (done_of HT_.out (by kernel_rfl)) ?_
                    go_upto_region 10 with (fail)
                    go_cut [56] (fun v56 wc => ∃ (kq : Nat) (x56_21 : Bool), v56 = .bool x56_21 ∧ Aside0 (debuggerlaw41_WatchpointSees.j3 kq l1 l2 x8_1 x9_1 x10_12 t221 x56_21 t230 t231 t232 t235 = some r) ∧ Aside0 (kq ≤ kj12) ∧ Aside0 (Kd.R Kd.bool 4 wc w.heap.size (fun _ => True) (.slice Ao32 t232.length co32) t232) ∧ Aside0 (Kd.R (Kd.int .i64) 3 wc w.heap.size (fun _ => True) (.slice Ao34 t235.length co34) t235) ∧ Aside0 (wc.heap[gb217]? = some (.cells #[.int .i64 t230, .int .i64 t231, (.slice Ao32 t232.length co32), (.slice Ao34 t235.length co34)] 25 (0, 0))) ∧ Aside0 (Below w.heap.size w wc))
                    case first =>
                      have H := HC22.out
                      clear HC22
                      by_cases c36 : x10_12 = true
                      · subst c36
                        have H1 : (debuggerlaw41_WatchpointSees.j3 kj12 l1 l2 x8_1 x9_1 true t221 (t238 != (t221 != x8_1)) t230 t231 t232 t235) = some r := by rw [if_pos rfl] at H; exact H
                        clear H
                        have H := H1
                        clear H1
                        have H' := Aside0.mk H
                        clear H
                        go_wp2
                        go_meet
                        case rel => exact ⟨_, ((t238 != (t221 != x8_1))), (by first | rfl | (simp; done) | (simp [*]; done)), H', ⟨by have := HK1.out; have := HJ9.out; have := HJ12.out; first | omega | exact Nat.le_refl _⟩, ⟨by (with_reducible repeat (first | apply Kd.R_alloc | apply Kd.R_drewN | apply Kd.R_drew)); exact Kd.R_mono (Kd.R_far (p := ⟨gb217, 3, none⟩) (Kd.R_far (p := ⟨gb217, 2, none⟩) (Kd.R_far (p := ⟨gb217, 1, none⟩) (Kd.R_far (p := ⟨gb217, 0, none⟩) (Kd.R_types HO234.out BK217.out (by decide)) (fun _ hk => hk.2) (.int .i64 t230)) (fun _ hk => hk.2) (.int .i64 t231)) (fun _ hk => hk.2) (.slice Ao32 t232.length co32)) (fun _ hk => hk.2) (.slice Ao34 t235.length co34)) (fun _ hk => trivial)⟩, ⟨by (with_reducible repeat (first | apply Kd.R_alloc | apply Kd.R_drewN | apply Kd.R_drew)); exact Kd.R_mono (Kd.R_far (p := ⟨gb217, 3, none⟩) (Kd.R_far (p := ⟨gb217, 2, none⟩) (Kd.R_far (p := ⟨gb217, 1, none⟩) (Kd.R_far (p := ⟨gb217, 0, none⟩) (Kd.R_types HO237.out BK217.out (by decide)) (fun _ hk => hk.2) (.int .i64 t230)) (fun _ hk => hk.2) (.int .i64 t231)) (fun _ hk => hk.2) (.slice Ao32 t232.length co32)) (fun _ hk => hk.2) (.slice Ao34 t235.length co34)) (fun _ hk => trivial)⟩, ⟨by (with_reducible repeat (first | refine blk_drewN ?_ _ | refine blk_drew ?_ | refine blk_alloc ?_ _)); refine blk_put (cs := #[.int .i64 t230, .int .i64 t231, .slice Ao32 t232.length co32, .slice Ao26 x218003_1.length co26]) ?_ 3 _ rfl; (with_reducible repeat (first | refine blk_drewN ?_ _ | refine blk_drew ?_ | refine blk_alloc ?_ _)); refine blk_put (cs := #[.int .i64 t230, .int .i64 t231, .slice Ao25 x218002_1.length co25, .slice Ao26 x218003_1.length co26]) ?_ 2 _ rfl; (with_reducible repeat (first | refine blk_drewN ?_ _ | refine blk_drew ?_ | refine blk_alloc ?_ _)); refine blk_put (cs := #[.int .i64 t230, .int .i64 x218001_1, .slice Ao25 x218002_1.length co25, .slice Ao26 x218003_1.length co26]) ?_ 1 _ rfl; (with_reducible repeat (first | refine blk_drewN ?_ _ | refine blk_drew ?_ | refine blk_alloc ?_ _)); refine blk_put (cs := #[.int .i64 x218000_1, .int .i64 x218001_1, .slice Ao25 x218002_1.length co25, .slice Ao26 x218003_1.length co26]) ?_ 0 _ rfl; (with_reducible repeat (first | refine blk_drewN ?_ _ | refine blk_drew ?_ | refine blk_alloc ?_ _)); exact BK217.out⟩, ⟨by repeat (first | (with_reducible first | exact HB.out | apply below_alloc | apply pw_below_drewN | apply below_drew1 | refine below_set ?_ GE217.out) | exact HB.out)⟩⟩
                      · replace c36 := Bool.eq_false_iff.mpr c36
                        subst c36
                        have H1 : (debuggerlaw41_WatchpointSees.j3 kj12 l1 l2 x8_1 x9_1 false t221 (t238 != false) t230 t231 t232 t235) = some r := by rw [if_neg (show ¬ (false = true) by decide)] at H; exact H
                        clear H
                        have H := H1
                        clear H1
                        have H' := Aside0.mk H
                        clear H
                        go_wp2
                        go_meet
                        case rel => exact ⟨_, ((t238 != false)), (by first | rfl | (simp; done) | (simp [*]; done)), H', ⟨by have := HK1.out; have := HJ9.out; have := HJ12.out; first | omega | exact Nat.le_refl _⟩, ⟨by (with_reducible repeat (first | apply Kd.R_alloc | apply Kd.R_drewN | apply Kd.R_drew)); exact Kd.R_mono (Kd.R_far (p := ⟨gb217, 3, none⟩) (Kd.R_far (p := ⟨gb217, 2, none⟩) (Kd.R_far (p := ⟨gb217, 1, none⟩) (Kd.R_far (p := ⟨gb217, 0, none⟩) (Kd.R_types HO234.out BK217.out (by decide)) (fun _ hk => hk.2) (.int .i64 t230)) (fun _ hk => hk.2) (.int .i64 t231)) (fun _ hk => hk.2) (.slice Ao32 t232.length co32)) (fun _ hk => hk.2) (.slice Ao34 t235.length co34)) (fun _ hk => trivial)⟩, ⟨by (with_reducible repeat (first | apply Kd.R_alloc | apply Kd.R_drewN | apply Kd.R_drew)); exact Kd.R_mono (Kd.R_far (p := ⟨gb217, 3, none⟩) (Kd.R_far (p := ⟨gb217, 2, none⟩) (Kd.R_far (p := ⟨gb217, 1, none⟩) (Kd.R_far (p := ⟨gb217, 0, none⟩) (Kd.R_types HO237.out BK217.out (by decide)) (fun _ hk => hk.2) (.int .i64 t230)) (fun _ hk => hk.2) (.int .i64 t231)) (fun _ hk => hk.2) (.slice Ao32 t232.length co32)) (fun _ hk => hk.2) (.slice Ao34 t235.length co34)) (fun _ hk => trivial)⟩, ⟨by (with_reducible repeat (first | refine blk_drewN ?_ _ | refine blk_drew ?_ | refine blk_alloc ?_ _)); refine blk_put (cs := #[.int .i64 t230, .int .i64 t231, .slice Ao32 t232.length co32, .slice Ao26 x218003_1.length co26]) ?_ 3 _ rfl; (with_reducible repeat (first | refine blk_drewN ?_ _ | refine blk_drew ?_ | refine blk_alloc ?_ _)); refine blk_put (cs := #[.int .i64 t230, .int .i64 t231, .slice Ao25 x218002_1.length co25, .slice Ao26 x218003_1.length co26]) ?_ 2 _ rfl; (with_reducible repeat (first | refine blk_drewN ?_ _ | refine blk_drew ?_ | refine blk_alloc ?_ _)); refine blk_put (cs := #[.int .i64 t230, .int .i64 x218001_1, .slice Ao25 x218002_1.length co25, .slice Ao26 x218003_1.length co26]) ?_ 1 _ rfl; (with_reducible repeat (first | refine blk_drewN ?_ _ | refine blk_drew ?_ | refine blk_alloc ?_ _)); refine blk_put (cs := #[.int .i64 x218000_1, .int .i64 x218001_1, .slice Ao25 x218002_1.length co25, .slice Ao26 x218003_1.length co26]) ?_ 0 _ rfl; (with_reducible repeat (first | refine blk_drewN ?_ _ | refine blk_drew ?_ | refine blk_alloc ?_ _)); exact BK217.out⟩, ⟨by repeat (first | (with_reducible first | exact HB.out | apply below_alloc | apply pw_below_drewN | apply below_drew1 | refine below_set ?_ GE217.out) | exact HB.out)⟩⟩
                    case rest =>
                      clear HC22
                      try clear c1
                      try clear c2
                      try clear p2
                      try clear q2
                      try clear hx2
                      try clear c3
                      try clear c5
                      try clear c6
                      try clear c7
                      try clear c11
                      try clear c11b0
                      try clear c12
                      try clear c14
                      try clear c14b0
                      try clear c15
                      try clear c15b0
                      try clear c16
                      try clear c16b0
                      try clear c17
                      try clear c17b0
                      try clear c18
                      try clear c18b0
                      try clear p21
                      try clear q21
                      try clear hx21
                      try clear p22
                      try clear q22
                      try clear hx22
                      try clear c36
                      try clear hcz7_0
                      try clear hcz7_1
                      try clear hcz7_2
                      try clear hcz7_3
                      try clear hfz7_0
                      try clear hfz7_1
                      try clear hfz7_2
                      try clear hfz7_3
                      try clear hx219_0
                      try clear hx220_0
                      try clear p2
                      try clear p219
                      try clear p220
                      try clear q2
                      try clear q219
                      try clear q220
                      obtain ⟨kq, x56_21, rfl, HA, HJ21, HO_218002, HO_218003, BK217, HB⟩ := hcut
                      cases kq with
                      | zero => exact absurd HA.out (by simp [debuggerlaw41_WatchpointSees.j3])
                      | succ kj21 =>
                        have H := HA.out
                        clear HA
                        simp only [debuggerlaw41_WatchpointSees.j3] at H
                        by_cases c37 : x56_21 = true
                        · subst c37
                          have H1 : (some false) = some r := by rw [if_pos rfl] at H; exact H
                          clear H
                          have H := H1
                          clear H1
                          obtain rfl := Option.some.inj H
                          go_wp2
                          go_ret
                          exact ⟨by first | rfl | (simp [errW_none, errW_some] <;> rfl) | (simp [*, errW_none, errW_some] <;> rfl), by repeat (first | (with_reducible first | exact HB.out | apply below_alloc | apply pw_below_drewN | apply below_drew1 | refine below_set ?_ GE217.out) | exact HB.out)⟩
                        · replace c37 := Bool.eq_false_iff.mpr c37
                          subst c37
                          have H1 : (if x10_12 = true then (if (t235.length : Int) = 1 then (if 0 < (t235.length : Int) then (if (rd t235 0) = t221 then (if (t232.length : Int) = 1 then (if 0 < (t232.length : Int) then (if rdOf false t232 0 = true then (debuggerlaw41_WatchpointSees.l0 kj21 l1 l2 t221 (wrap64 (x9_1 + 1)) t230 t231 t232 t235) else (some false)) else (none)) else (some false)) else (some false)) else (none)) else (some false)) else (if (t235.length : Int) = 1 then (if 0 < (t235.length : Int) then (if (rd t235 0) = x8_1 then (if (t232.length : Int) = 1 then (if 0 < (t232.length : Int) then (if rdOf false t232 0 = true then (debuggerlaw41_WatchpointSees.l0 kj21 l1 l2 x8_1 (wrap64 (x9_1 + 1)) t230 t231 t232 t235) else (some false)) else (none)) else (some false)) else (some false)) else (none)) else (some false))) = some r := by rw [if_neg (show ¬ (false = true) by decide)] at H; exact H
                          clear H
                          have H := H1
                          clear H1
                          by_cases c38 : x10_12 = true
                          · subst c38
                            have H1 : (if (t235.length : Int) = 1 then (if 0 < (t235.length : Int) then (if (rd t235 0) = t221 then (if (t232.length : Int) = 1 then (if 0 < (t232.length : Int) then (if rdOf false t232 0 = true then (debuggerlaw41_WatchpointSees.l0 kj21 l1 l2 t221 (wrap64 (x9_1 + 1)) t230 t231 t232 t235) else (some false)) else (none)) else (some false)) else (some false)) else (none)) else (some false)) = some r := by rw [if_pos rfl] at H; exact H
                            clear H
                            have H := H1
                            clear H1
                            by_cases c39 : (t235.length : Int) = 1
                            · rw [if_pos c39] at H
                              have c39b0 : ((t235.length : Int) == 1) = true := beq_iff_eq.mpr c39
                              have c39b1 : ((t235.length : Int) != 1) = false := bne_eq_false_iff_eq.mpr c39
                              clear c39
                              by_cases c40 : 0 < (t235.length : Int)
                              · rw [if_pos c40] at H
                                have c40b0 : decide (0 < (t235.length : Int)) = true := decide_eq_true c40
                                have c40b1 : decide (0 < t235.length) = true := decide_eq_true (by omega)
                                clear c40
                                by_cases c41 : (rd t235 0) = t221
                                · rw [if_pos c41] at H
                                  have c41b0 : ((rd t235 0) == t221) = true := beq_iff_eq.mpr c41
                                  have c41b1 : ((rd t235 0) != t221) = false := bne_eq_false_iff_eq.mpr c41
                                  clear c41
                                  by_cases c42 : (t232.length : Int) = 1
                                  · rw [if_pos c42] at H
                                    have c42b0 : ((t232.length : Int) == 1) = true := beq_iff_eq.mpr c42
                                    have c42b1 : ((t232.length : Int) != 1) = false := bne_eq_false_iff_eq.mpr c42
                                    clear c42
                                    by_cases c43 : 0 < (t232.length : Int)
                                    · rw [if_pos c43] at H
                                      have c43b0 : decide (0 < (t232.length : Int)) = true := decide_eq_true c43
                                      have c43b1 : decide (0 < t232.length) = true := decide_eq_true (by omega)
                                      clear c43
                                      obtain ⟨bq44, hbq44⟩ : ∃ b_ : Bool, b_ = (rdOf false t232 0) := ⟨_, rfl⟩
                                      replace H : (if bq44 = true then (debuggerlaw41_WatchpointSees.l0 kj21 l1 l2 t221 (wrap64 (x9_1 + 1)) t230 t231 t232 t235) else (some false)) = some r := by rw [← hbq44] at H; exact H
                                      have Nbq44 := Aside0.mk hbq44
                                      clear hbq44
                                      by_cases c45 : bq44 = true
                                      · subst c45
                                        have H1 : (debuggerlaw41_WatchpointSees.l0 kj21 l1 l2 t221 (wrap64 (x9_1 + 1)) t230 t231 t232 t235) = some r := by rw [if_pos rfl] at H; exact H
                                        clear H
                                        have H := H1
                                        clear H1
                                        have H' := Aside0.mk H
                                        clear H
                                        have hcz46_0 : wc.cell? ⟨gb217, 0, none⟩ = some (.int .i64 t230) := (blk_cell BK217.out 0).trans rfl
                                        have hcz46_1 : wc.cell? ⟨gb217, 1, none⟩ = some (.int .i64 t231) := (blk_cell BK217.out 1).trans rfl
                                        have hcz46_2 : wc.cell? ⟨gb217, 2, none⟩ = some (.slice Ao32 t232.length co32) := (blk_cell BK217.out 2).trans rfl
                                        have hcz46_3 : wc.cell? ⟨gb217, 3, none⟩ = some (.slice Ao34 t235.length co34) := (blk_cell BK217.out 3).trans rfl
                                        have hfz46_0 := blk_frozen BK217.out 0
                                        have hfz46_1 := blk_frozen BK217.out 1
                                        have hfz46_2 := blk_frozen BK217.out 2
                                        have hfz46_3 := blk_frozen BK217.out 3
                                        have p239 : 0 ≤ (0 : Int) := (by omega)
                                        have q239 : 0 < (t235.length : Int) := of_decide_eq_true (by first | (with_reducible assumption) | assumption)
                                        obtain ⟨ad239, e239, hx239_0⟩ := Kd.at_int (Kd.R_reads' HO_218003.out).2.2 0 p239 q239
                                        cases e239
                                        have qi239 : (0 < t235.length) = True := eq_true (by omega)
                                        (try rw [show ((0 : Int)).toNat = 0 from rfl] at hx239_0)
                                        (try rw [Addr.add_zero'] at hx239_0)
                                        replace p239 := eq_true p239
                                        replace q239 := eq_true q239
                                        have p240 : 0 ≤ (0 : Int) := (by omega)
                                        have q240 : 0 < (t232.length : Int) := of_decide_eq_true (by first | (with_reducible assumption) | assumption)
                                        obtain ⟨ad240, e240, hx240_0⟩ := Kd.at_bool (Kd.R_reads' HO_218002.out).2.2 0 p240 q240
                                        (try rw [← Nbq44.out] at hx240_0)
                                        cases e240
                                        have qi240 : (0 < t232.length) = True := eq_true (by omega)
                                        (try rw [show ((0 : Int)).toNat = 0 from rfl] at hx240_0)
                                        (try rw [Addr.add_zero'] at hx240_0)
                                        replace p240 := eq_true p240
                                        replace q240 := eq_true q240
                                        go_wp2
                                        go_roundg kj21
                                        case measure => have := HK1.out; have := HJ9.out; have := HJ12.out; have := HJ21.out; omega
                                        case rel => exact ⟨(t221), (wrap64 (x9_1 + 1)), (t230), (t231), (t232), (t235), (.slice (some ad240) t232.length co32), (.slice (some ad239) t235.length co34), (by first | rfl | (simp; done) | (simp [*]; done)), (by first | rfl | (simp; done) | (simp [*]; done)), H', ⟨by have := HK1.out; have := HJ9.out; have := HJ12.out; have := HJ21.out; omega⟩, ⟨by (with_reducible repeat (first | apply Kd.R_alloc | apply Kd.R_drewN | apply Kd.R_drew)); exact HO_218002.out⟩, ⟨by (with_reducible repeat (first | apply Kd.R_alloc | apply Kd.R_drewN | apply Kd.R_drew)); exact HO_218003.out⟩, ⟨by (with_reducible repeat (first | refine blk_drewN ?_ _ | refine blk_drew ?_ | refine blk_alloc ?_ _)); exact BK217.out⟩, ⟨by repeat (first | (with_reducible first | exact HB.out | apply below_alloc | apply pw_below_drewN | apply below_drew1 | refine below_set ?_ GE217.out) | exact HB.out)⟩⟩
                                      · replace c45 := Bool.eq_false_iff.mpr c45
                                        subst c45
                                        have H1 : (some false) = some r := by rw [if_neg (show ¬ (false = true) by decide)] at H; exact H
                                        clear H
                                        have H := H1
                                        clear H1
                                        obtain rfl := Option.some.inj H
                                        have hcz47_0 : wc.cell? ⟨gb217, 0, none⟩ = some (.int .i64 t230) := (blk_cell BK217.out 0).trans rfl
                                        have hcz47_1 : wc.cell? ⟨gb217, 1, none⟩ = some (.int .i64 t231) := (blk_cell BK217.out 1).trans rfl
                                        have hcz47_2 : wc.cell? ⟨gb217, 2, none⟩ = some (.slice Ao32 t232.length co32) := (blk_cell BK217.out 2).trans rfl
                                        have hcz47_3 : wc.cell? ⟨gb217, 3, none⟩ = some (.slice Ao34 t235.length co34) := (blk_cell BK217.out 3).trans rfl
                                        have hfz47_0 := blk_frozen BK217.out 0
                                        have hfz47_1 := blk_frozen BK217.out 1
                                        have hfz47_2 := blk_frozen BK217.out 2
                                        have hfz47_3 := blk_frozen BK217.out 3
                                        have p239 : 0 ≤ (0 : Int) := (by omega)
                                        have q239 : 0 < (t235.length : Int) := of_decide_eq_true (by first | (with_reducible assumption) | assumption)
                                        obtain ⟨ad239, e239, hx239_0⟩ := Kd.at_int (Kd.R_reads' HO_218003.out).2.2 0 p239 q239
                                        cases e239
                                        have qi239 : (0 < t235.length) = True := eq_true (by omega)
                                        (try rw [show ((0 : Int)).toNat = 0 from rfl] at hx239_0)
                                        (try rw [Addr.add_zero'] at hx239_0)
                                        replace p239 := eq_true p239
                                        replace q239 := eq_true q239
                                        have p240 : 0 ≤ (0 : Int) := (by omega)
                                        have q240 : 0 < (t232.length : Int) := of_decide_eq_true (by first | (with_reducible assumption) | assumption)
                                        obtain ⟨ad240, e240, hx240_0⟩ := Kd.at_bool (Kd.R_reads' HO_218002.out).2.2 0 p240 q240
                                        (try rw [← Nbq44.out] at hx240_0)
                                        cases e240
                                        have qi240 : (0 < t232.length) = True := eq_true (by omega)
                                        (try rw [show ((0 : Int)).toNat = 0 from rfl] at hx240_0)
                                        (try rw [Addr.add_zero'] at hx240_0)
                                        replace p240 := eq_true p240
                                        replace q240 := eq_true q240
                                        go_wp2
                                        go_ret
                                        exact ⟨by first | rfl | (simp [errW_none, errW_some] <;> rfl) | (simp [*, errW_none, errW_some] <;> rfl), by repeat (first | (with_reducible first | exact HB.out | apply below_alloc | apply pw_below_drewN | apply below_drew1 | refine below_set ?_ GE217.out) | exact HB.out)⟩
                                    · rw [if_neg c43] at H
                                      exact absurd H (by simp)
                                  · rw [if_neg c42] at H
                                    have c42b0 : ((t232.length : Int) == 1) = false := beq_eq_false_iff_ne.mpr c42
                                    have c42b1 : ((t232.length : Int) != 1) = true := bne_iff_ne.mpr c42
                                    obtain rfl := Option.some.inj H
                                    have hcz48_0 : wc.cell? ⟨gb217, 0, none⟩ = some (.int .i64 t230) := (blk_cell BK217.out 0).trans rfl
                                    have hcz48_1 : wc.cell? ⟨gb217, 1, none⟩ = some (.int .i64 t231) := (blk_cell BK217.out 1).trans rfl
                                    have hcz48_2 : wc.cell? ⟨gb217, 2, none⟩ = some (.slice Ao32 t232.length co32) := (blk_cell BK217.out 2).trans rfl
                                    have hcz48_3 : wc.cell? ⟨gb217, 3, none⟩ = some (.slice Ao34 t235.length co34) := (blk_cell BK217.out 3).trans rfl
                                    have hfz48_0 := blk_frozen BK217.out 0
                                    have hfz48_1 := blk_frozen BK217.out 1
                                    have hfz48_2 := blk_frozen BK217.out 2
                                    have hfz48_3 := blk_frozen BK217.out 3
                                    have p239 : 0 ≤ (0 : Int) := (by omega)
                                    have q239 : 0 < (t235.length : Int) := of_decide_eq_true (by first | (with_reducible assumption) | assumption)
                                    obtain ⟨ad239, e239, hx239_0⟩ := Kd.at_int (Kd.R_reads' HO_218003.out).2.2 0 p239 q239
                                    cases e239
                                    have qi239 : (0 < t235.length) = True := eq_true (by omega)
                                    (try rw [show ((0 : Int)).toNat = 0 from rfl] at hx239_0)
                                    (try rw [Addr.add_zero'] at hx239_0)
                                    replace p239 := eq_true p239
                                    replace q239 := eq_true q239
                                    go_wp2
                                    go_ret
                                    exact ⟨by first | rfl | (simp [errW_none, errW_some] <;> rfl) | (simp [*, errW_none, errW_some] <;> rfl), by repeat (first | (with_reducible first | exact HB.out | apply below_alloc | apply pw_below_drewN | apply below_drew1 | refine below_set ?_ GE217.out) | exact HB.out)⟩
                                · rw [if_neg c41] at H
                                  have c41b0 : ((rd t235 0) == t221) = false := beq_eq_false_iff_ne.mpr c41
                                  have c41b1 : ((rd t235 0) != t221) = true := bne_iff_ne.mpr c41
                                  obtain rfl := Option.some.inj H
                                  have hcz49_0 : wc.cell? ⟨gb217, 0, none⟩ = some (.int .i64 t230) := (blk_cell BK217.out 0).trans rfl
                                  have hcz49_1 : wc.cell? ⟨gb217, 1, none⟩ = some (.int .i64 t231) := (blk_cell BK217.out 1).trans rfl
                                  have hcz49_2 : wc.cell? ⟨gb217, 2, none⟩ = some (.slice Ao32 t232.length co32) := (blk_cell BK217.out 2).trans rfl
                                  have hcz49_3 : wc.cell? ⟨gb217, 3, none⟩ = some (.slice Ao34 t235.length co34) := (blk_cell BK217.out 3).trans rfl
                                  have hfz49_0 := blk_frozen BK217.out 0
                                  have hfz49_1 := blk_frozen BK217.out 1
                                  have hfz49_2 := blk_frozen BK217.out 2
                                  have hfz49_3 := blk_frozen BK217.out 3
                                  have p239 : 0 ≤ (0 : Int) := (by omega)
                                  have q239 : 0 < (t235.length : Int) := of_decide_eq_true (by first | (with_reducible assumption) | assumption)
                                  obtain ⟨ad239, e239, hx239_0⟩ := Kd.at_int (Kd.R_reads' HO_218003.out).2.2 0 p239 q239
                                  cases e239
                                  have qi239 : (0 < t235.length) = True := eq_true (by omega)
                                  (try rw [show ((0 : Int)).toNat = 0 from rfl] at hx239_0)
                                  (try rw [Addr.add_zero'] at hx239_0)
                                  replace p239 := eq_true p239
                                  replace q239 := eq_true q239
                                  go_wp2
                                  go_ret
                                  exact ⟨by first | rfl | (simp [errW_none, errW_some] <;> rfl) | (simp [*, errW_none, errW_some] <;> rfl), by repeat (first | (with_reducible first | exact HB.out | apply below_alloc | apply pw_below_drewN | apply below_drew1 | refine below_set ?_ GE217.out) | exact HB.out)⟩
                              · rw [if_neg c40] at H
                                exact absurd H (by simp)
                            · rw [if_neg c39] at H
                              have c39b0 : ((t235.length : Int) == 1) = false := beq_eq_false_iff_ne.mpr c39
                              have c39b1 : ((t235.length : Int) != 1) = true := bne_iff_ne.mpr c39
                              obtain rfl := Option.some.inj H
                              have hcz50_0 : wc.cell? ⟨gb217, 0, none⟩ = some (.int .i64 t230) := (blk_cell BK217.out 0).trans rfl
                              have hcz50_1 : wc.cell? ⟨gb217, 1, none⟩ = some (.int .i64 t231) := (blk_cell BK217.out 1).trans rfl
                              have hcz50_2 : wc.cell? ⟨gb217, 2, none⟩ = some (.slice Ao32 t232.length co32) := (blk_cell BK217.out 2).trans rfl
                              have hcz50_3 : wc.cell? ⟨gb217, 3, none⟩ = some (.slice Ao34 t235.length co34) := (blk_cell BK217.out 3).trans rfl
                              have hfz50_0 := blk_frozen BK217.out 0
                              have hfz50_1 := blk_frozen BK217.out 1
                              have hfz50_2 := blk_frozen BK217.out 2
                              have hfz50_3 := blk_frozen BK217.out 3
                              go_wp2
                              go_ret
                              exact ⟨by first | rfl | (simp [errW_none, errW_some] <;> rfl) | (simp [*, errW_none, errW_some] <;> rfl), by repeat (first | (with_reducible first | exact HB.out | apply below_alloc | apply pw_below_drewN | apply below_drew1 | refine below_set ?_ GE217.out) | exact HB.out)⟩
                          · replace c38 := Bool.eq_false_iff.mpr c38
                            subst c38
                            have H1 : (if (t235.length : Int) = 1 then (if 0 < (t235.length : Int) then (if (rd t235 0) = x8_1 then (if (t232.length : Int) = 1 then (if 0 < (t232.length : Int) then (if rdOf false t232 0 = true then (debuggerlaw41_WatchpointSees.l0 kj21 l1 l2 x8_1 (wrap64 (x9_1 + 1)) t230 t231 t232 t235) else (some false)) else (none)) else (some false)) else (some false)) else (none)) else (some false)) = some r := by rw [if_neg (show ¬ (false = true) by decide)] at H; exact H
                            clear H
                            have H := H1
                            clear H1
                            by_cases c51 : (t235.length : Int) = 1
                            · rw [if_pos c51] at H
                              have c51b0 : ((t235.length : Int) == 1) = true := beq_iff_eq.mpr c51
                              have c51b1 : ((t235.length : Int) != 1) = false := bne_eq_false_iff_eq.mpr c51
                              clear c51
                              by_cases c52 : 0 < (t235.length : Int)
                              · rw [if_pos c52] at H
                                have c52b0 : decide (0 < (t235.length : Int)) = true := decide_eq_true c52
                                have c52b1 : decide (0 < t235.length) = true := decide_eq_true (by omega)
                                clear c52
                                by_cases c53 : (rd t235 0) = x8_1
                                · rw [if_pos c53] at H
                                  have c53b0 : ((rd t235 0) == x8_1) = true := beq_iff_eq.mpr c53
                                  have c53b1 : ((rd t235 0) != x8_1) = false := bne_eq_false_iff_eq.mpr c53
                                  clear c53
                                  by_cases c54 : (t232.length : Int) = 1
                                  · rw [if_pos c54] at H
                                    have c54b0 : ((t232.length : Int) == 1) = true := beq_iff_eq.mpr c54
                                    have c54b1 : ((t232.length : Int) != 1) = false := bne_eq_false_iff_eq.mpr c54
                                    clear c54
                                    by_cases c55 : 0 < (t232.length : Int)
                                    · rw [if_pos c55] at H
                                      have c55b0 : decide (0 < (t232.length : Int)) = true := decide_eq_true c55
                                      have c55b1 : decide (0 < t232.length) = true := decide_eq_true (by omega)
                                      clear c55
                                      obtain ⟨bq56, hbq56⟩ : ∃ b_ : Bool, b_ = (rdOf false t232 0) := ⟨_, rfl⟩
                                      replace H : (if bq56 = true then (debuggerlaw41_WatchpointSees.l0 kj21 l1 l2 x8_1 (wrap64 (x9_1 + 1)) t230 t231 t232 t235) else (some false)) = some r := by rw [← hbq56] at H; exact H
                                      have Nbq56 := Aside0.mk hbq56
                                      clear hbq56
                                      by_cases c57 : bq56 = true
                                      · subst c57
                                        have H1 : (debuggerlaw41_WatchpointSees.l0 kj21 l1 l2 x8_1 (wrap64 (x9_1 + 1)) t230 t231 t232 t235) = some r := by rw [if_pos rfl] at H; exact H
                                        clear H
                                        have H := H1
                                        clear H1
                                        have H' := Aside0.mk H
                                        clear H
                                        have hcz58_0 : wc.cell? ⟨gb217, 0, none⟩ = some (.int .i64 t230) := (blk_cell BK217.out 0).trans rfl
                                        have hcz58_1 : wc.cell? ⟨gb217, 1, none⟩ = some (.int .i64 t231) := (blk_cell BK217.out 1).trans rfl
                                        have hcz58_2 : wc.cell? ⟨gb217, 2, none⟩ = some (.slice Ao32 t232.length co32) := (blk_cell BK217.out 2).trans rfl
                                        have hcz58_3 : wc.cell? ⟨gb217, 3, none⟩ = some (.slice Ao34 t235.length co34) := (blk_cell BK217.out 3).trans rfl
                                        have hfz58_0 := blk_frozen BK217.out 0
                                        have hfz58_1 := blk_frozen BK217.out 1
                                        have hfz58_2 := blk_frozen BK217.out 2
                                        have hfz58_3 := blk_frozen BK217.out 3
                                        have p241 : 0 ≤ (0 : Int) := (by omega)
                                        have q241 : 0 < (t235.length : Int) := of_decide_eq_true (by first | (with_reducible assumption) | assumption)
                                        obtain ⟨ad241, e241, hx241_0⟩ := Kd.at_int (Kd.R_reads' HO_218003.out).2.2 0 p241 q241
                                        cases e241
                                        have qi241 : (0 < t235.length) = True := eq_true (by omega)
                                        (try rw [show ((0 : Int)).toNat = 0 from rfl] at hx241_0)
                                        (try rw [Addr.add_zero'] at hx241_0)
                                        replace p241 := eq_true p241
                                        replace q241 := eq_true q241
                                        have p242 : 0 ≤ (0 : Int) := (by omega)
                                        have q242 : 0 < (t232.length : Int) := of_decide_eq_true (by first | (with_reducible assumption) | assumption)
                                        obtain ⟨ad242, e242, hx242_0⟩ := Kd.at_bool (Kd.R_reads' HO_218002.out).2.2 0 p242 q242
                                        (try rw [← Nbq56.out] at hx242_0)
                                        cases e242
                                        have qi242 : (0 < t232.length) = True := eq_true (by omega)
                                        (try rw [show ((0 : Int)).toNat = 0 from rfl] at hx242_0)
                                        (try rw [Addr.add_zero'] at hx242_0)
                                        replace p242 := eq_true p242
                                        replace q242 := eq_true q242
                                        go_wp2
                                        go_roundg kj21
                                        case measure => have := HK1.out; have := HJ9.out; have := HJ12.out; have := HJ21.out; omega
                                        case rel => exact ⟨(x8_1), (wrap64 (x9_1 + 1)), (t230), (t231), (t232), (t235), (.slice (some ad242) t232.length co32), (.slice (some ad241) t235.length co34), (by first | rfl | (simp; done) | (simp [*]; done)), (by first | rfl | (simp; done) | (simp [*]; done)), H', ⟨by have := HK1.out; have := HJ9.out; have := HJ12.out; have := HJ21.out; omega⟩, ⟨by (with_reducible repeat (first | apply Kd.R_alloc | apply Kd.R_drewN | apply Kd.R_drew)); exact HO_218002.out⟩, ⟨by (with_reducible repeat (first | apply Kd.R_alloc | apply Kd.R_drewN | apply Kd.R_drew)); exact HO_218003.out⟩, ⟨by (with_reducible repeat (first | refine blk_drewN ?_ _ | refine blk_drew ?_ | refine blk_alloc ?_ _)); exact BK217.out⟩, ⟨by repeat (first | (with_reducible first | exact HB.out | apply below_alloc | apply pw_below_drewN | apply below_drew1 | refine below_set ?_ GE217.out) | exact HB.out)⟩⟩
                                      · replace c57 := Bool.eq_false_iff.mpr c57
                                        subst c57
                                        have H1 : (some false) = some r := by rw [if_neg (show ¬ (false = true) by decide)] at H; exact H
                                        clear H
                                        have H := H1
                                        clear H1
                                        obtain rfl := Option.some.inj H
                                        have hcz59_0 : wc.cell? ⟨gb217, 0, none⟩ = some (.int .i64 t230) := (blk_cell BK217.out 0).trans rfl
                                        have hcz59_1 : wc.cell? ⟨gb217, 1, none⟩ = some (.int .i64 t231) := (blk_cell BK217.out 1).trans rfl
                                        have hcz59_2 : wc.cell? ⟨gb217, 2, none⟩ = some (.slice Ao32 t232.length co32) := (blk_cell BK217.out 2).trans rfl
                                        have hcz59_3 : wc.cell? ⟨gb217, 3, none⟩ = some (.slice Ao34 t235.length co34) := (blk_cell BK217.out 3).trans rfl
                                        have hfz59_0 := blk_frozen BK217.out 0
                                        have hfz59_1 := blk_frozen BK217.out 1
                                        have hfz59_2 := blk_frozen BK217.out 2
                                        have hfz59_3 := blk_frozen BK217.out 3
                                        have p241 : 0 ≤ (0 : Int) := (by omega)
                                        have q241 : 0 < (t235.length : Int) := of_decide_eq_true (by first | (with_reducible assumption) | assumption)
                                        obtain ⟨ad241, e241, hx241_0⟩ := Kd.at_int (Kd.R_reads' HO_218003.out).2.2 0 p241 q241
                                        cases e241
                                        have qi241 : (0 < t235.length) = True := eq_true (by omega)
                                        (try rw [show ((0 : Int)).toNat = 0 from rfl] at hx241_0)
                                        (try rw [Addr.add_zero'] at hx241_0)
                                        replace p241 := eq_true p241
                                        replace q241 := eq_true q241
                                        have p242 : 0 ≤ (0 : Int) := (by omega)
                                        have q242 : 0 < (t232.length : Int) := of_decide_eq_true (by first | (with_reducible assumption) | assumption)
                                        obtain ⟨ad242, e242, hx242_0⟩ := Kd.at_bool (Kd.R_reads' HO_218002.out).2.2 0 p242 q242
                                        (try rw [← Nbq56.out] at hx242_0)
                                        cases e242
                                        have qi242 : (0 < t232.length) = True := eq_true (by omega)
                                        (try rw [show ((0 : Int)).toNat = 0 from rfl] at hx242_0)
                                        (try rw [Addr.add_zero'] at hx242_0)
                                        replace p242 := eq_true p242
                                        replace q242 := eq_true q242
                                        go_wp2
                                        go_ret
                                        exact ⟨by first | rfl | (simp [errW_none, errW_some] <;> rfl) | (simp [*, errW_none, errW_some] <;> rfl), by repeat (first | (with_reducible first | exact HB.out | apply below_alloc | apply pw_below_drewN | apply below_drew1 | refine below_set ?_ GE217.out) | exact HB.out)⟩
                                    · rw [if_neg c55] at H
                                      exact absurd H (by simp)
                                  · rw [if_neg c54] at H
                                    have c54b0 : ((t232.length : Int) == 1) = false := beq_eq_false_iff_ne.mpr c54
                                    have c54b1 : ((t232.length : Int) != 1) = true := bne_iff_ne.mpr c54
                                    obtain rfl := Option.some.inj H
                                    have hcz60_0 : wc.cell? ⟨gb217, 0, none⟩ = some (.int .i64 t230) := (blk_cell BK217.out 0).trans rfl
                                    have hcz60_1 : wc.cell? ⟨gb217, 1, none⟩ = some (.int .i64 t231) := (blk_cell BK217.out 1).trans rfl
                                    have hcz60_2 : wc.cell? ⟨gb217, 2, none⟩ = some (.slice Ao32 t232.length co32) := (blk_cell BK217.out 2).trans rfl
                                    have hcz60_3 : wc.cell? ⟨gb217, 3, none⟩ = some (.slice Ao34 t235.length co34) := (blk_cell BK217.out 3).trans rfl
                                    have hfz60_0 := blk_frozen BK217.out 0
                                    have hfz60_1 := blk_frozen BK217.out 1
                                    have hfz60_2 := blk_frozen BK217.out 2
                                    have hfz60_3 := blk_frozen BK217.out 3
                                    have p241 : 0 ≤ (0 : Int) := (by omega)
                                    have q241 : 0 < (t235.length : Int) := of_decide_eq_true (by first | (with_reducible assumption) | assumption)
                                    obtain ⟨ad241, e241, hx241_0⟩ := Kd.at_int (Kd.R_reads' HO_218003.out).2.2 0 p241 q241
                                    cases e241
                                    have qi241 : (0 < t235.length) = True := eq_true (by omega)
                                    (try rw [show ((0 : Int)).toNat = 0 from rfl] at hx241_0)
                                    (try rw [Addr.add_zero'] at hx241_0)
                                    replace p241 := eq_true p241
                                    replace q241 := eq_true q241
                                    go_wp2
                                    go_ret
                                    exact ⟨by first | rfl | (simp [errW_none, errW_some] <;> rfl) | (simp [*, errW_none, errW_some] <;> rfl), by repeat (first | (with_reducible first | exact HB.out | apply below_alloc | apply pw_below_drewN | apply below_drew1 | refine below_set ?_ GE217.out) | exact HB.out)⟩
                                · rw [if_neg c53] at H
                                  have c53b0 : ((rd t235 0) == x8_1) = false := beq_eq_false_iff_ne.mpr c53
                                  have c53b1 : ((rd t235 0) != x8_1) = true := bne_iff_ne.mpr c53
                                  obtain rfl := Option.some.inj H
                                  have hcz61_0 : wc.cell? ⟨gb217, 0, none⟩ = some (.int .i64 t230) := (blk_cell BK217.out 0).trans rfl
                                  have hcz61_1 : wc.cell? ⟨gb217, 1, none⟩ = some (.int .i64 t231) := (blk_cell BK217.out 1).trans rfl
                                  have hcz61_2 : wc.cell? ⟨gb217, 2, none⟩ = some (.slice Ao32 t232.length co32) := (blk_cell BK217.out 2).trans rfl
                                  have hcz61_3 : wc.cell? ⟨gb217, 3, none⟩ = some (.slice Ao34 t235.length co34) := (blk_cell BK217.out 3).trans rfl
                                  have hfz61_0 := blk_frozen BK217.out 0
                                  have hfz61_1 := blk_frozen BK217.out 1
                                  have hfz61_2 := blk_frozen BK217.out 2
                                  have hfz61_3 := blk_frozen BK217.out 3
                                  have p241 : 0 ≤ (0 : Int) := (by omega)
                                  have q241 : 0 < (t235.length : Int) := of_decide_eq_true (by first | (with_reducible assumption) | assumption)
                                  obtain ⟨ad241, e241, hx241_0⟩ := Kd.at_int (Kd.R_reads' HO_218003.out).2.2 0 p241 q241
                                  cases e241
                                  have qi241 : (0 < t235.length) = True := eq_true (by omega)
                                  (try rw [show ((0 : Int)).toNat = 0 from rfl] at hx241_0)
                                  (try rw [Addr.add_zero'] at hx241_0)
                                  replace p241 := eq_true p241
                                  replace q241 := eq_true q241
                                  go_wp2
                                  go_ret
                                  exact ⟨by first | rfl | (simp [errW_none, errW_some] <;> rfl) | (simp [*, errW_none, errW_some] <;> rfl), by repeat (first | (with_reducible first | exact HB.out | apply below_alloc | apply pw_below_drewN | apply below_drew1 | refine below_set ?_ GE217.out) | exact HB.out)⟩
                              · rw [if_neg c52] at H
                                exact absurd H (by simp)
                            · rw [if_neg c51] at H
                              have c51b0 : ((t235.length : Int) == 1) = false := beq_eq_false_iff_ne.mpr c51
                              have c51b1 : ((t235.length : Int) != 1) = true := bne_iff_ne.mpr c51
                              obtain rfl := Option.some.inj H
                              have hcz62_0 : wc.cell? ⟨gb217, 0, none⟩ = some (.int .i64 t230) := (blk_cell BK217.out 0).trans rfl
                              have hcz62_1 : wc.cell? ⟨gb217, 1, none⟩ = some (.int .i64 t231) := (blk_cell BK217.out 1).trans rfl
                              have hcz62_2 : wc.cell? ⟨gb217, 2, none⟩ = some (.slice Ao32 t232.length co32) := (blk_cell BK217.out 2).trans rfl
                              have hcz62_3 : wc.cell? ⟨gb217, 3, none⟩ = some (.slice Ao34 t235.length co34) := (blk_cell BK217.out 3).trans rfl
                              have hfz62_0 := blk_frozen BK217.out 0
                              have hfz62_1 := blk_frozen BK217.out 1
                              have hfz62_2 := blk_frozen BK217.out 2
                              have hfz62_3 := blk_frozen BK217.out 3
                              go_wp2
                              go_ret
                              exact ⟨by first | rfl | (simp [errW_none, errW_some] <;> rfl) | (simp [*, errW_none, errW_some] <;> rfl), by repeat (first | (with_reducible first | exact HB.out | apply below_alloc | apply pw_below_drewN | apply below_drew1 | refine below_set ?_ GE217.out) | exact HB.out)⟩
                  · rw [if_neg c18] at H
                    exact absurd H (by simp)
                · rw [if_neg c17] at H
                  exact absurd H (by simp)
          · replace c12 := Bool.eq_false_iff.mpr c12
            subst c12
            have H1 : ((debuggerlaw41_awake.f kj9).bind fun t218 => (some t218)) = some r := by rw [if_neg (show ¬ (false = true) by decide)] at H; exact H
            clear H
            have H := H1
            clear H1
            replace H := Option.bind_eq_some_iff.mp H
            obtain ⟨t218, A630, H⟩ := H
            replace H : (some t218) = some r := H
            have A63 := Aside0.mk A630
            clear A630
            obtain rfl := Option.some.inj H
            go_wp2_with (first | ((with_reducible refine gate_callee (f := 8) rfl ?_); refine goesL_ (some 84) rfl rfl Try.func8 (by kernel_rfl) rfl #[] rfl (by (try simp only [List.map_toArray, List.map_cons, List.map_nil]); first | done | rfl | (simp only [List.length_drop, List.length_take]; rfl)) ?_; (with_reducible refine (debuggerlaw41_awake.calls kj9  t218 _ A63.out).mono ?_); rintro e w64 ⟨rfl, hb⟩; refine ⟨_, rfl, ?_⟩; have n0_ := Aside0.mk (Kd.R_below (by (with_reducible repeat (first | apply Kd.R_alloc | apply Kd.R_drewN | apply Kd.R_drew)); exact HO_218002.out) hb); have n1_ := Aside0.mk (Kd.R_below (by (with_reducible repeat (first | apply Kd.R_alloc | apply Kd.R_drewN | apply Kd.R_drew)); exact HO_218003.out) hb); have n2_ := Aside0.mk (blk_below (g := gb217) (o := .cells #[.int .i64 x218000_1, .int .i64 x218001_1, u218002, u218003] 25 (0, 0)) (by (with_reducible repeat (first | refine blk_drewN ?_ _ | refine blk_drew ?_ | refine blk_alloc ?_ _)); exact BK217.out) hb); have n3_ := Aside0.mk (below_step (by repeat (first | (with_reducible first | exact HB.out | apply below_alloc | apply pw_below_drewN | apply below_drew1 | refine below_set ?_ GE217.out) | exact HB.out)) hb); clear HO_218002; clear HO_218003; clear BK217; clear HB; have HO_218002 := n0_; have HO_218003 := n1_; have BK217 := n2_; have HB := n3_; clear n0_ n1_ n2_ n3_; (try clear hb); (try clear hb2); (try clear hk); (try clear hi)))
            go_ret
            exact ⟨by first | rfl | (simp [errW_none, errW_some] <;> rfl) | (simp [*, errW_none, errW_some] <;> rfl), by repeat (first | (with_reducible first | exact HB.out | apply below_alloc | apply pw_below_drewN | apply below_drew1 | refine below_set ?_ GE217.out) | exact HB.out)⟩

end Go.Proofs.Ytgikmhpggfmcnaa.PWatchpointSees

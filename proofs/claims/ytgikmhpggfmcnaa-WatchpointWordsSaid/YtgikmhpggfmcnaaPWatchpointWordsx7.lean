/- WatchpointWords answers what its Lean function says, where that answers. Printed by a changed copy of the kit's printer in this session, then folded by share.py and flat.py: not print.sh's own text. -/
import Derived.Test.YtgikmhpggfmcnaaPWatchpointWordsx0
import Derived.Test.YtgikmhpggfmcnaaPWatchpointWordsx3
import Derived.Test.YtgikmhpggfmcnaaPWatchpointWordsx5
import Derived.Test.YtgikmhpggfmcnaaPWatchpointWordsx6
namespace Go.Proofs.Ytgikmhpggfmcnaa.PWatchpointWords
open Go.RowKit Go.Proofs.YtgikmhpggfmcnaaW.PrintWords Go.Proofs.YtgikmhpggfmcnaaW.PrintLast Go.Proofs.YtgikmhpggfmcnaaW.PrintMore
attribute [local go_sem] max2_int min2_int max_two min_two max_three min_three max_four min_four   -- for this text's walks alone
set_option linter.unusedVariables false
set_option linter.unusedSimpArgs false
set_option maxHeartbeats 8000000 in
set_option maxRecDepth 100000 in
theorem debuggerlaw41_WatchpointWords.calls (k : Nat) (A0 : Option Addr) (c0 : Nat) (l0 : List Int) (A1 : Option Addr) (c1 : Nat) (l1 : List Int) (a2 : Int) (r : Bool) (w : World) (hr0 : Kd.C (Kd.int .i64) w A0 l0.length l0) (hc0 : l0.length ≤ c0) (hr1 : Kd.C (Kd.int .i64) w A1 l1.length l1) (hc1 : l1.length ≤ c1) (h : debuggerlaw41_WatchpointWords.f k l0 l1 a2 = some r) :
    Calls Try.prog 4 #[.slice A0 l0.length c0, .slice A1 l1.length c1, .int .i64 a2] w fun e w' => e = .returned (.bool r) ∧ Below w.heap.size w w' := by
  have hu25 := Try.underlying25
  have HR0 := Aside0.mk hr0
  have HC0 := Aside0.mk hc0
  clear hr0 hc0
  have HR1 := Aside0.mk hr1
  have HC1 := Aside0.mk hc1
  clear hr1 hc1
  have HB := Aside0.mk (Below.refl w.heap.size w)
  have H : (debuggerlaw41_WatchpointWords.l0 k l0 l1 a2 (mn (mn (l0.length : Int) (l1.length : Int)) 6) false 0 3 0 ([] : List Bool) ([] : List Int) 3 0 ([] : List Bool) ([] : List Int)) = some r := h
  clear h
  obtain ⟨ji4, hji4⟩ : ∃ j_ : Int, (mn (l0.length : Int) (l1.length : Int)) = j_ := ⟨_, rfl⟩
  replace H : (debuggerlaw41_WatchpointWords.l0 k l0 l1 a2 (mn (ji4) 6) false 0 3 0 ([] : List Bool) ([] : List Int) 3 0 ([] : List Bool) ([] : List Int)) = some r := by first | (rw [hji4] at H; exact H) | (simp only [hji4] at H ⊢; exact H)
  (try (have hji4l : 0 ≤ ji4 := by (rw [← hji4]; unfold mn; (repeat' split) <;> omega)))
  (try (have hji4m : 0 ≤ ji4 := by omega))
  have hji4_ : (if (l1.length : Int) < (l0.length : Int) then (l1.length : Int) else (l0.length : Int)) = ji4 := hji4
  have hji4n : (if l1.length < l0.length then (l1.length : Int) else (l0.length : Int)) = ji4 := by rw [← hji4_]; simp only [Int.ofNat_lt]
  obtain ⟨ji5, hji5⟩ : ∃ j_ : Int, (mn (ji4) 6) = j_ := ⟨_, rfl⟩
  replace H : (debuggerlaw41_WatchpointWords.l0 k l0 l1 a2 ji5 false 0 3 0 ([] : List Bool) ([] : List Int) 3 0 ([] : List Bool) ([] : List Int)) = some r := by first | (rw [hji5] at H; exact H) | (simp only [hji5] at H ⊢; exact H)
  have hji5_ : (if 6 < (ji4) then 6 else (ji4)) = ji5 := hji5
  have H' := Aside0.mk H
  clear H
  go_enter Try.func4, Try.ntmps4
  go_wp2_with (first | ((with_reducible refine gate_dst (N := 8) rfl ?_); (try (refine gate_guard (by rfl) ?_; dsimp only)); refine box_event ?hg (N := 8) ?hd (cs := #[.int .i64 0, .int .i64 0, .slice none 0 0, .slice none 0 0]) (t := 25) ?hr ?_; (case hd => rfl); (case hg => rfl); (case hr => first | (go_simp; done) | (go_simp; rfl)); intro gb209 hg w6 hbox hb; have n0_ := Aside0.mk (below_step (by repeat (first | (with_reducible first | exact HB.out | apply below_alloc | apply pw_below_drewN | apply below_drew1) | exact HB.out)) hb); have n1_ := Aside0.mk (hbox); have n2_ := Aside0.mk ((by rw [hg]; exact (below_size (by repeat (first | (with_reducible first | exact HB.out | apply below_alloc | apply pw_below_drewN | apply below_drew1) | exact HB.out))) : w.heap.size ≤ gb209)); have n3_ := Aside0.mk ((by rw [hg]; exact (below_size (by repeat (first | (with_reducible first | exact HB.out | apply below_alloc | apply pw_below_drewN | apply below_drew1) | exact HB.out))) : w.heap.size ≤ gb209)); clear HB; have HB := n0_; have BK209 := n1_; have GW209 := n2_; have GE209 := n3_; clear n0_ n1_ n2_ n3_; clear hb hbox hg) | ((with_reducible refine gate_dst (N := 9) rfl ?_); (try (refine gate_guard (by rfl) ?_; dsimp only)); refine box_event ?hg (N := 9) ?hd (cs := #[.int .i64 0, .int .i64 0, .slice none 0 0, .slice none 0 0]) (t := 25) ?hr ?_; (case hd => rfl); (case hg => rfl); (case hr => first | (go_simp; done) | (go_simp; rfl)); intro gb210 hg w7 hbox hb; have n0_ := Aside0.mk (blk_below (g := gb209) (o := .cells #[.int .i64 0, .int .i64 0, .slice none 0 0, .slice none 0 0] 25 (0, 0)) (by (with_reducible repeat (first | refine blk_drewN ?_ _ | refine blk_drew ?_ | refine blk_alloc ?_ _)); exact BK209.out) hb); have n1_ := Aside0.mk (below_step (by repeat (first | (with_reducible first | exact HB.out | apply below_alloc | apply pw_below_drewN | apply below_drew1 | refine below_set ?_ GE209.out) | exact HB.out)) hb); have n2_ := Aside0.mk (hbox); have n3_ := Aside0.mk ((by rw [hg]; exact (below_size (by repeat (first | (with_reducible first | exact HB.out | apply below_alloc | apply pw_below_drewN | apply below_drew1 | refine below_set ?_ GE209.out) | exact HB.out))) : w.heap.size ≤ gb210)); have n4_ := Aside0.mk ((by rw [hg]; exact (below_size (by repeat (first | (with_reducible first | exact HB.out | apply below_alloc | apply pw_below_drewN | apply below_drew1 | refine below_set ?_ GE209.out) | exact HB.out))) : w.heap.size ≤ gb210)); have n5_ := Aside0.mk ((by rw [hg]; exact Nat.ne_of_lt (blk_lt (g := gb209) (o := .cells #[.int .i64 0, .int .i64 0, .slice none 0 0, .slice none 0 0] 25 (0, 0)) (by (with_reducible repeat (first | refine blk_drewN ?_ _ | refine blk_drew ?_ | refine blk_alloc ?_ _)); exact BK209.out)) : gb209 ≠ gb210)); have n6_ := Aside0.mk ((by rw [hg]; exact Nat.ne_of_gt (blk_lt (g := gb209) (o := .cells #[.int .i64 0, .int .i64 0, .slice none 0 0, .slice none 0 0] 25 (0, 0)) (by (with_reducible repeat (first | refine blk_drewN ?_ _ | refine blk_drew ?_ | refine blk_alloc ?_ _)); exact BK209.out)) : gb210 ≠ gb209)); clear BK209; clear HB; have BK209 := n0_; have HB := n1_; have BK210 := n2_; have GW210 := n3_; have GE210 := n4_; have NB209_210 := n5_; have NB210_209 := n6_; clear n0_ n1_ n2_ n3_ n4_ n5_ n6_; clear hb hbox hg; have hnb8 := NB209_210.out; have hnc8 := NB210_209.out; have hcz9_0 : w7.cell? ⟨gb209, 0, none⟩ = some (.int .i64 0) := (blk_cell BK209.out 0).trans rfl; have hcz9_1 : w7.cell? ⟨gb209, 1, none⟩ = some (.int .i64 0) := (blk_cell BK209.out 1).trans rfl; have hcz9_2 : w7.cell? ⟨gb209, 2, none⟩ = some (.slice none 0 0) := (blk_cell BK209.out 2).trans rfl; have hcz9_3 : w7.cell? ⟨gb209, 3, none⟩ = some (.slice none 0 0) := (blk_cell BK209.out 3).trans rfl; have hfz9_0 := blk_frozen BK209.out 0; have hfz9_1 := blk_frozen BK209.out 1; have hfz9_2 := blk_frozen BK209.out 2; have hfz9_3 := blk_frozen BK209.out 3; have hcz10_0 : w7.cell? ⟨gb210, 0, none⟩ = some (.int .i64 0) := (blk_cell BK210.out 0).trans rfl; have hcz10_1 : w7.cell? ⟨gb210, 1, none⟩ = some (.int .i64 0) := (blk_cell BK210.out 1).trans rfl; have hcz10_2 : w7.cell? ⟨gb210, 2, none⟩ = some (.slice none 0 0) := (blk_cell BK210.out 2).trans rfl; have hcz10_3 : w7.cell? ⟨gb210, 3, none⟩ = some (.slice none 0 0) := (blk_cell BK210.out 3).trans rfl; have hfz10_0 := blk_frozen BK210.out 0; have hfz10_1 := blk_frozen BK210.out 1; have hfz10_2 := blk_frozen BK210.out 2; have hfz10_3 := blk_frozen BK210.out 3))
  go_loopg [10, 11] k (fun kq v10 v11 w' => ∃ (x10_1 : Bool) (x11_1 : Int) (x210002_1 : List Bool) (x210003_1 : List Int) (x211002_1 : List Bool) (x211003_1 : List Int) (u210002 : Value) (u210003 : Value) (u211002 : Value) (u211003 : Value), v10 = .bool x10_1 ∧ v11 = .int .i64 x11_1 ∧ Aside0 (debuggerlaw41_WatchpointWords.l0 kq l0 l1 a2 ji5 x10_1 x11_1 3 0 x210002_1 x210003_1 3 0 x211002_1 x211003_1 = some r) ∧ Aside0 (kq ≤ k) ∧ Aside0 (Kd.R Kd.bool 4 w' w.heap.size (fun k_ => some k_ ≠ (u211002 : Value).ownBlock) u210002 x210002_1) ∧ Aside0 (Kd.R (Kd.int .i64) 3 w' w.heap.size (fun k_ => some k_ ≠ (u211003 : Value).ownBlock) u210003 x210003_1) ∧ Aside0 (Kd.R Kd.bool 4 w' w.heap.size (fun k_ => some k_ ≠ (u210002 : Value).ownBlock) u211002 x211002_1) ∧ Aside0 (Kd.R (Kd.int .i64) 3 w' w.heap.size (fun k_ => some k_ ≠ (u210003 : Value).ownBlock) u211003 x211003_1) ∧ Aside0 (w'.heap[gb209]? = some (.cells #[.int .i64 3, .int .i64 0, u210002, u210003] 25 (0, 0))) ∧ Aside0 (w'.heap[gb210]? = some (.cells #[.int .i64 3, .int .i64 0, u211002, u211003] 25 (0, 0))) ∧ Aside0 (Below w.heap.size w w'))
  case atStart => exact ⟨(false), (0), (([] : List Bool)), (([] : List Int)), (([] : List Bool)), (([] : List Int)), (.slice none 0 0), (.slice none 0 0), (.slice none 0 0), (.slice none 0 0), (by first | rfl | (simp; done) | (simp [*]; done)), (by first | rfl | (simp; done) | (simp [*]; done)), H', ⟨Nat.le_refl _⟩, ⟨by first | exact Kd.R_nil _ _ _ _ _ | exact Kd.N_nil _ _ _ _ _ | exact Kd.V_nil _ _ _ _ _ | exact Kd.Q_nil _ _ _ _ _ | exact Kd.S_nil _ _ _ _ _⟩, ⟨by first | exact Kd.R_nil _ _ _ _ _ | exact Kd.N_nil _ _ _ _ _ | exact Kd.V_nil _ _ _ _ _ | exact Kd.Q_nil _ _ _ _ _ | exact Kd.S_nil _ _ _ _ _⟩, ⟨by first | exact Kd.R_nil _ _ _ _ _ | exact Kd.N_nil _ _ _ _ _ | exact Kd.V_nil _ _ _ _ _ | exact Kd.Q_nil _ _ _ _ _ | exact Kd.S_nil _ _ _ _ _⟩, ⟨by first | exact Kd.R_nil _ _ _ _ _ | exact Kd.N_nil _ _ _ _ _ | exact Kd.V_nil _ _ _ _ _ | exact Kd.Q_nil _ _ _ _ _ | exact Kd.S_nil _ _ _ _ _⟩, ⟨by (with_reducible repeat (first | refine blk_drewN ?_ _ | refine blk_drew ?_ | refine blk_alloc ?_ _)); refine blk_far ?_ NB209_210.out _; (with_reducible repeat (first | refine blk_drewN ?_ _ | refine blk_drew ?_ | refine blk_alloc ?_ _)); refine blk_far ?_ NB209_210.out _; (with_reducible repeat (first | refine blk_drewN ?_ _ | refine blk_drew ?_ | refine blk_alloc ?_ _)); refine blk_far ?_ NB209_210.out _; (with_reducible repeat (first | refine blk_drewN ?_ _ | refine blk_drew ?_ | refine blk_alloc ?_ _)); refine blk_far ?_ NB209_210.out _; (with_reducible repeat (first | refine blk_drewN ?_ _ | refine blk_drew ?_ | refine blk_alloc ?_ _)); refine blk_put (cs := #[.int .i64 3, .int .i64 0, .slice none 0 0, .slice none 0 0]) ?_ 3 _ rfl; (with_reducible repeat (first | refine blk_drewN ?_ _ | refine blk_drew ?_ | refine blk_alloc ?_ _)); refine blk_put (cs := #[.int .i64 3, .int .i64 0, .slice none 0 0, .slice none 0 0]) ?_ 2 _ rfl; (with_reducible repeat (first | refine blk_drewN ?_ _ | refine blk_drew ?_ | refine blk_alloc ?_ _)); refine blk_put (cs := #[.int .i64 3, .int .i64 0, .slice none 0 0, .slice none 0 0]) ?_ 1 _ rfl; (with_reducible repeat (first | refine blk_drewN ?_ _ | refine blk_drew ?_ | refine blk_alloc ?_ _)); refine blk_put (cs := #[.int .i64 0, .int .i64 0, .slice none 0 0, .slice none 0 0]) ?_ 0 _ rfl; (with_reducible repeat (first | refine blk_drewN ?_ _ | refine blk_drew ?_ | refine blk_alloc ?_ _)); exact BK209.out⟩, ⟨by (with_reducible repeat (first | refine blk_drewN ?_ _ | refine blk_drew ?_ | refine blk_alloc ?_ _)); refine blk_put (cs := #[.int .i64 3, .int .i64 0, .slice none 0 0, .slice none 0 0]) ?_ 3 _ rfl; (with_reducible repeat (first | refine blk_drewN ?_ _ | refine blk_drew ?_ | refine blk_alloc ?_ _)); refine blk_put (cs := #[.int .i64 3, .int .i64 0, .slice none 0 0, .slice none 0 0]) ?_ 2 _ rfl; (with_reducible repeat (first | refine blk_drewN ?_ _ | refine blk_drew ?_ | refine blk_alloc ?_ _)); refine blk_put (cs := #[.int .i64 3, .int .i64 0, .slice none 0 0, .slice none 0 0]) ?_ 1 _ rfl; (with_reducible repeat (first | refine blk_drewN ?_ _ | refine blk_drew ?_ | refine blk_alloc ?_ _)); refine blk_put (cs := #[.int .i64 0, .int .i64 0, .slice none 0 0, .slice none 0 0]) ?_ 0 _ rfl; (with_reducible repeat (first | refine blk_drewN ?_ _ | refine blk_drew ?_ | refine blk_alloc ?_ _)); refine blk_far ?_ NB210_209.out _; (with_reducible repeat (first | refine blk_drewN ?_ _ | refine blk_drew ?_ | refine blk_alloc ?_ _)); refine blk_far ?_ NB210_209.out _; (with_reducible repeat (first | refine blk_drewN ?_ _ | refine blk_drew ?_ | refine blk_alloc ?_ _)); refine blk_far ?_ NB210_209.out _; (with_reducible repeat (first | refine blk_drewN ?_ _ | refine blk_drew ?_ | refine blk_alloc ?_ _)); refine blk_far ?_ NB210_209.out _; (with_reducible repeat (first | refine blk_drewN ?_ _ | refine blk_drew ?_ | refine blk_alloc ?_ _)); exact BK210.out⟩, ⟨by repeat (first | (with_reducible first | exact HB.out | apply below_alloc | apply pw_below_drewN | apply below_drew1 | refine below_set ?_ GE209.out | refine below_set ?_ GE210.out) | exact HB.out)⟩⟩
  case round =>
    clear H'
    try clear c1
    try clear p2
    try clear c4
    try clear c8
    try clear hcz10_0
    try clear hcz10_1
    try clear hcz10_2
    try clear hcz10_3
    try clear hcz9_0
    try clear hcz9_1
    try clear hcz9_2
    try clear hcz9_3
    try clear hfz10_0
    try clear hfz10_1
    try clear hfz10_2
    try clear hfz10_3
    try clear hfz9_0
    try clear hfz9_1
    try clear hfz9_2
    try clear hfz9_3
    obtain ⟨x10_1, x11_1, x210002_1, x210003_1, x211002_1, x211003_1, u210002, u210003, u211002, u211003, rfl, rfl, HA, HK1, HO_210002, HO_210003, HO_211002, HO_211003, BK209, BK210, HB⟩ := hrel
    cases gk with
    | zero => exact absurd HA.out (by simp [debuggerlaw41_WatchpointWords.l0])
    | succ k1 =>
      have H := HA.out
      clear HA
      simp only [debuggerlaw41_WatchpointWords.l0] at H
      by_cases c11 : x11_1 < ji5
      · rw [if_pos c11] at H
        have c11b0 : decide (x11_1 < ji5) = true := decide_eq_true c11
        clear c11
        obtain ⟨ji12, hji12⟩ : ∃ j_ : Int, (IntKind.u64.wrap (x11_1)) = j_ := ⟨_, rfl⟩
        replace H : (if 0 ≤ (ji12) then ((some (([true] : List Bool) : List Bool)).bind fun y211 => (if x210002_1.length + y211.length < 140737488355328 then ((some (x210002_1 ++ y211 : List Bool)).bind fun y214 => (if 0 ≤ x11_1 then (if x11_1 < (l0.length : Int) then ((some (([rd l0 x11_1] : List Int) : List Int)).bind fun y218 => (if x210003_1.length + y218.length < 17592186044416 then ((some (x210003_1 ++ y218 : List Int)).bind fun y221 => ((some (([((Go.bits .and .i64 (shr .i64 a2 (ji12)) 1) == 0)] : List Bool) : List Bool)).bind fun y224 => (if x211002_1.length + y224.length < 140737488355328 then ((some (x211002_1 ++ y224 : List Bool)).bind fun y227 => (if x11_1 < (l1.length : Int) then ((some (([rd l1 x11_1] : List Int) : List Int)).bind fun y231 => (if x211003_1.length + y231.length < 17592186044416 then ((some (x211003_1 ++ y231 : List Int)).bind fun y234 => (if x10_1 = true then (debuggerlaw41_WatchpointWords.l0 k1 l0 l1 a2 ji5 true (wrap64 (x11_1 + 1)) 3 0 y214 y221 3 0 y227 y234) else (if (Go.bits .and .i64 (shr .i64 a2 (ji12)) 1) = 0 then (debuggerlaw41_WatchpointWords.l0 k1 l0 l1 a2 ji5 ((rd l0 x11_1) != (rd l1 x11_1)) (wrap64 (x11_1 + 1)) 3 0 y214 y221 3 0 y227 y234) else (debuggerlaw41_WatchpointWords.l0 k1 l0 l1 a2 ji5 false (wrap64 (x11_1 + 1)) 3 0 y214 y221 3 0 y227 y234)))) else (none))) else (none))) else (none)))) else (none))) else (none)) else (none))) else (none))) else (none)) = some r := by first | (rw [hji12] at H; exact H) | (simp only [hji12] at H ⊢; exact H)
        by_cases c13 : 0 ≤ (ji12)
        rotate_left
        · rw [if_neg c13] at H
          exact absurd H (by simp)
        rw [if_pos c13] at H
        have c13b0 := eq_true c13
        have c13b1 : decide (0 ≤ (ji12)) = true := decide_eq_true c13
        clear c13
        obtain ⟨ji14, hji14⟩ : ∃ j_ : Int, (shr .i64 a2 (ji12)) = j_ := ⟨_, rfl⟩
        replace H : ((some (([true] : List Bool) : List Bool)).bind fun y211 => (if x210002_1.length + y211.length < 140737488355328 then ((some (x210002_1 ++ y211 : List Bool)).bind fun y214 => (if 0 ≤ x11_1 then (if x11_1 < (l0.length : Int) then ((some (([rd l0 x11_1] : List Int) : List Int)).bind fun y218 => (if x210003_1.length + y218.length < 17592186044416 then ((some (x210003_1 ++ y218 : List Int)).bind fun y221 => ((some (([((Go.bits .and .i64 (ji14) 1) == 0)] : List Bool) : List Bool)).bind fun y224 => (if x211002_1.length + y224.length < 140737488355328 then ((some (x211002_1 ++ y224 : List Bool)).bind fun y227 => (if x11_1 < (l1.length : Int) then ((some (([rd l1 x11_1] : List Int) : List Int)).bind fun y231 => (if x211003_1.length + y231.length < 17592186044416 then ((some (x211003_1 ++ y231 : List Int)).bind fun y234 => (if x10_1 = true then (debuggerlaw41_WatchpointWords.l0 k1 l0 l1 a2 ji5 true (wrap64 (x11_1 + 1)) 3 0 y214 y221 3 0 y227 y234) else (if (Go.bits .and .i64 (ji14) 1) = 0 then (debuggerlaw41_WatchpointWords.l0 k1 l0 l1 a2 ji5 ((rd l0 x11_1) != (rd l1 x11_1)) (wrap64 (x11_1 + 1)) 3 0 y214 y221 3 0 y227 y234) else (debuggerlaw41_WatchpointWords.l0 k1 l0 l1 a2 ji5 false (wrap64 (x11_1 + 1)) 3 0 y214 y221 3 0 y227 y234)))) else (none))) else (none))) else (none)))) else (none))) else (none)) else (none))) else (none))) = some r := by first | (rw [hji14] at H; exact H) | (simp only [hji14] at H ⊢; exact H)
        have hji14_ : (a2 / 2 ^ min (ji12).toNat 64) = ji14 := hji14
        have hji14z : (ji12) ≤ 64 → (a2 / 2 ^ (ji12).toNat) = ji14 := shr_small hji14
        obtain ⟨y211, hy211⟩ : ∃ y_ : List Bool, y_ = (([true] : List Bool)) := ⟨_, rfl⟩
        replace H : (if x210002_1.length + y211.length < 140737488355328 then ((some (x210002_1 ++ y211 : List Bool)).bind fun y214 => (if 0 ≤ x11_1 then (if x11_1 < (l0.length : Int) then ((some (([rd l0 x11_1] : List Int) : List Int)).bind fun y218 => (if x210003_1.length + y218.length < 17592186044416 then ((some (x210003_1 ++ y218 : List Int)).bind fun y221 => ((some (([((Go.bits .and .i64 (ji14) 1) == 0)] : List Bool) : List Bool)).bind fun y224 => (if x211002_1.length + y224.length < 140737488355328 then ((some (x211002_1 ++ y224 : List Bool)).bind fun y227 => (if x11_1 < (l1.length : Int) then ((some (([rd l1 x11_1] : List Int) : List Int)).bind fun y231 => (if x211003_1.length + y231.length < 17592186044416 then ((some (x211003_1 ++ y231 : List Int)).bind fun y234 => (if x10_1 = true then (debuggerlaw41_WatchpointWords.l0 k1 l0 l1 a2 ji5 true (wrap64 (x11_1 + 1)) 3 0 y214 y221 3 0 y227 y234) else (if (Go.bits .and .i64 (ji14) 1) = 0 then (debuggerlaw41_WatchpointWords.l0 k1 l0 l1 a2 ji5 ((rd l0 x11_1) != (rd l1 x11_1)) (wrap64 (x11_1 + 1)) 3 0 y214 y221 3 0 y227 y234) else (debuggerlaw41_WatchpointWords.l0 k1 l0 l1 a2 ji5 false (wrap64 (x11_1 + 1)) 3 0 y214 y221 3 0 y227 y234)))) else (none))) else (none))) else (none)))) else (none))) else (none)) else (none))) else (none)) = some r := by first | (rw [hy211]; with_reducible exact H) | (have H2_ := (Option.bind_some _ _).symm.trans H; rw [hy211]; with_reducible exact H2_) | (have H2_ := (Option.bind_some _ _).symm.trans H; with_reducible exact H2_) | with_reducible exact H | (rw [hy211]; exact H) | exact H
        have Ny211 := Aside0.mk hy211
        clear hy211
        by_cases c15 : x210002_1.length + y211.length < 140737488355328
        rotate_left
        · rw [if_neg c15] at H
          exact absurd H (by simp)
        rw [if_pos c15] at H
        have LMc15 := Aside0.mk c15
        clear c15
        obtain ⟨y214, hy214⟩ : ∃ y_ : List Bool, y_ = (x210002_1 ++ y211) := ⟨_, rfl⟩
        replace H : (if 0 ≤ x11_1 then (if x11_1 < (l0.length : Int) then ((some (([rd l0 x11_1] : List Int) : List Int)).bind fun y218 => (if x210003_1.length + y218.length < 17592186044416 then ((some (x210003_1 ++ y218 : List Int)).bind fun y221 => ((some (([((Go.bits .and .i64 (ji14) 1) == 0)] : List Bool) : List Bool)).bind fun y224 => (if x211002_1.length + y224.length < 140737488355328 then ((some (x211002_1 ++ y224 : List Bool)).bind fun y227 => (if x11_1 < (l1.length : Int) then ((some (([rd l1 x11_1] : List Int) : List Int)).bind fun y231 => (if x211003_1.length + y231.length < 17592186044416 then ((some (x211003_1 ++ y231 : List Int)).bind fun y234 => (if x10_1 = true then (debuggerlaw41_WatchpointWords.l0 k1 l0 l1 a2 ji5 true (wrap64 (x11_1 + 1)) 3 0 y214 y221 3 0 y227 y234) else (if (Go.bits .and .i64 (ji14) 1) = 0 then (debuggerlaw41_WatchpointWords.l0 k1 l0 l1 a2 ji5 ((rd l0 x11_1) != (rd l1 x11_1)) (wrap64 (x11_1 + 1)) 3 0 y214 y221 3 0 y227 y234) else (debuggerlaw41_WatchpointWords.l0 k1 l0 l1 a2 ji5 false (wrap64 (x11_1 + 1)) 3 0 y214 y221 3 0 y227 y234)))) else (none))) else (none))) else (none)))) else (none))) else (none)) else (none)) = some r := by first | (rw [hy214]; with_reducible exact H) | (have H2_ := (Option.bind_some _ _).symm.trans H; rw [hy214]; with_reducible exact H2_) | (have H2_ := (Option.bind_some _ _).symm.trans H; with_reducible exact H2_) | with_reducible exact H | (rw [hy214]; exact H) | exact H
        have Ny214 := Aside0.mk hy214
        clear hy214
        by_cases c16 : 0 ≤ x11_1
        rotate_left
        · rw [if_neg c16] at H
          exact absurd H (by simp)
        rw [if_pos c16] at H
        have c16b0 : decide (0 ≤ x11_1) = true := decide_eq_true c16
        clear c16
        by_cases c17 : x11_1 < (l0.length : Int)
        rotate_left
        · rw [if_neg c17] at H
          exact absurd H (by simp)
        rw [if_pos c17] at H
        have c17b0 : decide (x11_1 < (l0.length : Int)) = true := decide_eq_true c17
        clear c17
        obtain ⟨y218, hy218⟩ : ∃ y_ : List Int, y_ = (([rd l0 x11_1] : List Int)) := ⟨_, rfl⟩
        replace H : (if x210003_1.length + y218.length < 17592186044416 then ((some (x210003_1 ++ y218 : List Int)).bind fun y221 => ((some (([((Go.bits .and .i64 (ji14) 1) == 0)] : List Bool) : List Bool)).bind fun y224 => (if x211002_1.length + y224.length < 140737488355328 then ((some (x211002_1 ++ y224 : List Bool)).bind fun y227 => (if x11_1 < (l1.length : Int) then ((some (([rd l1 x11_1] : List Int) : List Int)).bind fun y231 => (if x211003_1.length + y231.length < 17592186044416 then ((some (x211003_1 ++ y231 : List Int)).bind fun y234 => (if x10_1 = true then (debuggerlaw41_WatchpointWords.l0 k1 l0 l1 a2 ji5 true (wrap64 (x11_1 + 1)) 3 0 y214 y221 3 0 y227 y234) else (if (Go.bits .and .i64 (ji14) 1) = 0 then (debuggerlaw41_WatchpointWords.l0 k1 l0 l1 a2 ji5 ((rd l0 x11_1) != (rd l1 x11_1)) (wrap64 (x11_1 + 1)) 3 0 y214 y221 3 0 y227 y234) else (debuggerlaw41_WatchpointWords.l0 k1 l0 l1 a2 ji5 false (wrap64 (x11_1 + 1)) 3 0 y214 y221 3 0 y227 y234)))) else (none))) else (none))) else (none)))) else (none)) = some r := by first | (rw [hy218]; with_reducible exact H) | (have H2_ := (Option.bind_some _ _).symm.trans H; rw [hy218]; with_reducible exact H2_) | (have H2_ := (Option.bind_some _ _).symm.trans H; with_reducible exact H2_) | with_reducible exact H | (rw [hy218]; exact H) | exact H
        have Ny218 := Aside0.mk hy218
        clear hy218
        by_cases c18 : x210003_1.length + y218.length < 17592186044416
        rotate_left
        · rw [if_neg c18] at H
          exact absurd H (by simp)
        rw [if_pos c18] at H
        have LMc18 := Aside0.mk c18
        clear c18
        obtain ⟨y221, hy221⟩ : ∃ y_ : List Int, y_ = (x210003_1 ++ y218) := ⟨_, rfl⟩
        replace H : ((some (([((Go.bits .and .i64 (ji14) 1) == 0)] : List Bool) : List Bool)).bind fun y224 => (if x211002_1.length + y224.length < 140737488355328 then ((some (x211002_1 ++ y224 : List Bool)).bind fun y227 => (if x11_1 < (l1.length : Int) then ((some (([rd l1 x11_1] : List Int) : List Int)).bind fun y231 => (if x211003_1.length + y231.length < 17592186044416 then ((some (x211003_1 ++ y231 : List Int)).bind fun y234 => (if x10_1 = true then (debuggerlaw41_WatchpointWords.l0 k1 l0 l1 a2 ji5 true (wrap64 (x11_1 + 1)) 3 0 y214 y221 3 0 y227 y234) else (if (Go.bits .and .i64 (ji14) 1) = 0 then (debuggerlaw41_WatchpointWords.l0 k1 l0 l1 a2 ji5 ((rd l0 x11_1) != (rd l1 x11_1)) (wrap64 (x11_1 + 1)) 3 0 y214 y221 3 0 y227 y234) else (debuggerlaw41_WatchpointWords.l0 k1 l0 l1 a2 ji5 false (wrap64 (x11_1 + 1)) 3 0 y214 y221 3 0 y227 y234)))) else (none))) else (none))) else (none))) = some r := by first | (rw [hy221]; with_reducible exact H) | (have H2_ := (Option.bind_some _ _).symm.trans H; rw [hy221]; with_reducible exact H2_) | (have H2_ := (Option.bind_some _ _).symm.trans H; with_reducible exact H2_) | with_reducible exact H | (rw [hy221]; exact H) | exact H
        have Ny221 := Aside0.mk hy221
        clear hy221
        obtain ⟨y224, hy224⟩ : ∃ y_ : List Bool, y_ = (([((Go.bits .and .i64 (ji14) 1) == 0)] : List Bool)) := ⟨_, rfl⟩
        replace H : (if x211002_1.length + y224.length < 140737488355328 then ((some (x211002_1 ++ y224 : List Bool)).bind fun y227 => (if x11_1 < (l1.length : Int) then ((some (([rd l1 x11_1] : List Int) : List Int)).bind fun y231 => (if x211003_1.length + y231.length < 17592186044416 then ((some (x211003_1 ++ y231 : List Int)).bind fun y234 => (if x10_1 = true then (debuggerlaw41_WatchpointWords.l0 k1 l0 l1 a2 ji5 true (wrap64 (x11_1 + 1)) 3 0 y214 y221 3 0 y227 y234) else (if (Go.bits .and .i64 (ji14) 1) = 0 then (debuggerlaw41_WatchpointWords.l0 k1 l0 l1 a2 ji5 ((rd l0 x11_1) != (rd l1 x11_1)) (wrap64 (x11_1 + 1)) 3 0 y214 y221 3 0 y227 y234) else (debuggerlaw41_WatchpointWords.l0 k1 l0 l1 a2 ji5 false (wrap64 (x11_1 + 1)) 3 0 y214 y221 3 0 y227 y234)))) else (none))) else (none))) else (none)) = some r := by first | (rw [hy224]; with_reducible exact H) | (have H2_ := (Option.bind_some _ _).symm.trans H; rw [hy224]; with_reducible exact H2_) | (have H2_ := (Option.bind_some _ _).symm.trans H; with_reducible exact H2_) | with_reducible exact H | (rw [hy224]; exact H) | exact H
        have Ny224 := Aside0.mk hy224
        clear hy224
        by_cases c19 : x211002_1.length + y224.length < 140737488355328
        rotate_left
        · rw [if_neg c19] at H
          exact absurd H (by simp)
        rw [if_pos c19] at H
        have LMc19 := Aside0.mk c19
        clear c19
        obtain ⟨y227, hy227⟩ : ∃ y_ : List Bool, y_ = (x211002_1 ++ y224) := ⟨_, rfl⟩
        replace H : (if x11_1 < (l1.length : Int) then ((some (([rd l1 x11_1] : List Int) : List Int)).bind fun y231 => (if x211003_1.length + y231.length < 17592186044416 then ((some (x211003_1 ++ y231 : List Int)).bind fun y234 => (if x10_1 = true then (debuggerlaw41_WatchpointWords.l0 k1 l0 l1 a2 ji5 true (wrap64 (x11_1 + 1)) 3 0 y214 y221 3 0 y227 y234) else (if (Go.bits .and .i64 (ji14) 1) = 0 then (debuggerlaw41_WatchpointWords.l0 k1 l0 l1 a2 ji5 ((rd l0 x11_1) != (rd l1 x11_1)) (wrap64 (x11_1 + 1)) 3 0 y214 y221 3 0 y227 y234) else (debuggerlaw41_WatchpointWords.l0 k1 l0 l1 a2 ji5 false (wrap64 (x11_1 + 1)) 3 0 y214 y221 3 0 y227 y234)))) else (none))) else (none)) = some r := by first | (rw [hy227]; with_reducible exact H) | (have H2_ := (Option.bind_some _ _).symm.trans H; rw [hy227]; with_reducible exact H2_) | (have H2_ := (Option.bind_some _ _).symm.trans H; with_reducible exact H2_) | with_reducible exact H | (rw [hy227]; exact H) | exact H
        have Ny227 := Aside0.mk hy227
        clear hy227
        by_cases c20 : x11_1 < (l1.length : Int)
        rotate_left
        · rw [if_neg c20] at H
          exact absurd H (by simp)
        rw [if_pos c20] at H
        have c20b0 : decide (x11_1 < (l1.length : Int)) = true := decide_eq_true c20
        clear c20
        obtain ⟨y231, hy231⟩ : ∃ y_ : List Int, y_ = (([rd l1 x11_1] : List Int)) := ⟨_, rfl⟩
        replace H : (if x211003_1.length + y231.length < 17592186044416 then ((some (x211003_1 ++ y231 : List Int)).bind fun y234 => (if x10_1 = true then (debuggerlaw41_WatchpointWords.l0 k1 l0 l1 a2 ji5 true (wrap64 (x11_1 + 1)) 3 0 y214 y221 3 0 y227 y234) else (if (Go.bits .and .i64 (ji14) 1) = 0 then (debuggerlaw41_WatchpointWords.l0 k1 l0 l1 a2 ji5 ((rd l0 x11_1) != (rd l1 x11_1)) (wrap64 (x11_1 + 1)) 3 0 y214 y221 3 0 y227 y234) else (debuggerlaw41_WatchpointWords.l0 k1 l0 l1 a2 ji5 false (wrap64 (x11_1 + 1)) 3 0 y214 y221 3 0 y227 y234)))) else (none)) = some r := by first | (rw [hy231]; with_reducible exact H) | (have H2_ := (Option.bind_some _ _).symm.trans H; rw [hy231]; with_reducible exact H2_) | (have H2_ := (Option.bind_some _ _).symm.trans H; with_reducible exact H2_) | with_reducible exact H | (rw [hy231]; exact H) | exact H
        have Ny231 := Aside0.mk hy231
        clear hy231
        by_cases c21 : x211003_1.length + y231.length < 17592186044416
        rotate_left
        · rw [if_neg c21] at H
          exact absurd H (by simp)
        rw [if_pos c21] at H
        have LMc21 := Aside0.mk c21
        clear c21
        obtain ⟨y234, hy234⟩ : ∃ y_ : List Int, y_ = (x211003_1 ++ y231) := ⟨_, rfl⟩
        replace H : (if x10_1 = true then (debuggerlaw41_WatchpointWords.l0 k1 l0 l1 a2 ji5 true (wrap64 (x11_1 + 1)) 3 0 y214 y221 3 0 y227 y234) else (if (Go.bits .and .i64 (ji14) 1) = 0 then (debuggerlaw41_WatchpointWords.l0 k1 l0 l1 a2 ji5 ((rd l0 x11_1) != (rd l1 x11_1)) (wrap64 (x11_1 + 1)) 3 0 y214 y221 3 0 y227 y234) else (debuggerlaw41_WatchpointWords.l0 k1 l0 l1 a2 ji5 false (wrap64 (x11_1 + 1)) 3 0 y214 y221 3 0 y227 y234))) = some r := by first | (rw [hy234]; with_reducible exact H) | (have H2_ := (Option.bind_some _ _).symm.trans H; rw [hy234]; with_reducible exact H2_) | (have H2_ := (Option.bind_some _ _).symm.trans H; with_reducible exact H2_) | with_reducible exact H | (rw [hy234]; exact H) | exact H
        have Ny234 := Aside0.mk hy234
        clear hy234
        have HSV_ := Aside0.mk H
        clear H
        obtain ⟨Ao23, co23, eo23⟩ := Kd.R_slice HO_210002.out
        subst eo23
        obtain ⟨Ao24, co24, eo24⟩ := Kd.R_slice HO_210003.out
        subst eo24
        try go_wp2
        have n0_ := Aside0.mk (Kd.R_drew HO_210002.out)
        have n1_ := Aside0.mk (Kd.R_drew HO_210003.out)
        have n2_ := Aside0.mk (Kd.R_drew HO_211002.out)
        have n3_ := Aside0.mk (Kd.R_drew HO_211003.out)
        have n4_ := Aside0.mk (blk_drew BK209.out)
        have n5_ := Aside0.mk (blk_drew BK210.out)
        have n6_ := Aside0.mk (below_drew1 HB.out)
        clear HO_210002
        clear HO_210003
        clear HO_211002
        clear HO_211003
        clear BK209
        clear BK210
        clear HB
        have HO_210002 := n0_
        have HO_210003 := n1_
        have HO_211002 := n2_
        have HO_211003 := n3_
        have BK209 := n4_
        have BK210 := n5_
        have HB := n6_
        clear n0_ n1_ n2_ n3_ n4_ n5_ n6_
        have p217 : 0 ≤ (x11_1 : Int) := of_decide_eq_true (by first | (with_reducible assumption) | assumption)
        have q217 : x11_1 < (l0.length : Int) := of_decide_eq_true (by first | (with_reducible assumption) | assumption)
        obtain ⟨ad217, e217, hx217_0⟩ := Kd.at_int HR0.out x11_1 p217 q217
        have hw217_0 := hx217_0
        cases e217
        replace hx217_0 := (HB.out.cell (World.block_lt_of_cell? w _ hx217_0)).trans hx217_0
        replace p217 := eq_true p217
        replace q217 := eq_true q217
        refine start_ (n := 16) (S := fun w' => w'.cell? ⟨gb209, 0, none⟩ = some (.int .i64 3) ∧ w'.cell? ⟨gb209, 1, none⟩ = some (.int .i64 0) ∧ w'.cell? ⟨gb209, 2, none⟩ = some (.slice Ao23 x210002_1.length co23) ∧ w'.cell? ⟨gb209, 3, none⟩ = some (.slice Ao24 x210003_1.length co24) ∧ w'.cell? (ad217.add (x11_1).toNat) = some (.int .i64 (rd l0 x11_1))) (ds := [13, 15]) #[false, false, false, false, false, false, false, false, false, false, false, false, false, false, false, false] (by kernel_rfl) rfl rfl ⟨(blk_cell BK209.out 0).trans rfl, (blk_cell BK209.out 1).trans rfl, (blk_cell BK209.out 2).trans rfl, (blk_cell BK209.out 3).trans rfl, ((HB.out.cell (World.block_lt_of_cell? w _ hw217_0)).trans hw217_0)⟩ (fun hHeld => ?_); refine with_tabW debuggerlaw41_WatchpointWords.tab8 debuggerlaw41_WatchpointWords.bits8 (fun HT_ HW_ => ?_)
        generalize wr.drew = w25 at HO_210002 HO_210003 HO_211002 HO_211003 BK209 BK210 HB hx217_0 hHeld ⊢
        refine pure_ (i := 0) (N := some 35) (v := ?_) (a' := ?_) #[true, false, false, false, false, false, false, false, false, false, false, false, false, false, false, false] rfl rfl (any_of HT_.out (by kernel_rfl)) (fun _ _ _ h => h) (Or.inl ⟨by rfl, ?_⟩) ?_ ?_
        rotate_left
        · intro w'
          go_simp
          with_reducible rfl
        rotate_left
        · simp only [Act.put, List.setIfInBounds_toArray, List.set_cons_zero, List.set_cons_succ, i64_w, i32_w]
          rfl
        refine pure_ (i := 4) (N := some 39) (v := ?_) (a' := ?_) #[true, false, false, false, true, false, false, false, false, false, false, false, false, false, false, false] rfl rfl (any_of HT_.out (by kernel_rfl)) (fun _ _ _ h => h) (Or.inl ⟨by rfl, ?_⟩) ?_ ?_
        rotate_left
        · intro w'
          go_simp
          with_reducible rfl
        rotate_left
        · simp only [Act.put, List.setIfInBounds_toArray, List.set_cons_zero, List.set_cons_succ, i64_w, i32_w]
          rfl
        refine pure_ (i := 6) (N := some 41) (v := ?_) (a' := ?_) #[true, false, false, false, true, false, true, false, false, false, false, false, false, false, false, false] rfl rfl (any_of HT_.out (by kernel_rfl)) (fun _ _ _ h => h) (Or.inl ⟨by rfl, ?_⟩) ?_ ?_
        rotate_left
        · intro w'
          go_simp
          with_reducible rfl
        rotate_left
        · simp only [Act.put, List.setIfInBounds_toArray, List.set_cons_zero, List.set_cons_succ, i64_w, i32_w]
          rfl
        refine pure_ (i := 7) (N := some 42) (v := ?_) (a' := ?_) #[true, false, false, false, true, false, true, true, false, false, false, false, false, false, false, false] rfl rfl (any_of HT_.out (by kernel_rfl)) (fun _ _ _ h => h) (Or.inl ⟨by rfl, ?_⟩) ?_ ?_
        rotate_left
        · intro w'
          go_simp
          with_reducible rfl
        rotate_left
        · simp only [Act.put, List.setIfInBounds_toArray, List.set_cons_zero, List.set_cons_succ, i64_w, i32_w]
          rfl
        refine pure_ (i := 8) (N := some 43) (v := ?_) (a' := ?_) #[true, false, false, false, true, false, true, true, true, false, false, false, false, false, false, false] rfl rfl (any_of HT_.out (by kernel_rfl)) (fun _ _ _ h => h) (Or.inl ⟨by rfl, ?_⟩) ?_ ?_
        rotate_left
        · intro w'
          go_simp
          with_reducible rfl
        rotate_left
        · simp only [Act.put, List.setIfInBounds_toArray, List.set_cons_zero, List.set_cons_succ, i64_w, i32_w]
          rfl
        refine take_ (i := 1) (N := some 36) (v := ?_) (a' := ?_) #[true, true, false, false, true, false, true, true, true, false, false, false, false, false, false, false] rfl rfl (take_ofW HT_.out HW_.out (by kernel_rfl)) (fun _ _ _ h => h) (Or.inl ⟨by rfl, ?_⟩) hHeld ?_ ?_
        rotate_left
        · rintro w' ⟨s0, s1, s2, s3, s4⟩
          go_simp
          with_reducible rfl
        rotate_left
        · simp only [Act.put, List.setIfInBounds_toArray, List.set_cons_zero, List.set_cons_succ, i64_w, i32_w]
          rfl
        refine take_ (i := 5) (N := some 40) (v := ?_) (a' := ?_) #[true, true, false, false, true, true, true, true, true, false, false, false, false, false, false, false] rfl rfl (take_ofW HT_.out HW_.out (by kernel_rfl)) (fun _ _ _ h => h) (Or.inl ⟨by rfl, ?_⟩) hHeld ?_ ?_
        rotate_left
        · rintro w' ⟨s0, s1, s2, s3, s4⟩
          go_simp
          with_reducible rfl
        rotate_left
        · simp only [Act.put, List.setIfInBounds_toArray, List.set_cons_zero, List.set_cons_succ, i64_w, i32_w]
          rfl
        refine take_ (i := 9) (N := some 44) (v := ?_) (a' := ?_) #[true, true, false, false, true, true, true, true, true, true, false, false, false, false, false, false] rfl rfl (take_ofW HT_.out HW_.out (by kernel_rfl)) (fun _ _ _ h => h) (Or.inl ⟨by rfl, ?_⟩) hHeld ?_ ?_
        rotate_left
        · rintro w' ⟨s0, s1, s2, s3, s4⟩
          go_simp
          with_reducible rfl
        rotate_left
        · simp only [Act.put, List.setIfInBounds_toArray, List.set_cons_zero, List.set_cons_succ, i64_w, i32_w]
          rfl
        refine join_ (σ := Value × Value × Value) 4 #[true, true, true, true, true, true, true, true, true, true, true, false, true, false, false, false] (fun s_ => [(37, s_.1), (38, s_.2.1), (45, s_.2.2), (47, .pointer (some ⟨gb209, 2, none⟩))]) (fun s_ w' => (w'.cell? ⟨gb209, 0, none⟩ = some (.int .i64 3) ∧ w'.cell? ⟨gb209, 1, none⟩ = some (.int .i64 0) ∧ w'.cell? ⟨gb209, 2, none⟩ = some (.slice Ao23 x210002_1.length co23) ∧ w'.cell? ⟨gb209, 3, none⟩ = some (.slice Ao24 x210003_1.length co24) ∧ w'.cell? (ad217.add (x11_1).toNat) = some (.int .i64 (rd l0 x11_1))) ∧ (Kd.R Kd.bool 4 w' w.heap.size (fun k_ => some k_ ≠ (s_.2.1 : Value).ownBlock ∧ some k_ ≠ (u211002 : Value).ownBlock) s_.1 y211) ∧ (Kd.R Kd.bool 4 w' w.heap.size (fun k_ => some k_ ≠ (s_.1 : Value).ownBlock ∧ some k_ ≠ (u211002 : Value).ownBlock) s_.2.1 y214) ∧ (Kd.R (Kd.int .i64) 3 w' w.heap.size (fun k_ => some k_ ≠ (.slice Ao24 x210003_1.length co24 : Value).ownBlock ∧ some k_ ≠ (u211003 : Value).ownBlock) s_.2.2 y218) ∧ (Kd.R (Kd.int .i64) 3 w' w.heap.size (fun k_ => some k_ ≠ (s_.2.2 : Value).ownBlock ∧ some k_ ≠ (u211003 : Value).ownBlock) (.slice Ao24 x210003_1.length co24) x210003_1) ∧ (Kd.R Kd.bool 4 w' w.heap.size (fun k_ => some k_ ≠ (s_.1 : Value).ownBlock ∧ some k_ ≠ (s_.2.1 : Value).ownBlock) u211002 x211002_1) ∧ (Kd.R (Kd.int .i64) 3 w' w.heap.size (fun k_ => some k_ ≠ (s_.2.2 : Value).ownBlock ∧ some k_ ≠ (.slice Ao24 x210003_1.length co24 : Value).ownBlock) u211003 x211003_1) ∧ (w'.heap[gb209]? = some (.cells #[.int .i64 3, .int .i64 0, .slice Ao23 x210002_1.length co23, .slice Ao24 x210003_1.length co24] 25 (0, 0))) ∧ (w'.heap[gb210]? = some (.cells #[.int .i64 3, .int .i64 0, u211002, u211003] 25 (0, 0))) ∧ (Below w.heap.size w w')) ?_ ?_
        rotate_left
        · intro hCont
          refine two_ (i := 2) (j := 10) (Ni := some 37) (Nj := some 45) #[true, true, true, false, true, true, true, true, true, true, false, false, false, false, false, false] #[true, true, false, false, true, true, true, true, true, true, true, false, false, false, false, false] rfl rfl rfl rfl (two_of HT_.out (by kernel_rfl)) (by decide) (by decide) (fun K hK => ?_) (fun K hK => ?_)
          · skip
            refine Kd.R_lit_step Kd.bool _ 4 ?hg (N := 37) ?hd (xs := ([true] : List Bool)) (inner := [.bool true]) (ok := fun _ => True) (okp := fun _ => True) ?hr ?hp (fun _ hk => hk) trivial (Below.refl _ _) (Nat.le_refl _) (by simp) ?_; (case hd => rfl); (case hg => rfl); (case hr => first | (go_simp; done) | (go_simp; rfl)); (case hp => exact (Reps.one (show Kd.M Kd.bool _ _ _ true [.bool true] from rfl) (Reps.none _ _)))
            intro v212 w26 ho27 hb hg_ hnew_
            clear hg_ hnew_
            (first | rw [← Ny211.out] at ho27 | (simp only [Int.reduceToNat] at ho27; rw [← Ny211.out] at ho27))
            have n0_ := Aside0.mk (Kd.R_elder' (by (with_reducible repeat (first | apply Kd.R_alloc | apply Kd.R_drewN | apply Kd.R_drew)); exact HO_210002.out) (Kd.R_base ho27) hb)
            have n1_ := Aside0.mk (Kd.R_below (by (with_reducible repeat (first | apply Kd.R_alloc | apply Kd.R_drewN | apply Kd.R_drew)); exact HO_210003.out) hb)
            have n2_ := Aside0.mk (Kd.R_elder' (by (with_reducible repeat (first | apply Kd.R_alloc | apply Kd.R_drewN | apply Kd.R_drew)); exact HO_211002.out) (Kd.R_base ho27) hb)
            have n3_ := Aside0.mk (Kd.R_below (by (with_reducible repeat (first | apply Kd.R_alloc | apply Kd.R_drewN | apply Kd.R_drew)); exact HO_211003.out) hb)
            have n4_ := Aside0.mk (Kd.R_lower (Kd.R_new' (Kd.R_new' ho27 (Kd.R_lt (by (with_reducible repeat (first | apply Kd.R_alloc | apply Kd.R_drewN | apply Kd.R_drew)); exact HO_210002.out))) (Kd.R_lt (by (with_reducible repeat (first | apply Kd.R_alloc | apply Kd.R_drewN | apply Kd.R_drew)); exact HO_211002.out))) (below_size (by repeat (first | (with_reducible first | exact HB.out | apply below_alloc | apply pw_below_drewN | apply below_drew1 | refine below_set ?_ GE209.out | refine below_set ?_ GE210.out) | exact HB.out))))
            have n5_ := Aside0.mk (blk_below (g := gb209) (o := .cells #[.int .i64 3, .int .i64 0, .slice Ao23 x210002_1.length co23, .slice Ao24 x210003_1.length co24] 25 (0, 0)) (by (with_reducible repeat (first | refine blk_drewN ?_ _ | refine blk_drew ?_ | refine blk_alloc ?_ _)); exact BK209.out) hb)
            have n6_ := Aside0.mk (blk_below (g := gb210) (o := .cells #[.int .i64 3, .int .i64 0, u211002, u211003] 25 (0, 0)) (by (with_reducible repeat (first | refine blk_drewN ?_ _ | refine blk_drew ?_ | refine blk_alloc ?_ _)); exact BK210.out) hb)
            have n7_ := Aside0.mk (below_step (by repeat (first | (with_reducible first | exact HB.out | apply below_alloc | apply pw_below_drewN | apply below_drew1 | refine below_set ?_ GE209.out | refine below_set ?_ GE210.out) | exact HB.out)) hb)
            clear HO_210002
            clear HO_210003
            clear HO_211002
            clear HO_211003
            clear BK209
            clear BK210
            clear HB
            have HO_210002 := n0_
            have HO_210003 := n1_
            have HO_211002 := n2_
            have HO_211003 := n3_
            have HO213 := n4_
            have BK209 := n5_
            have BK210 := n6_
            have HB := n7_
            clear n0_ n1_ n2_ n3_ n4_ n5_ n6_ n7_
            clear hb ho27
            obtain ⟨Ao29, co29, eo29⟩ := Kd.R_slice HO213.out
            (first | subst eo29 | (injection eo29 with f1_ f2_ f3_; have f4_ := f1_.symm; have f5_ := f3_.symm; clear f1_ f2_ f3_; subst f4_; subst f5_))
            refine hK.out _ _ ⟨(blk_cell BK209.out 0).trans rfl, (blk_cell BK209.out 1).trans rfl, (blk_cell BK209.out 2).trans rfl, (blk_cell BK209.out 3).trans rfl, ((HB.out.cell (World.block_lt_of_cell? w _ hw217_0)).trans hw217_0)⟩ (fun hHeld => ?_)
            clear hK K
            refine norm_ (a' := ?_) ?_ ?_
            rotate_left
            · show Act.put _ (some 37) _ = _
              simp only [Act.put, List.setIfInBounds_toArray, List.set_cons_zero, List.set_cons_succ, i64_w, i32_w]
              rfl
            refine two_ (i := 3) (j := 10) (Ni := some 38) (Nj := some 45) #[true, true, true, true, true, true, true, true, true, true, false, false, false, false, false, false] #[true, true, true, false, true, true, true, true, true, true, true, false, false, false, false, false] rfl rfl rfl rfl (two_of HT_.out (by kernel_rfl)) (by decide) (by decide) (fun K hK => ?_) (fun K hK => ?_)
            · skip
              refine Kd.R_append_rows_step Kd.bool (w0 := w) w.heap.size (by rfl) (.tmp 36) (.tmp 37) 23 4 (.bool false) 1 rfl Try.underlying23 info4 rfl (by decide) (by omega) (.slice Ao23 x210002_1.length co23) x210002_1 y211 _ _ _ (fun k_ => some k_ ≠ (u211002 : Value).ownBlock ∧ some k_ ≠ (.slice Ao29 y211.length co29 : Value).ownBlock) (fun _ => False) rfl rfl ?aO ?aR (fun _ _ h => h) (fun _ h => h.elim) ?aF ?aB ?aS ?aL ?_
              (case aR => repeat (first | exact (Kd.R_reads' HO213.out).2.2 | (with_reducible refine Kd.C_alloc ?_ _) | (with_reducible refine Kd.C_drewN ?_ _) | (with_reducible refine Kd.C_drew ?_)))
              (case aB => exact (by repeat (first | (with_reducible first | exact HB.out | apply below_alloc | apply pw_below_drewN | apply below_drew1 | refine below_set ?_ GE209.out | refine below_set ?_ GE210.out) | exact HB.out)))
              (case aF => exact (fun k_ hk => ⟨Kd.fresh' (Kd.R_lt (by (with_reducible repeat (first | apply Kd.R_alloc | apply Kd.R_drewN | apply Kd.R_drew)); exact HO_211002.out)) k_ hk, Kd.fresh' (Kd.R_lt (by (with_reducible repeat (first | apply Kd.R_alloc | apply Kd.R_drewN | apply Kd.R_drew)); exact HO213.out)) k_ hk⟩))
              (case aO => exact (by (with_reducible repeat (first | apply Kd.R_alloc | apply Kd.R_drewN | apply Kd.R_drew)); exact HO_210002.out))
              (case aS => exact (below_size (by repeat (first | (with_reducible first | exact HB.out | apply below_alloc | apply pw_below_drewN | apply below_drew1 | refine below_set ?_ GE209.out | refine below_set ?_ GE210.out) | exact HB.out))))
              (case aL => have := LMc15.out; omega)
              intro v215 w28 ho hb hg hat
              rw [← Ny214.out] at ho
              have n0_ := Aside0.mk (Kd.R_over' (by (with_reducible repeat (first | apply Kd.R_alloc | apply Kd.R_drewN | apply Kd.R_drew)); exact HO_210003.out) (Kd.R_typed (by (with_reducible repeat (first | apply Kd.R_alloc | apply Kd.R_drewN | apply Kd.R_drew)); exact HO_210002.out)) (by decide) hg)
              have n1_ := Aside0.mk (Kd.R_after (ok := (fun k_ => some k_ ≠ (.slice Ao29 y211.length co29 : Value).ownBlock)) (by (with_reducible repeat (first | apply Kd.R_alloc | apply Kd.R_drewN | apply Kd.R_drew)); exact Kd.R_mono HO_211002.out (fun _ hk => ⟨hk.2, hk.1⟩)) hg hat)
              have n2_ := Aside0.mk (Kd.R_over' (by (with_reducible repeat (first | apply Kd.R_alloc | apply Kd.R_drewN | apply Kd.R_drew)); exact HO_211003.out) (Kd.R_typed (by (with_reducible repeat (first | apply Kd.R_alloc | apply Kd.R_drewN | apply Kd.R_drew)); exact HO_210002.out)) (by decide) hg)
              have n3_ := Aside0.mk (blk_grown (g := gb209) (o := .cells #[.int .i64 3, .int .i64 0, .slice Ao23 x210002_1.length co23, .slice Ao24 x210003_1.length co24] 25 (0, 0)) (by (with_reducible repeat (first | refine blk_drewN ?_ _ | refine blk_drew ?_ | refine blk_alloc ?_ _)); exact BK209.out) hg (Kd.R_ne HO_210002.out BK209.out (by decide)))
              have n4_ := Aside0.mk (blk_grown (g := gb210) (o := .cells #[.int .i64 3, .int .i64 0, u211002, u211003] 25 (0, 0)) (by (with_reducible repeat (first | refine blk_drewN ?_ _ | refine blk_drew ?_ | refine blk_alloc ?_ _)); exact BK210.out) hg (Kd.R_ne HO_210002.out BK210.out (by decide)))
              have n5_ := Aside0.mk (Kd.R_after (ok := (fun k_ => some k_ ≠ (u211002 : Value).ownBlock)) (by (with_reducible repeat (first | apply Kd.R_alloc | apply Kd.R_drewN | apply Kd.R_drew)); exact Kd.R_mono HO213.out (fun _ hk => ⟨hk.2, hk.1.2⟩)) hg hat)
              have n6_ := Aside0.mk (hb)
              have n7_ := Aside0.mk (ho)
              clear HO_210003
              clear HO_211002
              clear HO_211003
              clear BK209
              clear BK210
              clear HO213
              clear HB
              clear HO_210002
              have HO_210003 := n0_
              have HO_211002 := n1_
              have HO_211003 := n2_
              have BK209 := n3_
              have BK210 := n4_
              have HO213 := n5_
              have HB := n6_
              have HO216 := n7_
              clear n0_ n1_ n2_ n3_ n4_ n5_ n6_ n7_
              clear ho hb hg hat
              refine hK.out _ _ ⟨(blk_cell BK209.out 0).trans rfl, (blk_cell BK209.out 1).trans rfl, (blk_cell BK209.out 2).trans rfl, (blk_cell BK209.out 3).trans rfl, ((HB.out.cell (World.block_lt_of_cell? w _ hw217_0)).trans hw217_0)⟩ (fun hHeld => ?_)
              clear hK K
              refine norm_ (a' := ?_) ?_ ?_
              rotate_left
              · show Act.put _ (some 38) _ = _
                simp only [Act.put, List.setIfInBounds_toArray, List.set_cons_zero, List.set_cons_succ, i64_w, i32_w]
                rfl
              refine pure_ (i := 12) (N := some 47) (v := ?_) (a' := ?_) #[true, true, true, true, true, true, true, true, true, true, false, false, true, false, false, false] rfl rfl (any_of HT_.out (by kernel_rfl)) (fun _ _ _ h => h) (Or.inl ⟨by rfl, ?_⟩) ?_ ?_
              rotate_left
              · intro w'
                go_simp
                with_reducible rfl
              rotate_left
              · simp only [Act.put, List.setIfInBounds_toArray, List.set_cons_zero, List.set_cons_succ, i64_w, i32_w]
                rfl
              refine one_ (i := 10) (N := some 45) #[true, true, true, true, true, true, true, true, true, true, true, false, true, false, false, false] rfl rfl (one_of HT_.out (by kernel_rfl)) (by decide) (fun K hK => ?_)
              refine Kd.R_lit_step (Kd.int .i64) _ 3 ?hg (N := 45) ?hd (xs := ([rd l0 x11_1] : List Int)) (inner := [.int .i64 (rd l0 x11_1)]) (ok := fun _ => True) (okp := fun _ => True) ?hr ?hp (fun _ hk => hk) trivial (Below.refl _ _) (Nat.le_refl _) (by simp) ?_; (case hd => rfl); (case hg => rfl); (case hr => first | (go_simp; done) | (go_simp; rfl)); (case hp => exact (Reps.one (show Kd.M (Kd.int .i64) _ _ _ (rd l0 x11_1) [.int .i64 (rd l0 x11_1)] from rfl) (Reps.none _ _)))
              intro v219 w30 ho31 hb hg_ hnew_
              clear hg_ hnew_
              (first | rw [← Ny218.out] at ho31 | (simp only [Int.reduceToNat] at ho31; rw [← Ny218.out] at ho31))
              have n0_ := Aside0.mk (Kd.R_elder' (by (with_reducible repeat (first | apply Kd.R_alloc | apply Kd.R_drewN | apply Kd.R_drew)); exact HO_210003.out) (Kd.R_base ho31) hb)
              have n1_ := Aside0.mk (Kd.R_below (by (with_reducible repeat (first | apply Kd.R_alloc | apply Kd.R_drewN | apply Kd.R_drew)); exact HO_211002.out) hb)
              have n2_ := Aside0.mk (Kd.R_elder' (by (with_reducible repeat (first | apply Kd.R_alloc | apply Kd.R_drewN | apply Kd.R_drew)); exact HO_211003.out) (Kd.R_base ho31) hb)
              have n3_ := Aside0.mk (Kd.R_below (by (with_reducible repeat (first | apply Kd.R_alloc | apply Kd.R_drewN | apply Kd.R_drew)); exact HO213.out) hb)
              have n4_ := Aside0.mk (Kd.R_below (by (with_reducible repeat (first | apply Kd.R_alloc | apply Kd.R_drewN | apply Kd.R_drew)); exact HO216.out) hb)
              have n5_ := Aside0.mk (Kd.R_lower (Kd.R_new' (Kd.R_new' ho31 (Kd.R_lt (by (with_reducible repeat (first | apply Kd.R_alloc | apply Kd.R_drewN | apply Kd.R_drew)); exact HO_210003.out))) (Kd.R_lt (by (with_reducible repeat (first | apply Kd.R_alloc | apply Kd.R_drewN | apply Kd.R_drew)); exact HO_211003.out))) (below_size (by repeat (first | (with_reducible first | exact HB.out | apply below_alloc | apply pw_below_drewN | apply below_drew1 | refine below_set ?_ GE209.out | refine below_set ?_ GE210.out) | exact HB.out))))
              have n6_ := Aside0.mk (blk_below (g := gb209) (o := .cells #[.int .i64 3, .int .i64 0, .slice Ao23 x210002_1.length co23, .slice Ao24 x210003_1.length co24] 25 (0, 0)) (by (with_reducible repeat (first | refine blk_drewN ?_ _ | refine blk_drew ?_ | refine blk_alloc ?_ _)); exact BK209.out) hb)
              have n7_ := Aside0.mk (blk_below (g := gb210) (o := .cells #[.int .i64 3, .int .i64 0, u211002, u211003] 25 (0, 0)) (by (with_reducible repeat (first | refine blk_drewN ?_ _ | refine blk_drew ?_ | refine blk_alloc ?_ _)); exact BK210.out) hb)
              have n8_ := Aside0.mk (below_step (by repeat (first | (with_reducible first | exact HB.out | apply below_alloc | apply pw_below_drewN | apply below_drew1 | refine below_set ?_ GE209.out | refine below_set ?_ GE210.out) | exact HB.out)) hb)
              clear HO_210003
              clear HO_211002
              clear HO_211003
              clear HO213
              clear HO216
              clear BK209
              clear BK210
              clear HB
              have HO_210003 := n0_
              have HO_211002 := n1_
              have HO_211003 := n2_
              have HO213 := n3_
              have HO216 := n4_
              have HO220 := n5_
              have BK209 := n6_
              have BK210 := n7_
              have HB := n8_
              clear n0_ n1_ n2_ n3_ n4_ n5_ n6_ n7_ n8_
              clear hb ho31
              refine hK.out _ _ ⟨(blk_cell BK209.out 0).trans rfl, (blk_cell BK209.out 1).trans rfl, (blk_cell BK209.out 2).trans rfl, (blk_cell BK209.out 3).trans rfl, ((HB.out.cell (World.block_lt_of_cell? w _ hw217_0)).trans hw217_0)⟩ (fun hHeld => ?_)
              clear hK K
              refine norm_ (a' := ?_) ?_ ?_
              rotate_left
              · show Act.put _ (some 45) _ = _
                simp only [Act.put, List.setIfInBounds_toArray, List.set_cons_zero, List.set_cons_succ, i64_w, i32_w]
                rfl
              exact norm_ (by simp only [putAll, Act.put, List.setIfInBounds_toArray, List.set_cons_zero, List.set_cons_succ]) (hCont (.slice Ao29 y211.length co29, v215, v219) _ ⟨hHeld, (by (with_reducible repeat (first | apply Kd.R_alloc | apply Kd.R_drewN | apply Kd.R_drew)); exact Kd.R_mono HO213.out (fun _ hk => ⟨hk.2, hk.1⟩)), (by (with_reducible repeat (first | apply Kd.R_alloc | apply Kd.R_drewN | apply Kd.R_drew)); exact Kd.R_mono HO216.out (fun _ hk => ⟨hk.2, hk.1⟩)), (by (with_reducible repeat (first | apply Kd.R_alloc | apply Kd.R_drewN | apply Kd.R_drew)); exact Kd.R_mono HO220.out (fun _ hk => ⟨hk.1.2, hk.2⟩)), (by (with_reducible repeat (first | apply Kd.R_alloc | apply Kd.R_drewN | apply Kd.R_drew)); exact Kd.R_mono HO_210003.out (fun _ hk => ⟨hk.2, hk.1⟩)), (by (with_reducible repeat (first | apply Kd.R_alloc | apply Kd.R_drewN | apply Kd.R_drew)); exact HO_211002.out), (by (with_reducible repeat (first | apply Kd.R_alloc | apply Kd.R_drewN | apply Kd.R_drew)); exact Kd.R_mono HO_211003.out (fun _ hk => ⟨hk.2, hk.1⟩)), (by (with_reducible repeat (first | refine blk_drewN ?_ _ | refine blk_drew ?_ | refine blk_alloc ?_ _)); exact BK209.out), (by (with_reducible repeat (first | refine blk_drewN ?_ _ | refine blk_drew ?_ | refine blk_alloc ?_ _)); exact BK210.out), (by repeat (first | (with_reducible first | exact HB.out | apply below_alloc | apply pw_below_drewN | apply below_drew1 | refine below_set ?_ GE209.out | refine below_set ?_ GE210.out) | exact HB.out))⟩)
            · skip
              refine Kd.R_lit_step (Kd.int .i64) _ 3 ?hg (N := 45) ?hd (xs := ([rd l0 x11_1] : List Int)) (inner := [.int .i64 (rd l0 x11_1)]) (ok := fun _ => True) (okp := fun _ => True) ?hr ?hp (fun _ hk => hk) trivial (Below.refl _ _) (Nat.le_refl _) (by simp) ?_; (case hd => rfl); (case hg => rfl); (case hr => first | (go_simp; done) | (go_simp; rfl)); (case hp => exact (Reps.one (show Kd.M (Kd.int .i64) _ _ _ (rd l0 x11_1) [.int .i64 (rd l0 x11_1)] from rfl) (Reps.none _ _)))
              intro v219 w28 ho29 hb hg_ hnew_
              clear hg_ hnew_
              (first | rw [← Ny218.out] at ho29 | (simp only [Int.reduceToNat] at ho29; rw [← Ny218.out] at ho29))
              have n0_ := Aside0.mk (Kd.R_below (by (with_reducible repeat (first | apply Kd.R_alloc | apply Kd.R_drewN | apply Kd.R_drew)); exact HO_210002.out) hb)
              have n1_ := Aside0.mk (Kd.R_elder' (by (with_reducible repeat (first | apply Kd.R_alloc | apply Kd.R_drewN | apply Kd.R_drew)); exact HO_210003.out) (Kd.R_base ho29) hb)
              have n2_ := Aside0.mk (Kd.R_below (by (with_reducible repeat (first | apply Kd.R_alloc | apply Kd.R_drewN | apply Kd.R_drew)); exact HO_211002.out) hb)
              have n3_ := Aside0.mk (Kd.R_elder' (by (with_reducible repeat (first | apply Kd.R_alloc | apply Kd.R_drewN | apply Kd.R_drew)); exact HO_211003.out) (Kd.R_base ho29) hb)
              have n4_ := Aside0.mk (Kd.R_below (by (with_reducible repeat (first | apply Kd.R_alloc | apply Kd.R_drewN | apply Kd.R_drew)); exact HO213.out) hb)
              have n5_ := Aside0.mk (Kd.R_lower (Kd.R_new' (Kd.R_new' ho29 (Kd.R_lt (by (with_reducible repeat (first | apply Kd.R_alloc | apply Kd.R_drewN | apply Kd.R_drew)); exact HO_210003.out))) (Kd.R_lt (by (with_reducible repeat (first | apply Kd.R_alloc | apply Kd.R_drewN | apply Kd.R_drew)); exact HO_211003.out))) (below_size (by repeat (first | (with_reducible first | exact HB.out | apply below_alloc | apply pw_below_drewN | apply below_drew1 | refine below_set ?_ GE209.out | refine below_set ?_ GE210.out) | exact HB.out))))
              have n6_ := Aside0.mk (blk_below (g := gb209) (o := .cells #[.int .i64 3, .int .i64 0, .slice Ao23 x210002_1.length co23, .slice Ao24 x210003_1.length co24] 25 (0, 0)) (by (with_reducible repeat (first | refine blk_drewN ?_ _ | refine blk_drew ?_ | refine blk_alloc ?_ _)); exact BK209.out) hb)
              have n7_ := Aside0.mk (blk_below (g := gb210) (o := .cells #[.int .i64 3, .int .i64 0, u211002, u211003] 25 (0, 0)) (by (with_reducible repeat (first | refine blk_drewN ?_ _ | refine blk_drew ?_ | refine blk_alloc ?_ _)); exact BK210.out) hb)
              have n8_ := Aside0.mk (below_step (by repeat (first | (with_reducible first | exact HB.out | apply below_alloc | apply pw_below_drewN | apply below_drew1 | refine below_set ?_ GE209.out | refine below_set ?_ GE210.out) | exact HB.out)) hb)
              clear HO_210002
              clear HO_210003
              clear HO_211002
              clear HO_211003
              clear HO213
              clear BK209
              clear BK210
              clear HB
              have HO_210002 := n0_
              have HO_210003 := n1_
              have HO_211002 := n2_
              have HO_211003 := n3_
              have HO213 := n4_
              have HO220 := n5_
              have BK209 := n6_
              have BK210 := n7_
              have HB := n8_
              clear n0_ n1_ n2_ n3_ n4_ n5_ n6_ n7_ n8_
              clear hb ho29
              obtain ⟨Ao31, co31, eo31⟩ := Kd.R_slice HO213.out
              (first | subst eo31 | (injection eo31 with f1_ f2_ f3_; have f4_ := f1_.symm; have f5_ := f3_.symm; clear f1_ f2_ f3_; subst f4_; subst f5_))
              refine hK.out _ _ ⟨(blk_cell BK209.out 0).trans rfl, (blk_cell BK209.out 1).trans rfl, (blk_cell BK209.out 2).trans rfl, (blk_cell BK209.out 3).trans rfl, ((HB.out.cell (World.block_lt_of_cell? w _ hw217_0)).trans hw217_0)⟩ (fun hHeld => ?_)
              clear hK K
              refine norm_ (a' := ?_) ?_ ?_
              rotate_left
              · show Act.put _ (some 45) _ = _
                simp only [Act.put, List.setIfInBounds_toArray, List.set_cons_zero, List.set_cons_succ, i64_w, i32_w]
                rfl
              refine one_ (i := 3) (N := some 38) #[true, true, true, true, true, true, true, true, true, true, true, false, false, false, false, false] rfl rfl (one_of HT_.out (by kernel_rfl)) (by decide) (fun K hK => ?_)
              refine Kd.R_append_rows_step Kd.bool (w0 := w) w.heap.size (by rfl) (.tmp 36) (.tmp 37) 23 4 (.bool false) 1 rfl Try.underlying23 info4 rfl (by decide) (by omega) (.slice Ao23 x210002_1.length co23) x210002_1 y211 _ _ _ (fun k_ => some k_ ≠ (u211002 : Value).ownBlock ∧ some k_ ≠ (.slice Ao31 y211.length co31 : Value).ownBlock) (fun _ => False) rfl rfl ?aO ?aR (fun _ _ h => h) (fun _ h => h.elim) ?aF ?aB ?aS ?aL ?_
              (case aR => repeat (first | exact (Kd.R_reads' HO213.out).2.2 | (with_reducible refine Kd.C_alloc ?_ _) | (with_reducible refine Kd.C_drewN ?_ _) | (with_reducible refine Kd.C_drew ?_)))
              (case aB => exact (by repeat (first | (with_reducible first | exact HB.out | apply below_alloc | apply pw_below_drewN | apply below_drew1 | refine below_set ?_ GE209.out | refine below_set ?_ GE210.out) | exact HB.out)))
              (case aF => exact (fun k_ hk => ⟨Kd.fresh' (Kd.R_lt (by (with_reducible repeat (first | apply Kd.R_alloc | apply Kd.R_drewN | apply Kd.R_drew)); exact HO_211002.out)) k_ hk, Kd.fresh' (Kd.R_lt (by (with_reducible repeat (first | apply Kd.R_alloc | apply Kd.R_drewN | apply Kd.R_drew)); exact HO213.out)) k_ hk⟩))
              (case aO => exact (by (with_reducible repeat (first | apply Kd.R_alloc | apply Kd.R_drewN | apply Kd.R_drew)); exact HO_210002.out))
              (case aS => exact (below_size (by repeat (first | (with_reducible first | exact HB.out | apply below_alloc | apply pw_below_drewN | apply below_drew1 | refine below_set ?_ GE209.out | refine below_set ?_ GE210.out) | exact HB.out))))
              (case aL => have := LMc15.out; omega)
              intro v215 w30 ho hb hg hat
              rw [← Ny214.out] at ho
              have n0_ := Aside0.mk (Kd.R_over' (by (with_reducible repeat (first | apply Kd.R_alloc | apply Kd.R_drewN | apply Kd.R_drew)); exact HO_210003.out) (Kd.R_typed (by (with_reducible repeat (first | apply Kd.R_alloc | apply Kd.R_drewN | apply Kd.R_drew)); exact HO_210002.out)) (by decide) hg)
              have n1_ := Aside0.mk (Kd.R_after (ok := (fun k_ => some k_ ≠ (.slice Ao31 y211.length co31 : Value).ownBlock)) (by (with_reducible repeat (first | apply Kd.R_alloc | apply Kd.R_drewN | apply Kd.R_drew)); exact Kd.R_mono HO_211002.out (fun _ hk => ⟨hk.2, hk.1⟩)) hg hat)
              have n2_ := Aside0.mk (Kd.R_over' (by (with_reducible repeat (first | apply Kd.R_alloc | apply Kd.R_drewN | apply Kd.R_drew)); exact HO_211003.out) (Kd.R_typed (by (with_reducible repeat (first | apply Kd.R_alloc | apply Kd.R_drewN | apply Kd.R_drew)); exact HO_210002.out)) (by decide) hg)
              have n3_ := Aside0.mk (blk_grown (g := gb209) (o := .cells #[.int .i64 3, .int .i64 0, .slice Ao23 x210002_1.length co23, .slice Ao24 x210003_1.length co24] 25 (0, 0)) (by (with_reducible repeat (first | refine blk_drewN ?_ _ | refine blk_drew ?_ | refine blk_alloc ?_ _)); exact BK209.out) hg (Kd.R_ne HO_210002.out BK209.out (by decide)))
              have n4_ := Aside0.mk (blk_grown (g := gb210) (o := .cells #[.int .i64 3, .int .i64 0, u211002, u211003] 25 (0, 0)) (by (with_reducible repeat (first | refine blk_drewN ?_ _ | refine blk_drew ?_ | refine blk_alloc ?_ _)); exact BK210.out) hg (Kd.R_ne HO_210002.out BK210.out (by decide)))
              have n5_ := Aside0.mk (Kd.R_after (ok := (fun k_ => some k_ ≠ (u211002 : Value).ownBlock)) (by (with_reducible repeat (first | apply Kd.R_alloc | apply Kd.R_drewN | apply Kd.R_drew)); exact Kd.R_mono HO213.out (fun _ hk => ⟨hk.2, hk.1.2⟩)) hg hat)
              have n6_ := Aside0.mk (Kd.R_over' (by (with_reducible repeat (first | apply Kd.R_alloc | apply Kd.R_drewN | apply Kd.R_drew)); exact HO220.out) (Kd.R_typed (by (with_reducible repeat (first | apply Kd.R_alloc | apply Kd.R_drewN | apply Kd.R_drew)); exact HO_210002.out)) (by decide) hg)
              have n7_ := Aside0.mk (hb)
              have n8_ := Aside0.mk (ho)
              clear HO_210003
              clear HO_211002
              clear HO_211003
              clear BK209
              clear BK210
              clear HO213
              clear HO220
              clear HB
              clear HO_210002
              have HO_210003 := n0_
              have HO_211002 := n1_
              have HO_211003 := n2_
              have BK209 := n3_
              have BK210 := n4_
              have HO213 := n5_
              have HO220 := n6_
              have HB := n7_
              have HO216 := n8_
              clear n0_ n1_ n2_ n3_ n4_ n5_ n6_ n7_ n8_
              clear ho hb hg hat
              refine hK.out _ _ ⟨(blk_cell BK209.out 0).trans rfl, (blk_cell BK209.out 1).trans rfl, (blk_cell BK209.out 2).trans rfl, (blk_cell BK209.out 3).trans rfl, ((HB.out.cell (World.block_lt_of_cell? w _ hw217_0)).trans hw217_0)⟩ (fun hHeld => ?_)
              clear hK K
              refine norm_ (a' := ?_) ?_ ?_
              rotate_left
              · show Act.put _ (some 38) _ = _
                simp only [Act.put, List.setIfInBounds_toArray, List.set_cons_zero, List.set_cons_succ, i64_w, i32_w]
                rfl
              refine pure_ (i := 12) (N := some 47) (v := ?_) (a' := ?_) #[true, true, true, true, true, true, true, true, true, true, true, false, true, false, false, false] rfl rfl (any_of HT_.out (by kernel_rfl)) (fun _ _ _ h => h) (Or.inl ⟨by rfl, ?_⟩) ?_ ?_
              rotate_left
              · intro w'
                go_simp
                with_reducible rfl
              rotate_left
              · simp only [Act.put, List.setIfInBounds_toArray, List.set_cons_zero, List.set_cons_succ, i64_w, i32_w]
                rfl
              exact norm_ (by simp only [putAll, Act.put, List.setIfInBounds_toArray, List.set_cons_zero, List.set_cons_succ]) (hCont (.slice Ao31 y211.length co31, v215, v219) _ ⟨hHeld, (by (with_reducible repeat (first | apply Kd.R_alloc | apply Kd.R_drewN | apply Kd.R_drew)); exact Kd.R_mono HO213.out (fun _ hk => ⟨hk.2, hk.1⟩)), (by (with_reducible repeat (first | apply Kd.R_alloc | apply Kd.R_drewN | apply Kd.R_drew)); exact Kd.R_mono HO216.out (fun _ hk => ⟨hk.2, hk.1⟩)), (by (with_reducible repeat (first | apply Kd.R_alloc | apply Kd.R_drewN | apply Kd.R_drew)); exact Kd.R_mono HO220.out (fun _ hk => ⟨hk.1.2, hk.2⟩)), (by (with_reducible repeat (first | apply Kd.R_alloc | apply Kd.R_drewN | apply Kd.R_drew)); exact Kd.R_mono HO_210003.out (fun _ hk => ⟨hk.2, hk.1⟩)), (by (with_reducible repeat (first | apply Kd.R_alloc | apply Kd.R_drewN | apply Kd.R_drew)); exact HO_211002.out), (by (with_reducible repeat (first | apply Kd.R_alloc | apply Kd.R_drewN | apply Kd.R_drew)); exact Kd.R_mono HO_211003.out (fun _ hk => ⟨hk.2, hk.1⟩)), (by (with_reducible repeat (first | refine blk_drewN ?_ _ | refine blk_drew ?_ | refine blk_alloc ?_ _)); exact BK209.out), (by (with_reducible repeat (first | refine blk_drewN ?_ _ | refine blk_drew ?_ | refine blk_alloc ?_ _)); exact BK210.out), (by repeat (first | (with_reducible first | exact HB.out | apply below_alloc | apply pw_below_drewN | apply below_drew1 | refine below_set ?_ GE209.out | refine below_set ?_ GE210.out) | exact HB.out))⟩)
          · skip
            refine Kd.R_lit_step (Kd.int .i64) _ 3 ?hg (N := 45) ?hd (xs := ([rd l0 x11_1] : List Int)) (inner := [.int .i64 (rd l0 x11_1)]) (ok := fun _ => True) (okp := fun _ => True) ?hr ?hp (fun _ hk => hk) trivial (Below.refl _ _) (Nat.le_refl _) (by simp) ?_; (case hd => rfl); (case hg => rfl); (case hr => first | (go_simp; done) | (go_simp; rfl)); (case hp => exact (Reps.one (show Kd.M (Kd.int .i64) _ _ _ (rd l0 x11_1) [.int .i64 (rd l0 x11_1)] from rfl) (Reps.none _ _)))
            intro v219 w26 ho27 hb hg_ hnew_
            clear hg_ hnew_
            (first | rw [← Ny218.out] at ho27 | (simp only [Int.reduceToNat] at ho27; rw [← Ny218.out] at ho27))
            have n0_ := Aside0.mk (Kd.R_below (by (with_reducible repeat (first | apply Kd.R_alloc | apply Kd.R_drewN | apply Kd.R_drew)); exact HO_210002.out) hb)
            have n1_ := Aside0.mk (Kd.R_elder' (by (with_reducible repeat (first | apply Kd.R_alloc | apply Kd.R_drewN | apply Kd.R_drew)); exact HO_210003.out) (Kd.R_base ho27) hb)
            have n2_ := Aside0.mk (Kd.R_below (by (with_reducible repeat (first | apply Kd.R_alloc | apply Kd.R_drewN | apply Kd.R_drew)); exact HO_211002.out) hb)
            have n3_ := Aside0.mk (Kd.R_elder' (by (with_reducible repeat (first | apply Kd.R_alloc | apply Kd.R_drewN | apply Kd.R_drew)); exact HO_211003.out) (Kd.R_base ho27) hb)
            have n4_ := Aside0.mk (Kd.R_lower (Kd.R_new' (Kd.R_new' ho27 (Kd.R_lt (by (with_reducible repeat (first | apply Kd.R_alloc | apply Kd.R_drewN | apply Kd.R_drew)); exact HO_210003.out))) (Kd.R_lt (by (with_reducible repeat (first | apply Kd.R_alloc | apply Kd.R_drewN | apply Kd.R_drew)); exact HO_211003.out))) (below_size (by repeat (first | (with_reducible first | exact HB.out | apply below_alloc | apply pw_below_drewN | apply below_drew1 | refine below_set ?_ GE209.out | refine below_set ?_ GE210.out) | exact HB.out))))
            have n5_ := Aside0.mk (blk_below (g := gb209) (o := .cells #[.int .i64 3, .int .i64 0, .slice Ao23 x210002_1.length co23, .slice Ao24 x210003_1.length co24] 25 (0, 0)) (by (with_reducible repeat (first | refine blk_drewN ?_ _ | refine blk_drew ?_ | refine blk_alloc ?_ _)); exact BK209.out) hb)
            have n6_ := Aside0.mk (blk_below (g := gb210) (o := .cells #[.int .i64 3, .int .i64 0, u211002, u211003] 25 (0, 0)) (by (with_reducible repeat (first | refine blk_drewN ?_ _ | refine blk_drew ?_ | refine blk_alloc ?_ _)); exact BK210.out) hb)
            have n7_ := Aside0.mk (below_step (by repeat (first | (with_reducible first | exact HB.out | apply below_alloc | apply pw_below_drewN | apply below_drew1 | refine below_set ?_ GE209.out | refine below_set ?_ GE210.out) | exact HB.out)) hb)
            clear HO_210002
            clear HO_210003
            clear HO_211002
            clear HO_211003
            clear BK209
            clear BK210
            clear HB
            have HO_210002 := n0_
            have HO_210003 := n1_
            have HO_211002 := n2_
            have HO_211003 := n3_
            have HO220 := n4_
            have BK209 := n5_
            have BK210 := n6_
            have HB := n7_
            clear n0_ n1_ n2_ n3_ n4_ n5_ n6_ n7_
            clear hb ho27
            refine hK.out _ _ ⟨(blk_cell BK209.out 0).trans rfl, (blk_cell BK209.out 1).trans rfl, (blk_cell BK209.out 2).trans rfl, (blk_cell BK209.out 3).trans rfl, ((HB.out.cell (World.block_lt_of_cell? w _ hw217_0)).trans hw217_0)⟩ (fun hHeld => ?_)
            clear hK K
            refine norm_ (a' := ?_) ?_ ?_
            rotate_left
            · show Act.put _ (some 45) _ = _
              simp only [Act.put, List.setIfInBounds_toArray, List.set_cons_zero, List.set_cons_succ, i64_w, i32_w]
              rfl
            refine one_ (i := 2) (N := some 37) #[true, true, true, false, true, true, true, true, true, true, true, false, false, false, false, false] rfl rfl (one_of HT_.out (by kernel_rfl)) (by decide) (fun K hK => ?_)
            refine Kd.R_lit_step Kd.bool _ 4 ?hg (N := 37) ?hd (xs := ([true] : List Bool)) (inner := [.bool true]) (ok := fun _ => True) (okp := fun _ => True) ?hr ?hp (fun _ hk => hk) trivial (Below.refl _ _) (Nat.le_refl _) (by simp) ?_; (case hd => rfl); (case hg => rfl); (case hr => first | (go_simp; done) | (go_simp; rfl)); (case hp => exact (Reps.one (show Kd.M Kd.bool _ _ _ true [.bool true] from rfl) (Reps.none _ _)))
            intro v212 w28 ho29 hb hg_ hnew_
            clear hg_ hnew_
            (first | rw [← Ny211.out] at ho29 | (simp only [Int.reduceToNat] at ho29; rw [← Ny211.out] at ho29))
            have n0_ := Aside0.mk (Kd.R_elder' (by (with_reducible repeat (first | apply Kd.R_alloc | apply Kd.R_drewN | apply Kd.R_drew)); exact HO_210002.out) (Kd.R_base ho29) hb)
            have n1_ := Aside0.mk (Kd.R_below (by (with_reducible repeat (first | apply Kd.R_alloc | apply Kd.R_drewN | apply Kd.R_drew)); exact HO_210003.out) hb)
            have n2_ := Aside0.mk (Kd.R_elder' (by (with_reducible repeat (first | apply Kd.R_alloc | apply Kd.R_drewN | apply Kd.R_drew)); exact HO_211002.out) (Kd.R_base ho29) hb)
            have n3_ := Aside0.mk (Kd.R_below (by (with_reducible repeat (first | apply Kd.R_alloc | apply Kd.R_drewN | apply Kd.R_drew)); exact HO_211003.out) hb)
            have n4_ := Aside0.mk (Kd.R_below (by (with_reducible repeat (first | apply Kd.R_alloc | apply Kd.R_drewN | apply Kd.R_drew)); exact HO220.out) hb)
            have n5_ := Aside0.mk (Kd.R_lower (Kd.R_new' (Kd.R_new' ho29 (Kd.R_lt (by (with_reducible repeat (first | apply Kd.R_alloc | apply Kd.R_drewN | apply Kd.R_drew)); exact HO_210002.out))) (Kd.R_lt (by (with_reducible repeat (first | apply Kd.R_alloc | apply Kd.R_drewN | apply Kd.R_drew)); exact HO_211002.out))) (below_size (by repeat (first | (with_reducible first | exact HB.out | apply below_alloc | apply pw_below_drewN | apply below_drew1 | refine below_set ?_ GE209.out | refine below_set ?_ GE210.out) | exact HB.out))))
            have n6_ := Aside0.mk (blk_below (g := gb209) (o := .cells #[.int .i64 3, .int .i64 0, .slice Ao23 x210002_1.length co23, .slice Ao24 x210003_1.length co24] 25 (0, 0)) (by (with_reducible repeat (first | refine blk_drewN ?_ _ | refine blk_drew ?_ | refine blk_alloc ?_ _)); exact BK209.out) hb)
            have n7_ := Aside0.mk (blk_below (g := gb210) (o := .cells #[.int .i64 3, .int .i64 0, u211002, u211003] 25 (0, 0)) (by (with_reducible repeat (first | refine blk_drewN ?_ _ | refine blk_drew ?_ | refine blk_alloc ?_ _)); exact BK210.out) hb)
            have n8_ := Aside0.mk (below_step (by repeat (first | (with_reducible first | exact HB.out | apply below_alloc | apply pw_below_drewN | apply below_drew1 | refine below_set ?_ GE209.out | refine below_set ?_ GE210.out) | exact HB.out)) hb)
            clear HO_210002
            clear HO_210003
            clear HO_211002
            clear HO_211003
            clear HO220
            clear BK209
            clear BK210
            clear HB
            have HO_210002 := n0_
            have HO_210003 := n1_
            have HO_211002 := n2_
            have HO_211003 := n3_
            have HO220 := n4_
            have HO213 := n5_
            have BK209 := n6_
            have BK210 := n7_
            have HB := n8_
            clear n0_ n1_ n2_ n3_ n4_ n5_ n6_ n7_ n8_
            clear hb ho29
            obtain ⟨Ao31, co31, eo31⟩ := Kd.R_slice HO213.out
            (first | subst eo31 | (injection eo31 with f1_ f2_ f3_; have f4_ := f1_.symm; have f5_ := f3_.symm; clear f1_ f2_ f3_; subst f4_; subst f5_))
            refine hK.out _ _ ⟨(blk_cell BK209.out 0).trans rfl, (blk_cell BK209.out 1).trans rfl, (blk_cell BK209.out 2).trans rfl, (blk_cell BK209.out 3).trans rfl, ((HB.out.cell (World.block_lt_of_cell? w _ hw217_0)).trans hw217_0)⟩ (fun hHeld => ?_)
            clear hK K
            refine norm_ (a' := ?_) ?_ ?_
            rotate_left
            · show Act.put _ (some 37) _ = _
              simp only [Act.put, List.setIfInBounds_toArray, List.set_cons_zero, List.set_cons_succ, i64_w, i32_w]
              rfl
            refine one_ (i := 3) (N := some 38) #[true, true, true, true, true, true, true, true, true, true, true, false, false, false, false, false] rfl rfl (one_of HT_.out (by kernel_rfl)) (by decide) (fun K hK => ?_)
            refine Kd.R_append_rows_step Kd.bool (w0 := w) w.heap.size (by rfl) (.tmp 36) (.tmp 37) 23 4 (.bool false) 1 rfl Try.underlying23 info4 rfl (by decide) (by omega) (.slice Ao23 x210002_1.length co23) x210002_1 y211 _ _ _ (fun k_ => some k_ ≠ (u211002 : Value).ownBlock ∧ some k_ ≠ (.slice Ao31 y211.length co31 : Value).ownBlock) (fun _ => False) rfl rfl ?aO ?aR (fun _ _ h => h) (fun _ h => h.elim) ?aF ?aB ?aS ?aL ?_
            (case aR => repeat (first | exact (Kd.R_reads' HO213.out).2.2 | (with_reducible refine Kd.C_alloc ?_ _) | (with_reducible refine Kd.C_drewN ?_ _) | (with_reducible refine Kd.C_drew ?_)))
            (case aB => exact (by repeat (first | (with_reducible first | exact HB.out | apply below_alloc | apply pw_below_drewN | apply below_drew1 | refine below_set ?_ GE209.out | refine below_set ?_ GE210.out) | exact HB.out)))
            (case aF => exact (fun k_ hk => ⟨Kd.fresh' (Kd.R_lt (by (with_reducible repeat (first | apply Kd.R_alloc | apply Kd.R_drewN | apply Kd.R_drew)); exact HO_211002.out)) k_ hk, Kd.fresh' (Kd.R_lt (by (with_reducible repeat (first | apply Kd.R_alloc | apply Kd.R_drewN | apply Kd.R_drew)); exact HO213.out)) k_ hk⟩))
            (case aO => exact (by (with_reducible repeat (first | apply Kd.R_alloc | apply Kd.R_drewN | apply Kd.R_drew)); exact HO_210002.out))
            (case aS => exact (below_size (by repeat (first | (with_reducible first | exact HB.out | apply below_alloc | apply pw_below_drewN | apply below_drew1 | refine below_set ?_ GE209.out | refine below_set ?_ GE210.out) | exact HB.out))))
            (case aL => have := LMc15.out; omega)
            intro v215 w30 ho hb hg hat
            rw [← Ny214.out] at ho
            have n0_ := Aside0.mk (Kd.R_over' (by (with_reducible repeat (first | apply Kd.R_alloc | apply Kd.R_drewN | apply Kd.R_drew)); exact HO_210003.out) (Kd.R_typed (by (with_reducible repeat (first | apply Kd.R_alloc | apply Kd.R_drewN | apply Kd.R_drew)); exact HO_210002.out)) (by decide) hg)
            have n1_ := Aside0.mk (Kd.R_after (ok := (fun k_ => some k_ ≠ (.slice Ao31 y211.length co31 : Value).ownBlock)) (by (with_reducible repeat (first | apply Kd.R_alloc | apply Kd.R_drewN | apply Kd.R_drew)); exact Kd.R_mono HO_211002.out (fun _ hk => ⟨hk.2, hk.1⟩)) hg hat)
            have n2_ := Aside0.mk (Kd.R_over' (by (with_reducible repeat (first | apply Kd.R_alloc | apply Kd.R_drewN | apply Kd.R_drew)); exact HO_211003.out) (Kd.R_typed (by (with_reducible repeat (first | apply Kd.R_alloc | apply Kd.R_drewN | apply Kd.R_drew)); exact HO_210002.out)) (by decide) hg)
            have n3_ := Aside0.mk (blk_grown (g := gb209) (o := .cells #[.int .i64 3, .int .i64 0, .slice Ao23 x210002_1.length co23, .slice Ao24 x210003_1.length co24] 25 (0, 0)) (by (with_reducible repeat (first | refine blk_drewN ?_ _ | refine blk_drew ?_ | refine blk_alloc ?_ _)); exact BK209.out) hg (Kd.R_ne HO_210002.out BK209.out (by decide)))
            have n4_ := Aside0.mk (blk_grown (g := gb210) (o := .cells #[.int .i64 3, .int .i64 0, u211002, u211003] 25 (0, 0)) (by (with_reducible repeat (first | refine blk_drewN ?_ _ | refine blk_drew ?_ | refine blk_alloc ?_ _)); exact BK210.out) hg (Kd.R_ne HO_210002.out BK210.out (by decide)))
            have n5_ := Aside0.mk (Kd.R_over' (by (with_reducible repeat (first | apply Kd.R_alloc | apply Kd.R_drewN | apply Kd.R_drew)); exact HO220.out) (Kd.R_typed (by (with_reducible repeat (first | apply Kd.R_alloc | apply Kd.R_drewN | apply Kd.R_drew)); exact HO_210002.out)) (by decide) hg)
            have n6_ := Aside0.mk (Kd.R_after (ok := (fun k_ => some k_ ≠ (u211002 : Value).ownBlock)) (by (with_reducible repeat (first | apply Kd.R_alloc | apply Kd.R_drewN | apply Kd.R_drew)); exact Kd.R_mono HO213.out (fun _ hk => ⟨hk.2, hk.1.2⟩)) hg hat)
            have n7_ := Aside0.mk (hb)
            have n8_ := Aside0.mk (ho)
            clear HO_210003
            clear HO_211002
            clear HO_211003
            clear BK209
            clear BK210
            clear HO220
            clear HO213
            clear HB
            clear HO_210002
            have HO_210003 := n0_
            have HO_211002 := n1_
            have HO_211003 := n2_
            have BK209 := n3_
            have BK210 := n4_
            have HO220 := n5_
            have HO213 := n6_
            have HB := n7_
            have HO216 := n8_
            clear n0_ n1_ n2_ n3_ n4_ n5_ n6_ n7_ n8_
            clear ho hb hg hat
            refine hK.out _ _ ⟨(blk_cell BK209.out 0).trans rfl, (blk_cell BK209.out 1).trans rfl, (blk_cell BK209.out 2).trans rfl, (blk_cell BK209.out 3).trans rfl, ((HB.out.cell (World.block_lt_of_cell? w _ hw217_0)).trans hw217_0)⟩ (fun hHeld => ?_)
            clear hK K
            refine norm_ (a' := ?_) ?_ ?_
            rotate_left
            · show Act.put _ (some 38) _ = _
              simp only [Act.put, List.setIfInBounds_toArray, List.set_cons_zero, List.set_cons_succ, i64_w, i32_w]
              rfl
            refine pure_ (i := 12) (N := some 47) (v := ?_) (a' := ?_) #[true, true, true, true, true, true, true, true, true, true, true, false, true, false, false, false] rfl rfl (any_of HT_.out (by kernel_rfl)) (fun _ _ _ h => h) (Or.inl ⟨by rfl, ?_⟩) ?_ ?_
            rotate_left
            · intro w'
              go_simp
              with_reducible rfl
            rotate_left
            · simp only [Act.put, List.setIfInBounds_toArray, List.set_cons_zero, List.set_cons_succ, i64_w, i32_w]
              rfl
            exact norm_ (by simp only [putAll, Act.put, List.setIfInBounds_toArray, List.set_cons_zero, List.set_cons_succ]) (hCont (.slice Ao31 y211.length co31, v215, v219) _ ⟨hHeld, (by (with_reducible repeat (first | apply Kd.R_alloc | apply Kd.R_drewN | apply Kd.R_drew)); exact Kd.R_mono HO213.out (fun _ hk => ⟨hk.2, hk.1⟩)), (by (with_reducible repeat (first | apply Kd.R_alloc | apply Kd.R_drewN | apply Kd.R_drew)); exact Kd.R_mono HO216.out (fun _ hk => ⟨hk.2, hk.1⟩)), (by (with_reducible repeat (first | apply Kd.R_alloc | apply Kd.R_drewN | apply Kd.R_drew)); exact Kd.R_mono HO220.out (fun _ hk => ⟨hk.1.2, hk.2⟩)), (by (with_reducible repeat (first | apply Kd.R_alloc | apply Kd.R_drewN | apply Kd.R_drew)); exact Kd.R_mono HO_210003.out (fun _ hk => ⟨hk.2, hk.1⟩)), (by (with_reducible repeat (first | apply Kd.R_alloc | apply Kd.R_drewN | apply Kd.R_drew)); exact HO_211002.out), (by (with_reducible repeat (first | apply Kd.R_alloc | apply Kd.R_drewN | apply Kd.R_drew)); exact Kd.R_mono HO_211003.out (fun _ hk => ⟨hk.2, hk.1⟩)), (by (with_reducible repeat (first | refine blk_drewN ?_ _ | refine blk_drew ?_ | refine blk_alloc ?_ _)); exact BK209.out), (by (with_reducible repeat (first | refine blk_drewN ?_ _ | refine blk_drew ?_ | refine blk_alloc ?_ _)); exact BK210.out), (by repeat (first | (with_reducible first | exact HB.out | apply below_alloc | apply pw_below_drewN | apply below_drew1 | refine below_set ?_ GE209.out | refine below_set ?_ GE210.out) | exact HB.out))⟩)
        rintro ⟨v212, v215, v219⟩ w32 ⟨hS_, h0_, h1_, h2_, h3_, h4_, h5_, h6_, h7_, h8_⟩
        have n0_ : Aside0 (Kd.R Kd.bool 4 w32 w.heap.size (fun k_ => some k_ ≠ (v215 : Value).ownBlock ∧ some k_ ≠ (u211002 : Value).ownBlock) v212 y211) := ⟨h0_⟩
        have n1_ : Aside0 (Kd.R Kd.bool 4 w32 w.heap.size (fun k_ => some k_ ≠ (v212 : Value).ownBlock ∧ some k_ ≠ (u211002 : Value).ownBlock) v215 y214) := ⟨h1_⟩
        have n2_ : Aside0 (Kd.R (Kd.int .i64) 3 w32 w.heap.size (fun k_ => some k_ ≠ (.slice Ao24 x210003_1.length co24 : Value).ownBlock ∧ some k_ ≠ (u211003 : Value).ownBlock) v219 y218) := ⟨h2_⟩
        have n3_ : Aside0 (Kd.R (Kd.int .i64) 3 w32 w.heap.size (fun k_ => some k_ ≠ (v219 : Value).ownBlock ∧ some k_ ≠ (u211003 : Value).ownBlock) (.slice Ao24 x210003_1.length co24) x210003_1) := ⟨h3_⟩
        have n4_ : Aside0 (Kd.R Kd.bool 4 w32 w.heap.size (fun k_ => some k_ ≠ (v212 : Value).ownBlock ∧ some k_ ≠ (v215 : Value).ownBlock) u211002 x211002_1) := ⟨h4_⟩
        have n5_ : Aside0 (Kd.R (Kd.int .i64) 3 w32 w.heap.size (fun k_ => some k_ ≠ (v219 : Value).ownBlock ∧ some k_ ≠ (.slice Ao24 x210003_1.length co24 : Value).ownBlock) u211003 x211003_1) := ⟨h5_⟩
        have n6_ : Aside0 (w32.heap[gb209]? = some (.cells #[.int .i64 3, .int .i64 0, .slice Ao23 x210002_1.length co23, .slice Ao24 x210003_1.length co24] 25 (0, 0))) := ⟨h6_⟩
        have n7_ : Aside0 (w32.heap[gb210]? = some (.cells #[.int .i64 3, .int .i64 0, u211002, u211003] 25 (0, 0))) := ⟨h7_⟩
        have n8_ : Aside0 (Below w.heap.size w w32) := ⟨h8_⟩
        clear HO_210002
        clear HO_210003
        clear HO_211002
        clear HO_211003
        clear BK209
        clear BK210
        clear HB
        clear h0_ h1_ h2_ h3_ h4_ h5_ h6_ h7_ h8_
        have HO213 := n0_
        have HO216 := n1_
        have HO220 := n2_
        have HO_210003 := n3_
        have HO_211002 := n4_
        have HO_211003 := n5_
        have BK209 := n6_
        have BK210 := n7_
        have HB := n8_
        clear n0_ n1_ n2_ n3_ n4_ n5_ n6_ n7_ n8_
        have hHeld : w32.cell? ⟨gb209, 0, none⟩ = some (.int .i64 3) ∧ w32.cell? ⟨gb209, 1, none⟩ = some (.int .i64 0) ∧ w32.cell? ⟨gb209, 2, none⟩ = some (.slice Ao23 x210002_1.length co23) ∧ w32.cell? ⟨gb209, 3, none⟩ = some (.slice Ao24 x210003_1.length co24) ∧ w32.cell? (ad217.add (x11_1).toNat) = some (.int .i64 (rd l0 x11_1)) := hS_
        obtain ⟨Ao34, co34, eo34⟩ := Kd.R_slice HO220.out
        (first | subst eo34 | (injection eo34 with f1_ f2_ f3_; have f4_ := f1_.symm; have f5_ := f3_.symm; clear f1_ f2_ f3_; subst f4_; subst f5_))
        refine norm_ (a' := ?_) ?_ ?_
        rotate_left
        · simp only [putAll, Act.put, List.setIfInBounds_toArray, List.set_cons_zero, List.set_cons_succ]
          rfl
        refine one_ (i := 11) (N := some 46) #[true, true, true, true, true, true, true, true, true, true, true, true, true, false, false, false] rfl rfl (one_of HT_.out (by kernel_rfl)) (by decide) (fun K hK => ?_)
        refine Kd.R_append_rows_step (Kd.int .i64) (w0 := w) w.heap.size (by rfl) (.tmp 40) (.tmp 45) 22 3 (.int .i64 0) 8 rfl Try.underlying22 info3 rfl (by decide) (by omega) (.slice Ao24 x210003_1.length co24) x210003_1 y218 _ _ _ (fun k_ => some k_ ≠ (u211003 : Value).ownBlock ∧ some k_ ≠ (.slice Ao34 y218.length co34 : Value).ownBlock) (fun _ => False) rfl rfl ?aO ?aR (fun _ _ h => h) (fun _ h => h.elim) ?aF ?aB ?aS ?aL ?_
        (case aR => repeat (first | exact (Kd.R_reads' HO220.out).2.2 | (with_reducible refine Kd.C_alloc ?_ _) | (with_reducible refine Kd.C_drewN ?_ _) | (with_reducible refine Kd.C_drew ?_)))
        (case aB => exact (by repeat (first | (with_reducible first | exact HB.out | apply below_alloc | apply pw_below_drewN | apply below_drew1 | refine below_set ?_ GE209.out | refine below_set ?_ GE210.out) | exact HB.out)))
        (case aF => exact (fun k_ hk => ⟨Kd.fresh' (Kd.R_lt (by (with_reducible repeat (first | apply Kd.R_alloc | apply Kd.R_drewN | apply Kd.R_drew)); exact HO_211003.out)) k_ hk, Kd.fresh' (Kd.R_lt (by (with_reducible repeat (first | apply Kd.R_alloc | apply Kd.R_drewN | apply Kd.R_drew)); exact HO220.out)) k_ hk⟩))
        (case aO => exact (by (with_reducible repeat (first | apply Kd.R_alloc | apply Kd.R_drewN | apply Kd.R_drew)); exact Kd.R_mono HO_210003.out (fun _ hk => ⟨hk.2, hk.1⟩)))
        (case aS => exact (below_size (by repeat (first | (with_reducible first | exact HB.out | apply below_alloc | apply pw_below_drewN | apply below_drew1 | refine below_set ?_ GE209.out | refine below_set ?_ GE210.out) | exact HB.out))))
        (case aL => have := LMc18.out; omega)
        intro v222 w33 ho hb hg hat
        rw [← Ny221.out] at ho
        have n0_ := Aside0.mk (Kd.R_over' (by (with_reducible repeat (first | apply Kd.R_alloc | apply Kd.R_drewN | apply Kd.R_drew)); exact HO_211002.out) (Kd.R_typed (by (with_reducible repeat (first | apply Kd.R_alloc | apply Kd.R_drewN | apply Kd.R_drew)); exact HO_210003.out)) (by decide) hg)
        have n1_ := Aside0.mk (Kd.R_after (ok := (fun k_ => some k_ ≠ (.slice Ao34 y218.length co34 : Value).ownBlock)) (by (with_reducible repeat (first | apply Kd.R_alloc | apply Kd.R_drewN | apply Kd.R_drew)); exact HO_211003.out) hg hat)
        have n2_ := Aside0.mk (blk_grown (g := gb209) (o := .cells #[.int .i64 3, .int .i64 0, .slice Ao23 x210002_1.length co23, .slice Ao24 x210003_1.length co24] 25 (0, 0)) (by (with_reducible repeat (first | refine blk_drewN ?_ _ | refine blk_drew ?_ | refine blk_alloc ?_ _)); exact BK209.out) hg (Kd.R_ne HO_210003.out BK209.out (by decide)))
        have n3_ := Aside0.mk (blk_grown (g := gb210) (o := .cells #[.int .i64 3, .int .i64 0, u211002, u211003] 25 (0, 0)) (by (with_reducible repeat (first | refine blk_drewN ?_ _ | refine blk_drew ?_ | refine blk_alloc ?_ _)); exact BK210.out) hg (Kd.R_ne HO_210003.out BK210.out (by decide)))
        have n4_ := Aside0.mk (Kd.R_over' (by (with_reducible repeat (first | apply Kd.R_alloc | apply Kd.R_drewN | apply Kd.R_drew)); exact HO213.out) (Kd.R_typed (by (with_reducible repeat (first | apply Kd.R_alloc | apply Kd.R_drewN | apply Kd.R_drew)); exact HO_210003.out)) (by decide) hg)
        have n5_ := Aside0.mk (Kd.R_over' (by (with_reducible repeat (first | apply Kd.R_alloc | apply Kd.R_drewN | apply Kd.R_drew)); exact HO216.out) (Kd.R_typed (by (with_reducible repeat (first | apply Kd.R_alloc | apply Kd.R_drewN | apply Kd.R_drew)); exact HO_210003.out)) (by decide) hg)
        have n6_ := Aside0.mk (Kd.R_after (ok := (fun k_ => some k_ ≠ (u211003 : Value).ownBlock)) (by (with_reducible repeat (first | apply Kd.R_alloc | apply Kd.R_drewN | apply Kd.R_drew)); exact Kd.R_mono HO220.out (fun _ hk => ⟨hk.2, hk.1⟩)) hg hat)
        have n7_ := Aside0.mk (hb)
        have n8_ := Aside0.mk (ho)
        clear HO_211002
        clear HO_211003
        clear BK209
        clear BK210
        clear HO213
        clear HO216
        clear HO220
        clear HB
        clear HO_210003
        have HO_211002 := n0_
        have HO_211003 := n1_
        have BK209 := n2_
        have BK210 := n3_
        have HO213 := n4_
        have HO216 := n5_
        have HO220 := n6_
        have HB := n7_
        have HO223 := n8_
        clear n0_ n1_ n2_ n3_ n4_ n5_ n6_ n7_ n8_
        clear ho hb hg hat
        obtain ⟨Ao35, co35, eo35⟩ := Kd.R_slice HO216.out
        (first | subst eo35 | (injection eo35 with f1_ f2_ f3_; have f4_ := f1_.symm; have f5_ := f3_.symm; clear f1_ f2_ f3_; subst f4_; subst f5_))
        obtain ⟨Ao37, co37, eo37⟩ := Kd.R_slice HO223.out
        (first | subst eo37 | (injection eo37 with f1_ f2_ f3_; have f4_ := f1_.symm; have f5_ := f3_.symm; clear f1_ f2_ f3_; subst f4_; subst f5_))
        refine hK.out _ _ ⟨(blk_cell BK209.out 0).trans rfl, (blk_cell BK209.out 1).trans rfl, (blk_cell BK209.out 2).trans rfl, (blk_cell BK209.out 3).trans rfl, ((HB.out.cell (World.block_lt_of_cell? w _ hw217_0)).trans hw217_0)⟩ (fun hHeld => ?_)
        clear hK K
        refine norm_ (a' := ?_) ?_ ?_
        rotate_left
        · show Act.put _ (some 46) _ = _
          simp only [Act.put, List.setIfInBounds_toArray, List.set_cons_zero, List.set_cons_succ, i64_w, i32_w]
          rfl
        refine last_ (i := 13) (N := none) #[true, true, true, true, true, true, true, true, true, true, true, true, true, true, false, false] rfl rfl (one_of HT_.out (by kernel_rfl)) (by decide) (fun K hK => ?_)
        have hs36 : w33.cell? ⟨gb209, 2, none⟩ = some (.slice Ao23 x210002_1.length co23) := (blk_cell BK209.out 2).trans rfl
        have hfs36 := blk_frozen BK209.out 2
        have hns36_1 := NB210_209.out
        have hms36_1 := NB209_210.out
        refine skip_ (w1 := ?_) (by rfl) rfl ?_ ?_
        rotate_left
        · go_simp
          rfl
        refine hK.out _ _ ?_
        clear hK K
        refine pure_ (i := 14) (N := some 48) (v := ?_) (a' := ?_) #[true, true, true, true, true, true, true, true, true, true, true, true, true, true, true, false] rfl rfl (any_of HT_.out (by kernel_rfl)) (fun _ _ _ h => h) (Or.inl ⟨by rfl, ?_⟩) ?_ ?_
        rotate_left
        · intro w'
          go_simp
          with_reducible rfl
        rotate_left
        · simp only [Act.put, List.setIfInBounds_toArray, List.set_cons_zero, List.set_cons_succ, i64_w, i32_w]
          rfl
        refine last_ (i := 15) (N := none) #[true, true, true, true, true, true, true, true, true, true, true, true, true, true, true, true] rfl rfl (one_of HT_.out (by kernel_rfl)) (by decide) (fun K hK => ?_)
        have hs38 : w33.cell? ⟨gb209, 3, none⟩ = some (.slice Ao24 x210003_1.length co24) := (blk_cell BK209.out 3).trans rfl
        have hfs38 := blk_frozen BK209.out 3
        have hns38_1 := NB210_209.out
        have hms38_1 := NB209_210.out
        refine skip_ (w1 := ?_) (by rfl) rfl ?_ ?_
        rotate_left
        · go_simp
          rfl
        refine hK.out _ _ ?_
        clear hK K
        refine done_ (done_of HT_.out (by kernel_rfl)) ?_
        obtain ⟨Ao39, co39, eo39⟩ := Kd.R_slice HO_211002.out
        subst eo39
        obtain ⟨Ao40, co40, eo40⟩ := Kd.R_slice HO_211003.out
        subst eo40
        try go_wp2
        have n0_ : Aside0 (Kd.R Kd.bool 4 ((w33.setCell ⟨gb209, 2, none⟩ (.slice Ao35 y214.length co35)).setCell ⟨gb209, 3, none⟩ (.slice Ao37 y221.length co37)) w.heap.size (fun k_ => some k_ ≠ (v212 : Value).ownBlock ∧ some k_ ≠ (.slice Ao35 y214.length co35 : Value).ownBlock) (.slice Ao39 x211002_1.length co39) x211002_1) := ⟨by (with_reducible repeat (first | apply Kd.R_alloc | apply Kd.R_drewN | apply Kd.R_drew)); exact Kd.R_mono (Kd.R_far (p := ⟨gb209, 3, none⟩) (Kd.R_far (p := ⟨gb209, 2, none⟩) (Kd.R_types HO_211002.out BK209.out (by decide)) (fun _ hk => hk.2) (.slice Ao35 y214.length co35)) (fun _ hk => hk.2) (.slice Ao37 y221.length co37)) (fun _ hk => ⟨hk.1.1, hk.1.2⟩)⟩
        have n1_ : Aside0 (Kd.R (Kd.int .i64) 3 ((w33.setCell ⟨gb209, 2, none⟩ (.slice Ao35 y214.length co35)).setCell ⟨gb209, 3, none⟩ (.slice Ao37 y221.length co37)) w.heap.size (fun k_ => some k_ ≠ (.slice Ao34 y218.length co34 : Value).ownBlock ∧ some k_ ≠ (.slice Ao37 y221.length co37 : Value).ownBlock) (.slice Ao40 x211003_1.length co40) x211003_1) := ⟨by (with_reducible repeat (first | apply Kd.R_alloc | apply Kd.R_drewN | apply Kd.R_drew)); exact Kd.R_mono (Kd.R_far (p := ⟨gb209, 3, none⟩) (Kd.R_far (p := ⟨gb209, 2, none⟩) (Kd.R_types HO_211003.out BK209.out (by decide)) (fun _ hk => hk.2) (.slice Ao35 y214.length co35)) (fun _ hk => hk.2) (.slice Ao37 y221.length co37)) (fun _ hk => ⟨hk.1.1, hk.1.2⟩)⟩
        have n2_ : Aside0 (Kd.R Kd.bool 4 ((w33.setCell ⟨gb209, 2, none⟩ (.slice Ao35 y214.length co35)).setCell ⟨gb209, 3, none⟩ (.slice Ao37 y221.length co37)) w.heap.size (fun k_ => some k_ ≠ (.slice Ao39 x211002_1.length co39 : Value).ownBlock ∧ some k_ ≠ (.slice Ao35 y214.length co35 : Value).ownBlock) v212 y211) := ⟨by (with_reducible repeat (first | apply Kd.R_alloc | apply Kd.R_drewN | apply Kd.R_drew)); exact Kd.R_mono (Kd.R_far (p := ⟨gb209, 3, none⟩) (Kd.R_far (p := ⟨gb209, 2, none⟩) (Kd.R_types HO213.out BK209.out (by decide)) (fun _ hk => hk.2) (.slice Ao35 y214.length co35)) (fun _ hk => hk.2) (.slice Ao37 y221.length co37)) (fun _ hk => ⟨hk.1.2, hk.1.1⟩)⟩
        have n3_ : Aside0 (Kd.R Kd.bool 4 ((w33.setCell ⟨gb209, 2, none⟩ (.slice Ao35 y214.length co35)).setCell ⟨gb209, 3, none⟩ (.slice Ao37 y221.length co37)) w.heap.size (fun k_ => some k_ ≠ (.slice Ao39 x211002_1.length co39 : Value).ownBlock ∧ some k_ ≠ (v212 : Value).ownBlock) (.slice Ao35 y214.length co35) y214) := ⟨by (with_reducible repeat (first | apply Kd.R_alloc | apply Kd.R_drewN | apply Kd.R_drew)); exact Kd.R_mono (Kd.R_far (p := ⟨gb209, 3, none⟩) (Kd.R_far (p := ⟨gb209, 2, none⟩) (Kd.R_types HO216.out BK209.out (by decide)) (fun _ hk => hk.2) (.slice Ao35 y214.length co35)) (fun _ hk => hk.2) (.slice Ao37 y221.length co37)) (fun _ hk => ⟨hk.1.2, hk.1.1⟩)⟩
        have n4_ : Aside0 (Kd.R (Kd.int .i64) 3 ((w33.setCell ⟨gb209, 2, none⟩ (.slice Ao35 y214.length co35)).setCell ⟨gb209, 3, none⟩ (.slice Ao37 y221.length co37)) w.heap.size (fun k_ => some k_ ≠ (.slice Ao40 x211003_1.length co40 : Value).ownBlock ∧ some k_ ≠ (.slice Ao37 y221.length co37 : Value).ownBlock) (.slice Ao34 y218.length co34) y218) := ⟨by (with_reducible repeat (first | apply Kd.R_alloc | apply Kd.R_drewN | apply Kd.R_drew)); exact Kd.R_mono (Kd.R_far (p := ⟨gb209, 3, none⟩) (Kd.R_far (p := ⟨gb209, 2, none⟩) (Kd.R_types HO220.out BK209.out (by decide)) (fun _ hk => hk.2) (.slice Ao35 y214.length co35)) (fun _ hk => hk.2) (.slice Ao37 y221.length co37)) (fun _ hk => ⟨hk.1.1, hk.1.2⟩)⟩
        have n5_ : Aside0 (Kd.R (Kd.int .i64) 3 ((w33.setCell ⟨gb209, 2, none⟩ (.slice Ao35 y214.length co35)).setCell ⟨gb209, 3, none⟩ (.slice Ao37 y221.length co37)) w.heap.size (fun k_ => some k_ ≠ (.slice Ao40 x211003_1.length co40 : Value).ownBlock ∧ some k_ ≠ (.slice Ao34 y218.length co34 : Value).ownBlock) (.slice Ao37 y221.length co37) y221) := ⟨by (with_reducible repeat (first | apply Kd.R_alloc | apply Kd.R_drewN | apply Kd.R_drew)); exact Kd.R_mono (Kd.R_far (p := ⟨gb209, 3, none⟩) (Kd.R_far (p := ⟨gb209, 2, none⟩) (Kd.R_types HO223.out BK209.out (by decide)) (fun _ hk => hk.2) (.slice Ao35 y214.length co35)) (fun _ hk => hk.2) (.slice Ao37 y221.length co37)) (fun _ hk => ⟨hk.1.1, hk.1.2⟩)⟩
        have n6_ : Aside0 (((w33.setCell ⟨gb209, 2, none⟩ (.slice Ao35 y214.length co35)).setCell ⟨gb209, 3, none⟩ (.slice Ao37 y221.length co37)).heap[gb209]? = some (.cells #[.int .i64 3, .int .i64 0, .slice Ao35 y214.length co35, .slice Ao37 y221.length co37] 25 (0, 0))) := ⟨by (with_reducible repeat (first | refine blk_drewN ?_ _ | refine blk_drew ?_ | refine blk_alloc ?_ _)); refine blk_put (cs := #[.int .i64 3, .int .i64 0, .slice Ao35 y214.length co35, .slice Ao24 x210003_1.length co24]) ?_ 3 _ rfl; (with_reducible repeat (first | refine blk_drewN ?_ _ | refine blk_drew ?_ | refine blk_alloc ?_ _)); refine blk_put (cs := #[.int .i64 3, .int .i64 0, .slice Ao23 x210002_1.length co23, .slice Ao24 x210003_1.length co24]) ?_ 2 _ rfl; (with_reducible repeat (first | refine blk_drewN ?_ _ | refine blk_drew ?_ | refine blk_alloc ?_ _)); exact BK209.out⟩
        have n7_ : Aside0 (((w33.setCell ⟨gb209, 2, none⟩ (.slice Ao35 y214.length co35)).setCell ⟨gb209, 3, none⟩ (.slice Ao37 y221.length co37)).heap[gb210]? = some (.cells #[.int .i64 3, .int .i64 0, .slice Ao39 x211002_1.length co39, .slice Ao40 x211003_1.length co40] 25 (0, 0))) := ⟨by (with_reducible repeat (first | refine blk_drewN ?_ _ | refine blk_drew ?_ | refine blk_alloc ?_ _)); refine blk_far ?_ NB210_209.out _; (with_reducible repeat (first | refine blk_drewN ?_ _ | refine blk_drew ?_ | refine blk_alloc ?_ _)); refine blk_far ?_ NB210_209.out _; (with_reducible repeat (first | refine blk_drewN ?_ _ | refine blk_drew ?_ | refine blk_alloc ?_ _)); exact BK210.out⟩
        have n8_ : Aside0 (Below w.heap.size w ((w33.setCell ⟨gb209, 2, none⟩ (.slice Ao35 y214.length co35)).setCell ⟨gb209, 3, none⟩ (.slice Ao37 y221.length co37))) := ⟨by repeat (first | (with_reducible first | exact HB.out | apply below_alloc | apply pw_below_drewN | apply below_drew1 | refine below_set ?_ GE209.out | refine below_set ?_ GE210.out) | exact HB.out)⟩
        (try clear HO_211002)
        (try clear HO_211003)
        (try clear HO213)
        (try clear HO216)
        (try clear HO220)
        (try clear HO223)
        (try clear BK209)
        (try clear BK210)
        (try clear HB)
        generalize ((w33.setCell ⟨gb209, 2, none⟩ (.slice Ao35 y214.length co35)).setCell ⟨gb209, 3, none⟩ (.slice Ao37 y221.length co37)) = w41 at n0_ n1_ n2_ n3_ n4_ n5_ n6_ n7_ n8_ ⊢
        have HO_211002 := n0_
        have HO_211003 := n1_
        have HO213 := n2_
        have HO216 := n3_
        have HO220 := n4_
        have HO223 := n5_
        have BK209 := n6_
        have BK210 := n7_
        have HB := n8_
        clear n0_ n1_ n2_ n3_ n4_ n5_ n6_ n7_ n8_
        have n0_ := Aside0.mk (Kd.R_drew HO_211002.out)
        have n1_ := Aside0.mk (Kd.R_drew HO_211003.out)
        have n2_ := Aside0.mk (Kd.R_drew HO213.out)
        have n3_ := Aside0.mk (Kd.R_drew HO216.out)
        have n4_ := Aside0.mk (Kd.R_drew HO220.out)
        have n5_ := Aside0.mk (Kd.R_drew HO223.out)
        have n6_ := Aside0.mk (blk_drew BK209.out)
        have n7_ := Aside0.mk (blk_drew BK210.out)
        have n8_ := Aside0.mk (below_drew1 HB.out)
        clear HO_211002
        clear HO_211003
        clear HO213
        clear HO216
        clear HO220
        clear HO223
        clear BK209
        clear BK210
        clear HB
        have HO_211002 := n0_
        have HO_211003 := n1_
        have HO213 := n2_
        have HO216 := n3_
        have HO220 := n4_
        have HO223 := n5_
        have BK209 := n6_
        have BK210 := n7_
        have HB := n8_
        clear n0_ n1_ n2_ n3_ n4_ n5_ n6_ n7_ n8_
        have p230 : 0 ≤ (x11_1 : Int) := of_decide_eq_true (by first | (with_reducible assumption) | assumption)
        have q230 : x11_1 < (l1.length : Int) := of_decide_eq_true (by first | (with_reducible assumption) | assumption)
        obtain ⟨ad230, e230, hx230_0⟩ := Kd.at_int HR1.out x11_1 p230 q230
        have hw230_0 := hx230_0
        cases e230
        replace hx230_0 := (HB.out.cell (World.block_lt_of_cell? w _ hx230_0)).trans hx230_0
        replace p230 := eq_true p230
        replace q230 := eq_true q230
        refine start_ (n := 17) (S := fun w' => w'.cell? ⟨gb210, 0, none⟩ = some (.int .i64 3) ∧ w'.cell? ⟨gb210, 1, none⟩ = some (.int .i64 0) ∧ w'.cell? ⟨gb210, 2, none⟩ = some (.slice Ao39 x211002_1.length co39) ∧ w'.cell? ⟨gb210, 3, none⟩ = some (.slice Ao40 x211003_1.length co40) ∧ w'.cell? (ad230.add (x11_1).toNat) = some (.int .i64 (rd l1 x11_1))) (ds := [14, 16]) #[false, false, false, false, false, false, false, false, false, false, false, false, false, false, false, false, false] (by kernel_rfl) rfl rfl ⟨(blk_cell BK210.out 0).trans rfl, (blk_cell BK210.out 1).trans rfl, (blk_cell BK210.out 2).trans rfl, (blk_cell BK210.out 3).trans rfl, ((HB.out.cell (World.block_lt_of_cell? w _ hw230_0)).trans hw230_0)⟩ (fun hHeld => ?_); refine with_tabW debuggerlaw41_WatchpointWords.tab9 debuggerlaw41_WatchpointWords.bits9 (fun HT_ HW_ => ?_)
        generalize w41.drew = w42 at HO_211002 HO_211003 HO213 HO216 HO220 HO223 BK209 BK210 HB hx230_0 hHeld ⊢
        refine pure_ (i := 0) (N := some 49) (v := ?_) (a' := ?_) #[true, false, false, false, false, false, false, false, false, false, false, false, false, false, false, false, false] rfl rfl (any_of HT_.out (by kernel_rfl)) (fun _ _ _ h => h) (Or.inl ⟨by rfl, ?_⟩) ?_ ?_
        rotate_left
        · intro w'
          go_simp
          with_reducible rfl
        rotate_left
        · simp only [Act.put, List.setIfInBounds_toArray, List.set_cons_zero, List.set_cons_succ, i64_w, i32_w]
          rfl
        refine pure_ (i := 2) (N := some 51) (v := ?_) (a' := ?_) #[true, false, true, false, false, false, false, false, false, false, false, false, false, false, false, false, false] rfl rfl (any_of HT_.out (by kernel_rfl)) (fun _ _ _ h => h) (Or.inl ⟨by rfl, ?_⟩) ?_ ?_
        rotate_left
        · intro w'
          go_simp
          with_reducible rfl
        rotate_left
        · simp only [Act.put, List.setIfInBounds_toArray, List.set_cons_zero, List.set_cons_succ, i64_w, i32_w]
          rfl
        refine pure_ (i := 5) (N := some 54) (v := ?_) (a' := ?_) #[true, false, true, false, false, true, false, false, false, false, false, false, false, false, false, false, false] rfl rfl (any_of HT_.out (by kernel_rfl)) (fun _ _ _ h => h) (Or.inl ⟨by rfl, ?_⟩) ?_ ?_
        rotate_left
        · intro w'
          go_simp
          with_reducible rfl
        rotate_left
        · simp only [Act.put, List.setIfInBounds_toArray, List.set_cons_zero, List.set_cons_succ, i64_w, i32_w]
          rfl
        refine pure_ (i := 7) (N := some 56) (v := ?_) (a' := ?_) #[true, false, true, false, false, true, false, true, false, false, false, false, false, false, false, false, false] rfl rfl (any_of HT_.out (by kernel_rfl)) (fun _ _ _ h => h) (Or.inl ⟨by rfl, ?_⟩) ?_ ?_
        rotate_left
        · intro w'
          go_simp
          with_reducible rfl
        rotate_left
        · simp only [Act.put, List.setIfInBounds_toArray, List.set_cons_zero, List.set_cons_succ, i64_w, i32_w]
          rfl
        refine pure_ (i := 8) (N := some 57) (v := ?_) (a' := ?_) #[true, false, true, false, false, true, false, true, true, false, false, false, false, false, false, false, false] rfl rfl (any_of HT_.out (by kernel_rfl)) (fun _ _ _ h => h) (Or.inl ⟨by rfl, ?_⟩) ?_ ?_
        rotate_left
        · intro w'
          go_simp
          with_reducible rfl
        rotate_left
        · simp only [Act.put, List.setIfInBounds_toArray, List.set_cons_zero, List.set_cons_succ, i64_w, i32_w]
          rfl
        refine pure_ (i := 9) (N := some 58) (v := ?_) (a' := ?_) #[true, false, true, false, false, true, false, true, true, true, false, false, false, false, false, false, false] rfl rfl (any_of HT_.out (by kernel_rfl)) (fun _ _ _ h => h) (Or.inl ⟨by rfl, ?_⟩) ?_ ?_
        rotate_left
        · intro w'
          go_simp
          with_reducible rfl
        rotate_left
        · simp only [Act.put, List.setIfInBounds_toArray, List.set_cons_zero, List.set_cons_succ, i64_w, i32_w]
          rfl
        refine take_ (i := 1) (N := some 50) (v := ?_) (a' := ?_) #[true, true, true, false, false, true, false, true, true, true, false, false, false, false, false, false, false] rfl rfl (take_ofW HT_.out HW_.out (by kernel_rfl)) (fun _ _ _ h => h) (Or.inl ⟨by rfl, ?_⟩) hHeld ?_ ?_
        rotate_left
        · rintro w' ⟨s0, s1, s2, s3, s4⟩
          go_simp
          with_reducible rfl
        rotate_left
        · simp only [Act.put, List.setIfInBounds_toArray, List.set_cons_zero, List.set_cons_succ, i64_w, i32_w]
          rfl
        refine take_ (i := 6) (N := some 55) (v := ?_) (a' := ?_) #[true, true, true, false, false, true, true, true, true, true, false, false, false, false, false, false, false] rfl rfl (take_ofW HT_.out HW_.out (by kernel_rfl)) (fun _ _ _ h => h) (Or.inl ⟨by rfl, ?_⟩) hHeld ?_ ?_
        rotate_left
        · rintro w' ⟨s0, s1, s2, s3, s4⟩
          go_simp
          with_reducible rfl
        rotate_left
        · simp only [Act.put, List.setIfInBounds_toArray, List.set_cons_zero, List.set_cons_succ, i64_w, i32_w]
          rfl
        refine take_ (i := 10) (N := some 59) (v := ?_) (a' := ?_) #[true, true, true, false, false, true, true, true, true, true, true, false, false, false, false, false, false] rfl rfl (take_ofW HT_.out HW_.out (by kernel_rfl)) (fun _ _ _ h => h) (Or.inl ⟨by rfl, ?_⟩) hHeld ?_ ?_
        rotate_left
        · rintro w' ⟨s0, s1, s2, s3, s4⟩
          go_simp
          with_reducible rfl
        rotate_left
        · simp only [Act.put, List.setIfInBounds_toArray, List.set_cons_zero, List.set_cons_succ, i64_w, i32_w]
          rfl
        refine join_ (σ := Value × Value × Value) 4 #[true, true, true, true, true, true, true, true, true, true, true, true, false, true, false, false, false] (fun s_ => [(52, s_.1), (53, s_.2.1), (60, s_.2.2), (62, .pointer (some ⟨gb210, 2, none⟩))]) (fun s_ w' => (w'.cell? ⟨gb210, 0, none⟩ = some (.int .i64 3) ∧ w'.cell? ⟨gb210, 1, none⟩ = some (.int .i64 0) ∧ w'.cell? ⟨gb210, 2, none⟩ = some (.slice Ao39 x211002_1.length co39) ∧ w'.cell? ⟨gb210, 3, none⟩ = some (.slice Ao40 x211003_1.length co40) ∧ w'.cell? (ad230.add (x11_1).toNat) = some (.int .i64 (rd l1 x11_1))) ∧ (Kd.R Kd.bool 4 w' w.heap.size (fun k_ => some k_ ≠ (.slice Ao35 y214.length co35 : Value).ownBlock ∧ some k_ ≠ (s_.1 : Value).ownBlock ∧ some k_ ≠ (s_.2.1 : Value).ownBlock) v212 y211) ∧ (Kd.R Kd.bool 4 w' w.heap.size (fun k_ => some k_ ≠ (v212 : Value).ownBlock ∧ some k_ ≠ (s_.1 : Value).ownBlock ∧ some k_ ≠ (s_.2.1 : Value).ownBlock) (.slice Ao35 y214.length co35) y214) ∧ (Kd.R (Kd.int .i64) 3 w' w.heap.size (fun k_ => some k_ ≠ (.slice Ao37 y221.length co37 : Value).ownBlock ∧ some k_ ≠ (s_.2.2 : Value).ownBlock ∧ some k_ ≠ (.slice Ao40 x211003_1.length co40 : Value).ownBlock) (.slice Ao34 y218.length co34) y218) ∧ (Kd.R (Kd.int .i64) 3 w' w.heap.size (fun k_ => some k_ ≠ (.slice Ao34 y218.length co34 : Value).ownBlock ∧ some k_ ≠ (s_.2.2 : Value).ownBlock ∧ some k_ ≠ (.slice Ao40 x211003_1.length co40 : Value).ownBlock) (.slice Ao37 y221.length co37) y221) ∧ (Kd.R Kd.bool 4 w' w.heap.size (fun k_ => some k_ ≠ (v212 : Value).ownBlock ∧ some k_ ≠ (.slice Ao35 y214.length co35 : Value).ownBlock ∧ some k_ ≠ (s_.2.1 : Value).ownBlock) s_.1 y224) ∧ (Kd.R Kd.bool 4 w' w.heap.size (fun k_ => some k_ ≠ (v212 : Value).ownBlock ∧ some k_ ≠ (.slice Ao35 y214.length co35 : Value).ownBlock ∧ some k_ ≠ (s_.1 : Value).ownBlock) s_.2.1 y227) ∧ (Kd.R (Kd.int .i64) 3 w' w.heap.size (fun k_ => some k_ ≠ (.slice Ao34 y218.length co34 : Value).ownBlock ∧ some k_ ≠ (.slice Ao37 y221.length co37 : Value).ownBlock ∧ some k_ ≠ (.slice Ao40 x211003_1.length co40 : Value).ownBlock) s_.2.2 y231) ∧ (Kd.R (Kd.int .i64) 3 w' w.heap.size (fun k_ => some k_ ≠ (.slice Ao34 y218.length co34 : Value).ownBlock ∧ some k_ ≠ (.slice Ao37 y221.length co37 : Value).ownBlock ∧ some k_ ≠ (s_.2.2 : Value).ownBlock) (.slice Ao40 x211003_1.length co40) x211003_1) ∧ (w'.heap[gb209]? = some (.cells #[.int .i64 3, .int .i64 0, .slice Ao35 y214.length co35, .slice Ao37 y221.length co37] 25 (0, 0))) ∧ (w'.heap[gb210]? = some (.cells #[.int .i64 3, .int .i64 0, .slice Ao39 x211002_1.length co39, .slice Ao40 x211003_1.length co40] 25 (0, 0))) ∧ (Below w.heap.size w w')) ?_ ?_
        rotate_left
        · intro hCont
          refine two_ (i := 3) (j := 11) (Ni := some 52) (Nj := some 60) #[true, true, true, true, false, true, true, true, true, true, true, false, false, false, false, false, false] #[true, true, true, false, false, true, true, true, true, true, true, true, false, false, false, false, false] rfl rfl rfl rfl (two_of HT_.out (by kernel_rfl)) (by decide) (by decide) (fun K hK => ?_) (fun K hK => ?_)
          · skip
            refine Kd.R_lit_step Kd.bool _ 4 ?hg (N := 52) ?hd (xs := ([((Go.bits .and .i64 (ji14) 1) == 0)] : List Bool)) (inner := [.bool ((Go.bits .and .i64 (ji14) 1) == 0)]) (ok := fun _ => True) (okp := fun _ => True) ?hr ?hp (fun _ hk => hk) trivial (Below.refl _ _) (Nat.le_refl _) (by simp) ?_; (case hd => rfl); (case hg => rfl); (case hr => first | (go_simp; done) | (go_simp; rfl)); (case hp => exact (Reps.one (show Kd.M Kd.bool _ _ _ ((Go.bits .and .i64 (ji14) 1) == 0) [.bool ((Go.bits .and .i64 (ji14) 1) == 0)] from rfl) (Reps.none _ _)))
            intro v225 w43 ho44 hb hg_ hnew_
            clear hg_ hnew_
            (first | rw [← Ny224.out] at ho44 | (simp only [Int.reduceToNat] at ho44; rw [← Ny224.out] at ho44))
            have n0_ := Aside0.mk (Kd.R_elder' (by (with_reducible repeat (first | apply Kd.R_alloc | apply Kd.R_drewN | apply Kd.R_drew)); exact HO_211002.out) (Kd.R_base ho44) hb)
            have n1_ := Aside0.mk (Kd.R_below (by (with_reducible repeat (first | apply Kd.R_alloc | apply Kd.R_drewN | apply Kd.R_drew)); exact HO_211003.out) hb)
            have n2_ := Aside0.mk (Kd.R_elder' (by (with_reducible repeat (first | apply Kd.R_alloc | apply Kd.R_drewN | apply Kd.R_drew)); exact HO213.out) (Kd.R_base ho44) hb)
            have n3_ := Aside0.mk (Kd.R_elder' (by (with_reducible repeat (first | apply Kd.R_alloc | apply Kd.R_drewN | apply Kd.R_drew)); exact HO216.out) (Kd.R_base ho44) hb)
            have n4_ := Aside0.mk (Kd.R_below (by (with_reducible repeat (first | apply Kd.R_alloc | apply Kd.R_drewN | apply Kd.R_drew)); exact HO220.out) hb)
            have n5_ := Aside0.mk (Kd.R_below (by (with_reducible repeat (first | apply Kd.R_alloc | apply Kd.R_drewN | apply Kd.R_drew)); exact HO223.out) hb)
            have n6_ := Aside0.mk (Kd.R_lower (Kd.R_new' (Kd.R_new' (Kd.R_new' ho44 (Kd.R_lt (by (with_reducible repeat (first | apply Kd.R_alloc | apply Kd.R_drewN | apply Kd.R_drew)); exact HO_211002.out))) (Kd.R_lt (by (with_reducible repeat (first | apply Kd.R_alloc | apply Kd.R_drewN | apply Kd.R_drew)); exact HO213.out))) (Kd.R_lt (by (with_reducible repeat (first | apply Kd.R_alloc | apply Kd.R_drewN | apply Kd.R_drew)); exact HO216.out))) (below_size (by repeat (first | (with_reducible first | exact HB.out | apply below_alloc | apply pw_below_drewN | apply below_drew1 | refine below_set ?_ GE209.out | refine below_set ?_ GE210.out) | exact HB.out))))
            have n7_ := Aside0.mk (blk_below (g := gb209) (o := .cells #[.int .i64 3, .int .i64 0, .slice Ao35 y214.length co35, .slice Ao37 y221.length co37] 25 (0, 0)) (by (with_reducible repeat (first | refine blk_drewN ?_ _ | refine blk_drew ?_ | refine blk_alloc ?_ _)); exact BK209.out) hb)
            have n8_ := Aside0.mk (blk_below (g := gb210) (o := .cells #[.int .i64 3, .int .i64 0, .slice Ao39 x211002_1.length co39, .slice Ao40 x211003_1.length co40] 25 (0, 0)) (by (with_reducible repeat (first | refine blk_drewN ?_ _ | refine blk_drew ?_ | refine blk_alloc ?_ _)); exact BK210.out) hb)
            have n9_ := Aside0.mk (below_step (by repeat (first | (with_reducible first | exact HB.out | apply below_alloc | apply pw_below_drewN | apply below_drew1 | refine below_set ?_ GE209.out | refine below_set ?_ GE210.out) | exact HB.out)) hb)
            clear HO_211002
            clear HO_211003
            clear HO213
            clear HO216
            clear HO220
            clear HO223
            clear BK209
            clear BK210
            clear HB
            have HO_211002 := n0_
            have HO_211003 := n1_
            have HO213 := n2_
            have HO216 := n3_
            have HO220 := n4_
            have HO223 := n5_
            have HO226 := n6_
            have BK209 := n7_
            have BK210 := n8_
            have HB := n9_
            clear n0_ n1_ n2_ n3_ n4_ n5_ n6_ n7_ n8_ n9_
            clear hb ho44
            obtain ⟨Ao46, co46, eo46⟩ := Kd.R_slice HO226.out
            (first | subst eo46 | (injection eo46 with f1_ f2_ f3_; have f4_ := f1_.symm; have f5_ := f3_.symm; clear f1_ f2_ f3_; subst f4_; subst f5_))
            refine hK.out _ _ ⟨(blk_cell BK210.out 0).trans rfl, (blk_cell BK210.out 1).trans rfl, (blk_cell BK210.out 2).trans rfl, (blk_cell BK210.out 3).trans rfl, ((HB.out.cell (World.block_lt_of_cell? w _ hw230_0)).trans hw230_0)⟩ (fun hHeld => ?_)
            clear hK K
            refine norm_ (a' := ?_) ?_ ?_
            rotate_left
            · show Act.put _ (some 52) _ = _
              simp only [Act.put, List.setIfInBounds_toArray, List.set_cons_zero, List.set_cons_succ, i64_w, i32_w]
              rfl
            refine two_ (i := 4) (j := 11) (Ni := some 53) (Nj := some 60) #[true, true, true, true, true, true, true, true, true, true, true, false, false, false, false, false, false] #[true, true, true, true, false, true, true, true, true, true, true, true, false, false, false, false, false] rfl rfl rfl rfl (two_of HT_.out (by kernel_rfl)) (by decide) (by decide) (fun K hK => ?_) (fun K hK => ?_)
            · skip
              refine Kd.R_append_rows_step Kd.bool (w0 := w) w.heap.size (by rfl) (.tmp 50) (.tmp 52) 23 4 (.bool false) 1 rfl Try.underlying23 info4 rfl (by decide) (by omega) (.slice Ao39 x211002_1.length co39) x211002_1 y224 _ _ _ (fun k_ => some k_ ≠ (v212 : Value).ownBlock ∧ some k_ ≠ (.slice Ao35 y214.length co35 : Value).ownBlock ∧ some k_ ≠ (.slice Ao46 y224.length co46 : Value).ownBlock) (fun _ => False) rfl rfl ?aO ?aR (fun _ _ h => h) (fun _ h => h.elim) ?aF ?aB ?aS ?aL ?_
              (case aR => repeat (first | exact (Kd.R_reads' HO226.out).2.2 | (with_reducible refine Kd.C_alloc ?_ _) | (with_reducible refine Kd.C_drewN ?_ _) | (with_reducible refine Kd.C_drew ?_)))
              (case aB => exact (by repeat (first | (with_reducible first | exact HB.out | apply below_alloc | apply pw_below_drewN | apply below_drew1 | refine below_set ?_ GE209.out | refine below_set ?_ GE210.out) | exact HB.out)))
              (case aF => exact (fun k_ hk => ⟨Kd.fresh' (Kd.R_lt (by (with_reducible repeat (first | apply Kd.R_alloc | apply Kd.R_drewN | apply Kd.R_drew)); exact HO213.out)) k_ hk, Kd.fresh' (Kd.R_lt (by (with_reducible repeat (first | apply Kd.R_alloc | apply Kd.R_drewN | apply Kd.R_drew)); exact HO216.out)) k_ hk, Kd.fresh' (Kd.R_lt (by (with_reducible repeat (first | apply Kd.R_alloc | apply Kd.R_drewN | apply Kd.R_drew)); exact HO226.out)) k_ hk⟩))
              (case aO => exact (by (with_reducible repeat (first | apply Kd.R_alloc | apply Kd.R_drewN | apply Kd.R_drew)); exact Kd.R_mono HO_211002.out (fun _ hk => ⟨hk.1.1, ⟨hk.1.2, hk.2⟩⟩)))
              (case aS => exact (below_size (by repeat (first | (with_reducible first | exact HB.out | apply below_alloc | apply pw_below_drewN | apply below_drew1 | refine below_set ?_ GE209.out | refine below_set ?_ GE210.out) | exact HB.out))))
              (case aL => have := LMc19.out; omega)
              intro v228 w45 ho hb hg hat
              rw [← Ny227.out] at ho
              have n0_ := Aside0.mk (Kd.R_over' (by (with_reducible repeat (first | apply Kd.R_alloc | apply Kd.R_drewN | apply Kd.R_drew)); exact HO_211003.out) (Kd.R_typed (by (with_reducible repeat (first | apply Kd.R_alloc | apply Kd.R_drewN | apply Kd.R_drew)); exact HO_211002.out)) (by decide) hg)
              have n1_ := Aside0.mk (blk_grown (g := gb209) (o := .cells #[.int .i64 3, .int .i64 0, .slice Ao35 y214.length co35, .slice Ao37 y221.length co37] 25 (0, 0)) (by (with_reducible repeat (first | refine blk_drewN ?_ _ | refine blk_drew ?_ | refine blk_alloc ?_ _)); exact BK209.out) hg (Kd.R_ne HO_211002.out BK209.out (by decide)))
              have n2_ := Aside0.mk (blk_grown (g := gb210) (o := .cells #[.int .i64 3, .int .i64 0, .slice Ao39 x211002_1.length co39, .slice Ao40 x211003_1.length co40] 25 (0, 0)) (by (with_reducible repeat (first | refine blk_drewN ?_ _ | refine blk_drew ?_ | refine blk_alloc ?_ _)); exact BK210.out) hg (Kd.R_ne HO_211002.out BK210.out (by decide)))
              have n3_ := Aside0.mk (Kd.R_after (ok := (fun k_ => some k_ ≠ (.slice Ao35 y214.length co35 : Value).ownBlock ∧ some k_ ≠ (.slice Ao46 y224.length co46 : Value).ownBlock)) (by (with_reducible repeat (first | apply Kd.R_alloc | apply Kd.R_drewN | apply Kd.R_drew)); exact Kd.R_mono HO213.out (fun _ hk => ⟨⟨hk.1.2, hk.2⟩, hk.1.1⟩)) hg hat)
              have n4_ := Aside0.mk (Kd.R_after (ok := (fun k_ => some k_ ≠ (v212 : Value).ownBlock ∧ some k_ ≠ (.slice Ao46 y224.length co46 : Value).ownBlock)) (by (with_reducible repeat (first | apply Kd.R_alloc | apply Kd.R_drewN | apply Kd.R_drew)); exact Kd.R_mono HO216.out (fun _ hk => ⟨⟨hk.1.2, hk.2⟩, hk.1.1⟩)) hg hat)
              have n5_ := Aside0.mk (Kd.R_over' (by (with_reducible repeat (first | apply Kd.R_alloc | apply Kd.R_drewN | apply Kd.R_drew)); exact HO220.out) (Kd.R_typed (by (with_reducible repeat (first | apply Kd.R_alloc | apply Kd.R_drewN | apply Kd.R_drew)); exact HO_211002.out)) (by decide) hg)
              have n6_ := Aside0.mk (Kd.R_over' (by (with_reducible repeat (first | apply Kd.R_alloc | apply Kd.R_drewN | apply Kd.R_drew)); exact HO223.out) (Kd.R_typed (by (with_reducible repeat (first | apply Kd.R_alloc | apply Kd.R_drewN | apply Kd.R_drew)); exact HO_211002.out)) (by decide) hg)
              have n7_ := Aside0.mk (Kd.R_after (ok := (fun k_ => some k_ ≠ (v212 : Value).ownBlock ∧ some k_ ≠ (.slice Ao35 y214.length co35 : Value).ownBlock)) (by (with_reducible repeat (first | apply Kd.R_alloc | apply Kd.R_drewN | apply Kd.R_drew)); exact Kd.R_mono HO226.out (fun _ hk => ⟨⟨hk.1.2, hk.2⟩, hk.1.1.2⟩)) hg hat)
              have n8_ := Aside0.mk (hb)
              have n9_ := Aside0.mk (ho)
              clear HO_211003
              clear BK209
              clear BK210
              clear HO213
              clear HO216
              clear HO220
              clear HO223
              clear HO226
              clear HB
              clear HO_211002
              have HO_211003 := n0_
              have BK209 := n1_
              have BK210 := n2_
              have HO213 := n3_
              have HO216 := n4_
              have HO220 := n5_
              have HO223 := n6_
              have HO226 := n7_
              have HB := n8_
              have HO229 := n9_
              clear n0_ n1_ n2_ n3_ n4_ n5_ n6_ n7_ n8_ n9_
              clear ho hb hg hat
              refine hK.out _ _ ⟨(blk_cell BK210.out 0).trans rfl, (blk_cell BK210.out 1).trans rfl, (blk_cell BK210.out 2).trans rfl, (blk_cell BK210.out 3).trans rfl, ((HB.out.cell (World.block_lt_of_cell? w _ hw230_0)).trans hw230_0)⟩ (fun hHeld => ?_)
              clear hK K
              refine norm_ (a' := ?_) ?_ ?_
              rotate_left
              · show Act.put _ (some 53) _ = _
                simp only [Act.put, List.setIfInBounds_toArray, List.set_cons_zero, List.set_cons_succ, i64_w, i32_w]
                rfl
              refine pure_ (i := 13) (N := some 62) (v := ?_) (a' := ?_) #[true, true, true, true, true, true, true, true, true, true, true, false, false, true, false, false, false] rfl rfl (any_of HT_.out (by kernel_rfl)) (fun _ _ _ h => h) (Or.inl ⟨by rfl, ?_⟩) ?_ ?_
              rotate_left
              · intro w'
                go_simp
                with_reducible rfl
              rotate_left
              · simp only [Act.put, List.setIfInBounds_toArray, List.set_cons_zero, List.set_cons_succ, i64_w, i32_w]
                rfl
              refine one_ (i := 11) (N := some 60) #[true, true, true, true, true, true, true, true, true, true, true, true, false, true, false, false, false] rfl rfl (one_of HT_.out (by kernel_rfl)) (by decide) (fun K hK => ?_)
              refine Kd.R_lit_step (Kd.int .i64) _ 3 ?hg (N := 60) ?hd (xs := ([rd l1 x11_1] : List Int)) (inner := [.int .i64 (rd l1 x11_1)]) (ok := fun _ => True) (okp := fun _ => True) ?hr ?hp (fun _ hk => hk) trivial (Below.refl _ _) (Nat.le_refl _) (by simp) ?_; (case hd => rfl); (case hg => rfl); (case hr => first | (go_simp; done) | (go_simp; rfl)); (case hp => exact (Reps.one (show Kd.M (Kd.int .i64) _ _ _ (rd l1 x11_1) [.int .i64 (rd l1 x11_1)] from rfl) (Reps.none _ _)))
              intro v232 w47 ho48 hb hg_ hnew_
              clear hg_ hnew_
              (first | rw [← Ny231.out] at ho48 | (simp only [Int.reduceToNat] at ho48; rw [← Ny231.out] at ho48))
              have n0_ := Aside0.mk (Kd.R_elder' (by (with_reducible repeat (first | apply Kd.R_alloc | apply Kd.R_drewN | apply Kd.R_drew)); exact HO_211003.out) (Kd.R_base ho48) hb)
              have n1_ := Aside0.mk (Kd.R_below (by (with_reducible repeat (first | apply Kd.R_alloc | apply Kd.R_drewN | apply Kd.R_drew)); exact HO213.out) hb)
              have n2_ := Aside0.mk (Kd.R_below (by (with_reducible repeat (first | apply Kd.R_alloc | apply Kd.R_drewN | apply Kd.R_drew)); exact HO216.out) hb)
              have n3_ := Aside0.mk (Kd.R_elder' (by (with_reducible repeat (first | apply Kd.R_alloc | apply Kd.R_drewN | apply Kd.R_drew)); exact HO220.out) (Kd.R_base ho48) hb)
              have n4_ := Aside0.mk (Kd.R_elder' (by (with_reducible repeat (first | apply Kd.R_alloc | apply Kd.R_drewN | apply Kd.R_drew)); exact HO223.out) (Kd.R_base ho48) hb)
              have n5_ := Aside0.mk (Kd.R_below (by (with_reducible repeat (first | apply Kd.R_alloc | apply Kd.R_drewN | apply Kd.R_drew)); exact HO226.out) hb)
              have n6_ := Aside0.mk (Kd.R_below (by (with_reducible repeat (first | apply Kd.R_alloc | apply Kd.R_drewN | apply Kd.R_drew)); exact HO229.out) hb)
              have n7_ := Aside0.mk (Kd.R_lower (Kd.R_new' (Kd.R_new' (Kd.R_new' ho48 (Kd.R_lt (by (with_reducible repeat (first | apply Kd.R_alloc | apply Kd.R_drewN | apply Kd.R_drew)); exact HO_211003.out))) (Kd.R_lt (by (with_reducible repeat (first | apply Kd.R_alloc | apply Kd.R_drewN | apply Kd.R_drew)); exact HO220.out))) (Kd.R_lt (by (with_reducible repeat (first | apply Kd.R_alloc | apply Kd.R_drewN | apply Kd.R_drew)); exact HO223.out))) (below_size (by repeat (first | (with_reducible first | exact HB.out | apply below_alloc | apply pw_below_drewN | apply below_drew1 | refine below_set ?_ GE209.out | refine below_set ?_ GE210.out) | exact HB.out))))
              have n8_ := Aside0.mk (blk_below (g := gb209) (o := .cells #[.int .i64 3, .int .i64 0, .slice Ao35 y214.length co35, .slice Ao37 y221.length co37] 25 (0, 0)) (by (with_reducible repeat (first | refine blk_drewN ?_ _ | refine blk_drew ?_ | refine blk_alloc ?_ _)); exact BK209.out) hb)
              have n9_ := Aside0.mk (blk_below (g := gb210) (o := .cells #[.int .i64 3, .int .i64 0, .slice Ao39 x211002_1.length co39, .slice Ao40 x211003_1.length co40] 25 (0, 0)) (by (with_reducible repeat (first | refine blk_drewN ?_ _ | refine blk_drew ?_ | refine blk_alloc ?_ _)); exact BK210.out) hb)
              have n10_ := Aside0.mk (below_step (by repeat (first | (with_reducible first | exact HB.out | apply below_alloc | apply pw_below_drewN | apply below_drew1 | refine below_set ?_ GE209.out | refine below_set ?_ GE210.out) | exact HB.out)) hb)
              clear HO_211003
              clear HO213
              clear HO216
              clear HO220
              clear HO223
              clear HO226
              clear HO229
              clear BK209
              clear BK210
              clear HB
              have HO_211003 := n0_
              have HO213 := n1_
              have HO216 := n2_
              have HO220 := n3_
              have HO223 := n4_
              have HO226 := n5_
              have HO229 := n6_
              have HO233 := n7_
              have BK209 := n8_
              have BK210 := n9_
              have HB := n10_
              clear n0_ n1_ n2_ n3_ n4_ n5_ n6_ n7_ n8_ n9_ n10_
              clear hb ho48
              refine hK.out _ _ ⟨(blk_cell BK210.out 0).trans rfl, (blk_cell BK210.out 1).trans rfl, (blk_cell BK210.out 2).trans rfl, (blk_cell BK210.out 3).trans rfl, ((HB.out.cell (World.block_lt_of_cell? w _ hw230_0)).trans hw230_0)⟩ (fun hHeld => ?_)
              clear hK K
              refine norm_ (a' := ?_) ?_ ?_
              rotate_left
              · show Act.put _ (some 60) _ = _
                simp only [Act.put, List.setIfInBounds_toArray, List.set_cons_zero, List.set_cons_succ, i64_w, i32_w]
                rfl
              exact norm_ (by simp only [putAll, Act.put, List.setIfInBounds_toArray, List.set_cons_zero, List.set_cons_succ]) (hCont (.slice Ao46 y224.length co46, v228, v232) _ ⟨hHeld, (by (with_reducible repeat (first | apply Kd.R_alloc | apply Kd.R_drewN | apply Kd.R_drew)); exact Kd.R_mono HO213.out (fun _ hk => ⟨hk.1.1, ⟨hk.1.2, hk.2⟩⟩)), (by (with_reducible repeat (first | apply Kd.R_alloc | apply Kd.R_drewN | apply Kd.R_drew)); exact Kd.R_mono HO216.out (fun _ hk => ⟨hk.1.1, ⟨hk.1.2, hk.2⟩⟩)), (by (with_reducible repeat (first | apply Kd.R_alloc | apply Kd.R_drewN | apply Kd.R_drew)); exact Kd.R_mono HO220.out (fun _ hk => ⟨hk.1.2, ⟨hk.2, hk.1.1⟩⟩)), (by (with_reducible repeat (first | apply Kd.R_alloc | apply Kd.R_drewN | apply Kd.R_drew)); exact Kd.R_mono HO223.out (fun _ hk => ⟨hk.1.2, ⟨hk.2, hk.1.1⟩⟩)), (by (with_reducible repeat (first | apply Kd.R_alloc | apply Kd.R_drewN | apply Kd.R_drew)); exact Kd.R_mono HO226.out (fun _ hk => ⟨hk.1.1, ⟨hk.1.2, hk.2⟩⟩)), (by (with_reducible repeat (first | apply Kd.R_alloc | apply Kd.R_drewN | apply Kd.R_drew)); exact HO229.out), (by (with_reducible repeat (first | apply Kd.R_alloc | apply Kd.R_drewN | apply Kd.R_drew)); exact Kd.R_mono HO233.out (fun _ hk => ⟨hk.1.2, ⟨hk.2, hk.1.1.2⟩⟩)), (by (with_reducible repeat (first | apply Kd.R_alloc | apply Kd.R_drewN | apply Kd.R_drew)); exact Kd.R_mono HO_211003.out (fun _ hk => ⟨hk.1.1, ⟨hk.1.2, hk.2⟩⟩)), (by (with_reducible repeat (first | refine blk_drewN ?_ _ | refine blk_drew ?_ | refine blk_alloc ?_ _)); exact BK209.out), (by (with_reducible repeat (first | refine blk_drewN ?_ _ | refine blk_drew ?_ | refine blk_alloc ?_ _)); exact BK210.out), (by repeat (first | (with_reducible first | exact HB.out | apply below_alloc | apply pw_below_drewN | apply below_drew1 | refine below_set ?_ GE209.out | refine below_set ?_ GE210.out) | exact HB.out))⟩)
            · skip
              refine Kd.R_lit_step (Kd.int .i64) _ 3 ?hg (N := 60) ?hd (xs := ([rd l1 x11_1] : List Int)) (inner := [.int .i64 (rd l1 x11_1)]) (ok := fun _ => True) (okp := fun _ => True) ?hr ?hp (fun _ hk => hk) trivial (Below.refl _ _) (Nat.le_refl _) (by simp) ?_; (case hd => rfl); (case hg => rfl); (case hr => first | (go_simp; done) | (go_simp; rfl)); (case hp => exact (Reps.one (show Kd.M (Kd.int .i64) _ _ _ (rd l1 x11_1) [.int .i64 (rd l1 x11_1)] from rfl) (Reps.none _ _)))
              intro v232 w45 ho46 hb hg_ hnew_
              clear hg_ hnew_
              (first | rw [← Ny231.out] at ho46 | (simp only [Int.reduceToNat] at ho46; rw [← Ny231.out] at ho46))
              have n0_ := Aside0.mk (Kd.R_below (by (with_reducible repeat (first | apply Kd.R_alloc | apply Kd.R_drewN | apply Kd.R_drew)); exact HO_211002.out) hb)
              have n1_ := Aside0.mk (Kd.R_elder' (by (with_reducible repeat (first | apply Kd.R_alloc | apply Kd.R_drewN | apply Kd.R_drew)); exact HO_211003.out) (Kd.R_base ho46) hb)
              have n2_ := Aside0.mk (Kd.R_below (by (with_reducible repeat (first | apply Kd.R_alloc | apply Kd.R_drewN | apply Kd.R_drew)); exact HO213.out) hb)
              have n3_ := Aside0.mk (Kd.R_below (by (with_reducible repeat (first | apply Kd.R_alloc | apply Kd.R_drewN | apply Kd.R_drew)); exact HO216.out) hb)
              have n4_ := Aside0.mk (Kd.R_elder' (by (with_reducible repeat (first | apply Kd.R_alloc | apply Kd.R_drewN | apply Kd.R_drew)); exact HO220.out) (Kd.R_base ho46) hb)
              have n5_ := Aside0.mk (Kd.R_elder' (by (with_reducible repeat (first | apply Kd.R_alloc | apply Kd.R_drewN | apply Kd.R_drew)); exact HO223.out) (Kd.R_base ho46) hb)
              have n6_ := Aside0.mk (Kd.R_below (by (with_reducible repeat (first | apply Kd.R_alloc | apply Kd.R_drewN | apply Kd.R_drew)); exact HO226.out) hb)
              have n7_ := Aside0.mk (Kd.R_lower (Kd.R_new' (Kd.R_new' (Kd.R_new' ho46 (Kd.R_lt (by (with_reducible repeat (first | apply Kd.R_alloc | apply Kd.R_drewN | apply Kd.R_drew)); exact HO_211003.out))) (Kd.R_lt (by (with_reducible repeat (first | apply Kd.R_alloc | apply Kd.R_drewN | apply Kd.R_drew)); exact HO220.out))) (Kd.R_lt (by (with_reducible repeat (first | apply Kd.R_alloc | apply Kd.R_drewN | apply Kd.R_drew)); exact HO223.out))) (below_size (by repeat (first | (with_reducible first | exact HB.out | apply below_alloc | apply pw_below_drewN | apply below_drew1 | refine below_set ?_ GE209.out | refine below_set ?_ GE210.out) | exact HB.out))))
              have n8_ := Aside0.mk (blk_below (g := gb209) (o := .cells #[.int .i64 3, .int .i64 0, .slice Ao35 y214.length co35, .slice Ao37 y221.length co37] 25 (0, 0)) (by (with_reducible repeat (first | refine blk_drewN ?_ _ | refine blk_drew ?_ | refine blk_alloc ?_ _)); exact BK209.out) hb)
              have n9_ := Aside0.mk (blk_below (g := gb210) (o := .cells #[.int .i64 3, .int .i64 0, .slice Ao39 x211002_1.length co39, .slice Ao40 x211003_1.length co40] 25 (0, 0)) (by (with_reducible repeat (first | refine blk_drewN ?_ _ | refine blk_drew ?_ | refine blk_alloc ?_ _)); exact BK210.out) hb)
              have n10_ := Aside0.mk (below_step (by repeat (first | (with_reducible first | exact HB.out | apply below_alloc | apply pw_below_drewN | apply below_drew1 | refine below_set ?_ GE209.out | refine below_set ?_ GE210.out) | exact HB.out)) hb)
              clear HO_211002
              clear HO_211003
              clear HO213
              clear HO216
              clear HO220
              clear HO223
              clear HO226
              clear BK209
              clear BK210
              clear HB
              have HO_211002 := n0_
              have HO_211003 := n1_
              have HO213 := n2_
              have HO216 := n3_
              have HO220 := n4_
              have HO223 := n5_
              have HO226 := n6_
              have HO233 := n7_
              have BK209 := n8_
              have BK210 := n9_
              have HB := n10_
              clear n0_ n1_ n2_ n3_ n4_ n5_ n6_ n7_ n8_ n9_ n10_
              clear hb ho46
              obtain ⟨Ao48, co48, eo48⟩ := Kd.R_slice HO226.out
              (first | subst eo48 | (injection eo48 with f1_ f2_ f3_; have f4_ := f1_.symm; have f5_ := f3_.symm; clear f1_ f2_ f3_; subst f4_; subst f5_))
              refine hK.out _ _ ⟨(blk_cell BK210.out 0).trans rfl, (blk_cell BK210.out 1).trans rfl, (blk_cell BK210.out 2).trans rfl, (blk_cell BK210.out 3).trans rfl, ((HB.out.cell (World.block_lt_of_cell? w _ hw230_0)).trans hw230_0)⟩ (fun hHeld => ?_)
              clear hK K
              refine norm_ (a' := ?_) ?_ ?_
              rotate_left
              · show Act.put _ (some 60) _ = _
                simp only [Act.put, List.setIfInBounds_toArray, List.set_cons_zero, List.set_cons_succ, i64_w, i32_w]
                rfl
              refine one_ (i := 4) (N := some 53) #[true, true, true, true, true, true, true, true, true, true, true, true, false, false, false, false, false] rfl rfl (one_of HT_.out (by kernel_rfl)) (by decide) (fun K hK => ?_)
              refine Kd.R_append_rows_step Kd.bool (w0 := w) w.heap.size (by rfl) (.tmp 50) (.tmp 52) 23 4 (.bool false) 1 rfl Try.underlying23 info4 rfl (by decide) (by omega) (.slice Ao39 x211002_1.length co39) x211002_1 y224 _ _ _ (fun k_ => some k_ ≠ (v212 : Value).ownBlock ∧ some k_ ≠ (.slice Ao35 y214.length co35 : Value).ownBlock ∧ some k_ ≠ (.slice Ao48 y224.length co48 : Value).ownBlock) (fun _ => False) rfl rfl ?aO ?aR (fun _ _ h => h) (fun _ h => h.elim) ?aF ?aB ?aS ?aL ?_
              (case aR => repeat (first | exact (Kd.R_reads' HO226.out).2.2 | (with_reducible refine Kd.C_alloc ?_ _) | (with_reducible refine Kd.C_drewN ?_ _) | (with_reducible refine Kd.C_drew ?_)))
              (case aB => exact (by repeat (first | (with_reducible first | exact HB.out | apply below_alloc | apply pw_below_drewN | apply below_drew1 | refine below_set ?_ GE209.out | refine below_set ?_ GE210.out) | exact HB.out)))
              (case aF => exact (fun k_ hk => ⟨Kd.fresh' (Kd.R_lt (by (with_reducible repeat (first | apply Kd.R_alloc | apply Kd.R_drewN | apply Kd.R_drew)); exact HO213.out)) k_ hk, Kd.fresh' (Kd.R_lt (by (with_reducible repeat (first | apply Kd.R_alloc | apply Kd.R_drewN | apply Kd.R_drew)); exact HO216.out)) k_ hk, Kd.fresh' (Kd.R_lt (by (with_reducible repeat (first | apply Kd.R_alloc | apply Kd.R_drewN | apply Kd.R_drew)); exact HO226.out)) k_ hk⟩))
              (case aO => exact (by (with_reducible repeat (first | apply Kd.R_alloc | apply Kd.R_drewN | apply Kd.R_drew)); exact Kd.R_mono HO_211002.out (fun _ hk => ⟨hk.1.1, ⟨hk.1.2, hk.2⟩⟩)))
              (case aS => exact (below_size (by repeat (first | (with_reducible first | exact HB.out | apply below_alloc | apply pw_below_drewN | apply below_drew1 | refine below_set ?_ GE209.out | refine below_set ?_ GE210.out) | exact HB.out))))
              (case aL => have := LMc19.out; omega)
              intro v228 w47 ho hb hg hat
              rw [← Ny227.out] at ho
              have n0_ := Aside0.mk (Kd.R_over' (by (with_reducible repeat (first | apply Kd.R_alloc | apply Kd.R_drewN | apply Kd.R_drew)); exact HO_211003.out) (Kd.R_typed (by (with_reducible repeat (first | apply Kd.R_alloc | apply Kd.R_drewN | apply Kd.R_drew)); exact HO_211002.out)) (by decide) hg)
              have n1_ := Aside0.mk (blk_grown (g := gb209) (o := .cells #[.int .i64 3, .int .i64 0, .slice Ao35 y214.length co35, .slice Ao37 y221.length co37] 25 (0, 0)) (by (with_reducible repeat (first | refine blk_drewN ?_ _ | refine blk_drew ?_ | refine blk_alloc ?_ _)); exact BK209.out) hg (Kd.R_ne HO_211002.out BK209.out (by decide)))
              have n2_ := Aside0.mk (blk_grown (g := gb210) (o := .cells #[.int .i64 3, .int .i64 0, .slice Ao39 x211002_1.length co39, .slice Ao40 x211003_1.length co40] 25 (0, 0)) (by (with_reducible repeat (first | refine blk_drewN ?_ _ | refine blk_drew ?_ | refine blk_alloc ?_ _)); exact BK210.out) hg (Kd.R_ne HO_211002.out BK210.out (by decide)))
              have n3_ := Aside0.mk (Kd.R_after (ok := (fun k_ => some k_ ≠ (.slice Ao35 y214.length co35 : Value).ownBlock ∧ some k_ ≠ (.slice Ao48 y224.length co48 : Value).ownBlock)) (by (with_reducible repeat (first | apply Kd.R_alloc | apply Kd.R_drewN | apply Kd.R_drew)); exact Kd.R_mono HO213.out (fun _ hk => ⟨⟨hk.1.2, hk.2⟩, hk.1.1⟩)) hg hat)
              have n4_ := Aside0.mk (Kd.R_after (ok := (fun k_ => some k_ ≠ (v212 : Value).ownBlock ∧ some k_ ≠ (.slice Ao48 y224.length co48 : Value).ownBlock)) (by (with_reducible repeat (first | apply Kd.R_alloc | apply Kd.R_drewN | apply Kd.R_drew)); exact Kd.R_mono HO216.out (fun _ hk => ⟨⟨hk.1.2, hk.2⟩, hk.1.1⟩)) hg hat)
              have n5_ := Aside0.mk (Kd.R_over' (by (with_reducible repeat (first | apply Kd.R_alloc | apply Kd.R_drewN | apply Kd.R_drew)); exact HO220.out) (Kd.R_typed (by (with_reducible repeat (first | apply Kd.R_alloc | apply Kd.R_drewN | apply Kd.R_drew)); exact HO_211002.out)) (by decide) hg)
              have n6_ := Aside0.mk (Kd.R_over' (by (with_reducible repeat (first | apply Kd.R_alloc | apply Kd.R_drewN | apply Kd.R_drew)); exact HO223.out) (Kd.R_typed (by (with_reducible repeat (first | apply Kd.R_alloc | apply Kd.R_drewN | apply Kd.R_drew)); exact HO_211002.out)) (by decide) hg)
              have n7_ := Aside0.mk (Kd.R_after (ok := (fun k_ => some k_ ≠ (v212 : Value).ownBlock ∧ some k_ ≠ (.slice Ao35 y214.length co35 : Value).ownBlock)) (by (with_reducible repeat (first | apply Kd.R_alloc | apply Kd.R_drewN | apply Kd.R_drew)); exact Kd.R_mono HO226.out (fun _ hk => ⟨⟨hk.1.2, hk.2⟩, hk.1.1.2⟩)) hg hat)
              have n8_ := Aside0.mk (Kd.R_over' (by (with_reducible repeat (first | apply Kd.R_alloc | apply Kd.R_drewN | apply Kd.R_drew)); exact HO233.out) (Kd.R_typed (by (with_reducible repeat (first | apply Kd.R_alloc | apply Kd.R_drewN | apply Kd.R_drew)); exact HO_211002.out)) (by decide) hg)
              have n9_ := Aside0.mk (hb)
              have n10_ := Aside0.mk (ho)
              clear HO_211003
              clear BK209
              clear BK210
              clear HO213
              clear HO216
              clear HO220
              clear HO223
              clear HO226
              clear HO233
              clear HB
              clear HO_211002
              have HO_211003 := n0_
              have BK209 := n1_
              have BK210 := n2_
              have HO213 := n3_
              have HO216 := n4_
              have HO220 := n5_
              have HO223 := n6_
              have HO226 := n7_
              have HO233 := n8_
              have HB := n9_
              have HO229 := n10_
              clear n0_ n1_ n2_ n3_ n4_ n5_ n6_ n7_ n8_ n9_ n10_
              clear ho hb hg hat
              refine hK.out _ _ ⟨(blk_cell BK210.out 0).trans rfl, (blk_cell BK210.out 1).trans rfl, (blk_cell BK210.out 2).trans rfl, (blk_cell BK210.out 3).trans rfl, ((HB.out.cell (World.block_lt_of_cell? w _ hw230_0)).trans hw230_0)⟩ (fun hHeld => ?_)
              clear hK K
              refine norm_ (a' := ?_) ?_ ?_
              rotate_left
              · show Act.put _ (some 53) _ = _
                simp only [Act.put, List.setIfInBounds_toArray, List.set_cons_zero, List.set_cons_succ, i64_w, i32_w]
                rfl
              refine pure_ (i := 13) (N := some 62) (v := ?_) (a' := ?_) #[true, true, true, true, true, true, true, true, true, true, true, true, false, true, false, false, false] rfl rfl (any_of HT_.out (by kernel_rfl)) (fun _ _ _ h => h) (Or.inl ⟨by rfl, ?_⟩) ?_ ?_
              rotate_left
              · intro w'
                go_simp
                with_reducible rfl
              rotate_left
              · simp only [Act.put, List.setIfInBounds_toArray, List.set_cons_zero, List.set_cons_succ, i64_w, i32_w]
                rfl
              exact norm_ (by simp only [putAll, Act.put, List.setIfInBounds_toArray, List.set_cons_zero, List.set_cons_succ]) (hCont (.slice Ao48 y224.length co48, v228, v232) _ ⟨hHeld, (by (with_reducible repeat (first | apply Kd.R_alloc | apply Kd.R_drewN | apply Kd.R_drew)); exact Kd.R_mono HO213.out (fun _ hk => ⟨hk.1.1, ⟨hk.1.2, hk.2⟩⟩)), (by (with_reducible repeat (first | apply Kd.R_alloc | apply Kd.R_drewN | apply Kd.R_drew)); exact Kd.R_mono HO216.out (fun _ hk => ⟨hk.1.1, ⟨hk.1.2, hk.2⟩⟩)), (by (with_reducible repeat (first | apply Kd.R_alloc | apply Kd.R_drewN | apply Kd.R_drew)); exact Kd.R_mono HO220.out (fun _ hk => ⟨hk.1.2, ⟨hk.2, hk.1.1⟩⟩)), (by (with_reducible repeat (first | apply Kd.R_alloc | apply Kd.R_drewN | apply Kd.R_drew)); exact Kd.R_mono HO223.out (fun _ hk => ⟨hk.1.2, ⟨hk.2, hk.1.1⟩⟩)), (by (with_reducible repeat (first | apply Kd.R_alloc | apply Kd.R_drewN | apply Kd.R_drew)); exact Kd.R_mono HO226.out (fun _ hk => ⟨hk.1.1, ⟨hk.1.2, hk.2⟩⟩)), (by (with_reducible repeat (first | apply Kd.R_alloc | apply Kd.R_drewN | apply Kd.R_drew)); exact HO229.out), (by (with_reducible repeat (first | apply Kd.R_alloc | apply Kd.R_drewN | apply Kd.R_drew)); exact Kd.R_mono HO233.out (fun _ hk => ⟨hk.1.2, ⟨hk.2, hk.1.1.2⟩⟩)), (by (with_reducible repeat (first | apply Kd.R_alloc | apply Kd.R_drewN | apply Kd.R_drew)); exact Kd.R_mono HO_211003.out (fun _ hk => ⟨hk.1.1, ⟨hk.1.2, hk.2⟩⟩)), (by (with_reducible repeat (first | refine blk_drewN ?_ _ | refine blk_drew ?_ | refine blk_alloc ?_ _)); exact BK209.out), (by (with_reducible repeat (first | refine blk_drewN ?_ _ | refine blk_drew ?_ | refine blk_alloc ?_ _)); exact BK210.out), (by repeat (first | (with_reducible first | exact HB.out | apply below_alloc | apply pw_below_drewN | apply below_drew1 | refine below_set ?_ GE209.out | refine below_set ?_ GE210.out) | exact HB.out))⟩)
          · skip
            refine Kd.R_lit_step (Kd.int .i64) _ 3 ?hg (N := 60) ?hd (xs := ([rd l1 x11_1] : List Int)) (inner := [.int .i64 (rd l1 x11_1)]) (ok := fun _ => True) (okp := fun _ => True) ?hr ?hp (fun _ hk => hk) trivial (Below.refl _ _) (Nat.le_refl _) (by simp) ?_; (case hd => rfl); (case hg => rfl); (case hr => first | (go_simp; done) | (go_simp; rfl)); (case hp => exact (Reps.one (show Kd.M (Kd.int .i64) _ _ _ (rd l1 x11_1) [.int .i64 (rd l1 x11_1)] from rfl) (Reps.none _ _)))
            intro v232 w43 ho44 hb hg_ hnew_
            clear hg_ hnew_
            (first | rw [← Ny231.out] at ho44 | (simp only [Int.reduceToNat] at ho44; rw [← Ny231.out] at ho44))
            have n0_ := Aside0.mk (Kd.R_below (by (with_reducible repeat (first | apply Kd.R_alloc | apply Kd.R_drewN | apply Kd.R_drew)); exact HO_211002.out) hb)
            have n1_ := Aside0.mk (Kd.R_elder' (by (with_reducible repeat (first | apply Kd.R_alloc | apply Kd.R_drewN | apply Kd.R_drew)); exact HO_211003.out) (Kd.R_base ho44) hb)
            have n2_ := Aside0.mk (Kd.R_below (by (with_reducible repeat (first | apply Kd.R_alloc | apply Kd.R_drewN | apply Kd.R_drew)); exact HO213.out) hb)
            have n3_ := Aside0.mk (Kd.R_below (by (with_reducible repeat (first | apply Kd.R_alloc | apply Kd.R_drewN | apply Kd.R_drew)); exact HO216.out) hb)
            have n4_ := Aside0.mk (Kd.R_elder' (by (with_reducible repeat (first | apply Kd.R_alloc | apply Kd.R_drewN | apply Kd.R_drew)); exact HO220.out) (Kd.R_base ho44) hb)
            have n5_ := Aside0.mk (Kd.R_elder' (by (with_reducible repeat (first | apply Kd.R_alloc | apply Kd.R_drewN | apply Kd.R_drew)); exact HO223.out) (Kd.R_base ho44) hb)
            have n6_ := Aside0.mk (Kd.R_lower (Kd.R_new' (Kd.R_new' (Kd.R_new' ho44 (Kd.R_lt (by (with_reducible repeat (first | apply Kd.R_alloc | apply Kd.R_drewN | apply Kd.R_drew)); exact HO_211003.out))) (Kd.R_lt (by (with_reducible repeat (first | apply Kd.R_alloc | apply Kd.R_drewN | apply Kd.R_drew)); exact HO220.out))) (Kd.R_lt (by (with_reducible repeat (first | apply Kd.R_alloc | apply Kd.R_drewN | apply Kd.R_drew)); exact HO223.out))) (below_size (by repeat (first | (with_reducible first | exact HB.out | apply below_alloc | apply pw_below_drewN | apply below_drew1 | refine below_set ?_ GE209.out | refine below_set ?_ GE210.out) | exact HB.out))))
            have n7_ := Aside0.mk (blk_below (g := gb209) (o := .cells #[.int .i64 3, .int .i64 0, .slice Ao35 y214.length co35, .slice Ao37 y221.length co37] 25 (0, 0)) (by (with_reducible repeat (first | refine blk_drewN ?_ _ | refine blk_drew ?_ | refine blk_alloc ?_ _)); exact BK209.out) hb)
            have n8_ := Aside0.mk (blk_below (g := gb210) (o := .cells #[.int .i64 3, .int .i64 0, .slice Ao39 x211002_1.length co39, .slice Ao40 x211003_1.length co40] 25 (0, 0)) (by (with_reducible repeat (first | refine blk_drewN ?_ _ | refine blk_drew ?_ | refine blk_alloc ?_ _)); exact BK210.out) hb)
            have n9_ := Aside0.mk (below_step (by repeat (first | (with_reducible first | exact HB.out | apply below_alloc | apply pw_below_drewN | apply below_drew1 | refine below_set ?_ GE209.out | refine below_set ?_ GE210.out) | exact HB.out)) hb)
            clear HO_211002
            clear HO_211003
            clear HO213
            clear HO216
            clear HO220
            clear HO223
            clear BK209
            clear BK210
            clear HB
            have HO_211002 := n0_
            have HO_211003 := n1_
            have HO213 := n2_
            have HO216 := n3_
            have HO220 := n4_
            have HO223 := n5_
            have HO233 := n6_
            have BK209 := n7_
            have BK210 := n8_
            have HB := n9_
            clear n0_ n1_ n2_ n3_ n4_ n5_ n6_ n7_ n8_ n9_
            clear hb ho44
            refine hK.out _ _ ⟨(blk_cell BK210.out 0).trans rfl, (blk_cell BK210.out 1).trans rfl, (blk_cell BK210.out 2).trans rfl, (blk_cell BK210.out 3).trans rfl, ((HB.out.cell (World.block_lt_of_cell? w _ hw230_0)).trans hw230_0)⟩ (fun hHeld => ?_)
            clear hK K
            refine norm_ (a' := ?_) ?_ ?_
            rotate_left
            · show Act.put _ (some 60) _ = _
              simp only [Act.put, List.setIfInBounds_toArray, List.set_cons_zero, List.set_cons_succ, i64_w, i32_w]
              rfl
            refine one_ (i := 3) (N := some 52) #[true, true, true, true, false, true, true, true, true, true, true, true, false, false, false, false, false] rfl rfl (one_of HT_.out (by kernel_rfl)) (by decide) (fun K hK => ?_)
            refine Kd.R_lit_step Kd.bool _ 4 ?hg (N := 52) ?hd (xs := ([((Go.bits .and .i64 (ji14) 1) == 0)] : List Bool)) (inner := [.bool ((Go.bits .and .i64 (ji14) 1) == 0)]) (ok := fun _ => True) (okp := fun _ => True) ?hr ?hp (fun _ hk => hk) trivial (Below.refl _ _) (Nat.le_refl _) (by simp) ?_; (case hd => rfl); (case hg => rfl); (case hr => first | (go_simp; done) | (go_simp; rfl)); (case hp => exact (Reps.one (show Kd.M Kd.bool _ _ _ ((Go.bits .and .i64 (ji14) 1) == 0) [.bool ((Go.bits .and .i64 (ji14) 1) == 0)] from rfl) (Reps.none _ _)))
            intro v225 w45 ho46 hb hg_ hnew_
            clear hg_ hnew_
            (first | rw [← Ny224.out] at ho46 | (simp only [Int.reduceToNat] at ho46; rw [← Ny224.out] at ho46))
            have n0_ := Aside0.mk (Kd.R_elder' (by (with_reducible repeat (first | apply Kd.R_alloc | apply Kd.R_drewN | apply Kd.R_drew)); exact HO_211002.out) (Kd.R_base ho46) hb)
            have n1_ := Aside0.mk (Kd.R_below (by (with_reducible repeat (first | apply Kd.R_alloc | apply Kd.R_drewN | apply Kd.R_drew)); exact HO_211003.out) hb)
            have n2_ := Aside0.mk (Kd.R_elder' (by (with_reducible repeat (first | apply Kd.R_alloc | apply Kd.R_drewN | apply Kd.R_drew)); exact HO213.out) (Kd.R_base ho46) hb)
            have n3_ := Aside0.mk (Kd.R_elder' (by (with_reducible repeat (first | apply Kd.R_alloc | apply Kd.R_drewN | apply Kd.R_drew)); exact HO216.out) (Kd.R_base ho46) hb)
            have n4_ := Aside0.mk (Kd.R_below (by (with_reducible repeat (first | apply Kd.R_alloc | apply Kd.R_drewN | apply Kd.R_drew)); exact HO220.out) hb)
            have n5_ := Aside0.mk (Kd.R_below (by (with_reducible repeat (first | apply Kd.R_alloc | apply Kd.R_drewN | apply Kd.R_drew)); exact HO223.out) hb)
            have n6_ := Aside0.mk (Kd.R_below (by (with_reducible repeat (first | apply Kd.R_alloc | apply Kd.R_drewN | apply Kd.R_drew)); exact HO233.out) hb)
            have n7_ := Aside0.mk (Kd.R_lower (Kd.R_new' (Kd.R_new' (Kd.R_new' ho46 (Kd.R_lt (by (with_reducible repeat (first | apply Kd.R_alloc | apply Kd.R_drewN | apply Kd.R_drew)); exact HO_211002.out))) (Kd.R_lt (by (with_reducible repeat (first | apply Kd.R_alloc | apply Kd.R_drewN | apply Kd.R_drew)); exact HO213.out))) (Kd.R_lt (by (with_reducible repeat (first | apply Kd.R_alloc | apply Kd.R_drewN | apply Kd.R_drew)); exact HO216.out))) (below_size (by repeat (first | (with_reducible first | exact HB.out | apply below_alloc | apply pw_below_drewN | apply below_drew1 | refine below_set ?_ GE209.out | refine below_set ?_ GE210.out) | exact HB.out))))
            have n8_ := Aside0.mk (blk_below (g := gb209) (o := .cells #[.int .i64 3, .int .i64 0, .slice Ao35 y214.length co35, .slice Ao37 y221.length co37] 25 (0, 0)) (by (with_reducible repeat (first | refine blk_drewN ?_ _ | refine blk_drew ?_ | refine blk_alloc ?_ _)); exact BK209.out) hb)
            have n9_ := Aside0.mk (blk_below (g := gb210) (o := .cells #[.int .i64 3, .int .i64 0, .slice Ao39 x211002_1.length co39, .slice Ao40 x211003_1.length co40] 25 (0, 0)) (by (with_reducible repeat (first | refine blk_drewN ?_ _ | refine blk_drew ?_ | refine blk_alloc ?_ _)); exact BK210.out) hb)
            have n10_ := Aside0.mk (below_step (by repeat (first | (with_reducible first | exact HB.out | apply below_alloc | apply pw_below_drewN | apply below_drew1 | refine below_set ?_ GE209.out | refine below_set ?_ GE210.out) | exact HB.out)) hb)
            clear HO_211002
            clear HO_211003
            clear HO213
            clear HO216
            clear HO220
            clear HO223
            clear HO233
            clear BK209
            clear BK210
            clear HB
            have HO_211002 := n0_
            have HO_211003 := n1_
            have HO213 := n2_
            have HO216 := n3_
            have HO220 := n4_
            have HO223 := n5_
            have HO233 := n6_
            have HO226 := n7_
            have BK209 := n8_
            have BK210 := n9_
            have HB := n10_
            clear n0_ n1_ n2_ n3_ n4_ n5_ n6_ n7_ n8_ n9_ n10_
            clear hb ho46
            obtain ⟨Ao48, co48, eo48⟩ := Kd.R_slice HO226.out
            (first | subst eo48 | (injection eo48 with f1_ f2_ f3_; have f4_ := f1_.symm; have f5_ := f3_.symm; clear f1_ f2_ f3_; subst f4_; subst f5_))
            refine hK.out _ _ ⟨(blk_cell BK210.out 0).trans rfl, (blk_cell BK210.out 1).trans rfl, (blk_cell BK210.out 2).trans rfl, (blk_cell BK210.out 3).trans rfl, ((HB.out.cell (World.block_lt_of_cell? w _ hw230_0)).trans hw230_0)⟩ (fun hHeld => ?_)
            clear hK K
            refine norm_ (a' := ?_) ?_ ?_
            rotate_left
            · show Act.put _ (some 52) _ = _
              simp only [Act.put, List.setIfInBounds_toArray, List.set_cons_zero, List.set_cons_succ, i64_w, i32_w]
              rfl
            refine one_ (i := 4) (N := some 53) #[true, true, true, true, true, true, true, true, true, true, true, true, false, false, false, false, false] rfl rfl (one_of HT_.out (by kernel_rfl)) (by decide) (fun K hK => ?_)
            refine Kd.R_append_rows_step Kd.bool (w0 := w) w.heap.size (by rfl) (.tmp 50) (.tmp 52) 23 4 (.bool false) 1 rfl Try.underlying23 info4 rfl (by decide) (by omega) (.slice Ao39 x211002_1.length co39) x211002_1 y224 _ _ _ (fun k_ => some k_ ≠ (v212 : Value).ownBlock ∧ some k_ ≠ (.slice Ao35 y214.length co35 : Value).ownBlock ∧ some k_ ≠ (.slice Ao48 y224.length co48 : Value).ownBlock) (fun _ => False) rfl rfl ?aO ?aR (fun _ _ h => h) (fun _ h => h.elim) ?aF ?aB ?aS ?aL ?_
            (case aR => repeat (first | exact (Kd.R_reads' HO226.out).2.2 | (with_reducible refine Kd.C_alloc ?_ _) | (with_reducible refine Kd.C_drewN ?_ _) | (with_reducible refine Kd.C_drew ?_)))
            (case aB => exact (by repeat (first | (with_reducible first | exact HB.out | apply below_alloc | apply pw_below_drewN | apply below_drew1 | refine below_set ?_ GE209.out | refine below_set ?_ GE210.out) | exact HB.out)))
            (case aF => exact (fun k_ hk => ⟨Kd.fresh' (Kd.R_lt (by (with_reducible repeat (first | apply Kd.R_alloc | apply Kd.R_drewN | apply Kd.R_drew)); exact HO213.out)) k_ hk, Kd.fresh' (Kd.R_lt (by (with_reducible repeat (first | apply Kd.R_alloc | apply Kd.R_drewN | apply Kd.R_drew)); exact HO216.out)) k_ hk, Kd.fresh' (Kd.R_lt (by (with_reducible repeat (first | apply Kd.R_alloc | apply Kd.R_drewN | apply Kd.R_drew)); exact HO226.out)) k_ hk⟩))
            (case aO => exact (by (with_reducible repeat (first | apply Kd.R_alloc | apply Kd.R_drewN | apply Kd.R_drew)); exact Kd.R_mono HO_211002.out (fun _ hk => ⟨hk.1.1, ⟨hk.1.2, hk.2⟩⟩)))
            (case aS => exact (below_size (by repeat (first | (with_reducible first | exact HB.out | apply below_alloc | apply pw_below_drewN | apply below_drew1 | refine below_set ?_ GE209.out | refine below_set ?_ GE210.out) | exact HB.out))))
            (case aL => have := LMc19.out; omega)
            intro v228 w47 ho hb hg hat
            rw [← Ny227.out] at ho
            have n0_ := Aside0.mk (Kd.R_over' (by (with_reducible repeat (first | apply Kd.R_alloc | apply Kd.R_drewN | apply Kd.R_drew)); exact HO_211003.out) (Kd.R_typed (by (with_reducible repeat (first | apply Kd.R_alloc | apply Kd.R_drewN | apply Kd.R_drew)); exact HO_211002.out)) (by decide) hg)
            have n1_ := Aside0.mk (blk_grown (g := gb209) (o := .cells #[.int .i64 3, .int .i64 0, .slice Ao35 y214.length co35, .slice Ao37 y221.length co37] 25 (0, 0)) (by (with_reducible repeat (first | refine blk_drewN ?_ _ | refine blk_drew ?_ | refine blk_alloc ?_ _)); exact BK209.out) hg (Kd.R_ne HO_211002.out BK209.out (by decide)))
            have n2_ := Aside0.mk (blk_grown (g := gb210) (o := .cells #[.int .i64 3, .int .i64 0, .slice Ao39 x211002_1.length co39, .slice Ao40 x211003_1.length co40] 25 (0, 0)) (by (with_reducible repeat (first | refine blk_drewN ?_ _ | refine blk_drew ?_ | refine blk_alloc ?_ _)); exact BK210.out) hg (Kd.R_ne HO_211002.out BK210.out (by decide)))
            have n3_ := Aside0.mk (Kd.R_after (ok := (fun k_ => some k_ ≠ (.slice Ao35 y214.length co35 : Value).ownBlock ∧ some k_ ≠ (.slice Ao48 y224.length co48 : Value).ownBlock)) (by (with_reducible repeat (first | apply Kd.R_alloc | apply Kd.R_drewN | apply Kd.R_drew)); exact Kd.R_mono HO213.out (fun _ hk => ⟨⟨hk.1.2, hk.2⟩, hk.1.1⟩)) hg hat)
            have n4_ := Aside0.mk (Kd.R_after (ok := (fun k_ => some k_ ≠ (v212 : Value).ownBlock ∧ some k_ ≠ (.slice Ao48 y224.length co48 : Value).ownBlock)) (by (with_reducible repeat (first | apply Kd.R_alloc | apply Kd.R_drewN | apply Kd.R_drew)); exact Kd.R_mono HO216.out (fun _ hk => ⟨⟨hk.1.2, hk.2⟩, hk.1.1⟩)) hg hat)
            have n5_ := Aside0.mk (Kd.R_over' (by (with_reducible repeat (first | apply Kd.R_alloc | apply Kd.R_drewN | apply Kd.R_drew)); exact HO220.out) (Kd.R_typed (by (with_reducible repeat (first | apply Kd.R_alloc | apply Kd.R_drewN | apply Kd.R_drew)); exact HO_211002.out)) (by decide) hg)
            have n6_ := Aside0.mk (Kd.R_over' (by (with_reducible repeat (first | apply Kd.R_alloc | apply Kd.R_drewN | apply Kd.R_drew)); exact HO223.out) (Kd.R_typed (by (with_reducible repeat (first | apply Kd.R_alloc | apply Kd.R_drewN | apply Kd.R_drew)); exact HO_211002.out)) (by decide) hg)
            have n7_ := Aside0.mk (Kd.R_over' (by (with_reducible repeat (first | apply Kd.R_alloc | apply Kd.R_drewN | apply Kd.R_drew)); exact HO233.out) (Kd.R_typed (by (with_reducible repeat (first | apply Kd.R_alloc | apply Kd.R_drewN | apply Kd.R_drew)); exact HO_211002.out)) (by decide) hg)
            have n8_ := Aside0.mk (Kd.R_after (ok := (fun k_ => some k_ ≠ (v212 : Value).ownBlock ∧ some k_ ≠ (.slice Ao35 y214.length co35 : Value).ownBlock)) (by (with_reducible repeat (first | apply Kd.R_alloc | apply Kd.R_drewN | apply Kd.R_drew)); exact Kd.R_mono HO226.out (fun _ hk => ⟨⟨hk.1.2, hk.2⟩, hk.1.1.2⟩)) hg hat)
            have n9_ := Aside0.mk (hb)
            have n10_ := Aside0.mk (ho)
            clear HO_211003
            clear BK209
            clear BK210
            clear HO213
            clear HO216
            clear HO220
            clear HO223
            clear HO233
            clear HO226
            clear HB
            clear HO_211002
            have HO_211003 := n0_
            have BK209 := n1_
            have BK210 := n2_
            have HO213 := n3_
            have HO216 := n4_
            have HO220 := n5_
            have HO223 := n6_
            have HO233 := n7_
            have HO226 := n8_
            have HB := n9_
            have HO229 := n10_
            clear n0_ n1_ n2_ n3_ n4_ n5_ n6_ n7_ n8_ n9_ n10_
            clear ho hb hg hat
            refine hK.out _ _ ⟨(blk_cell BK210.out 0).trans rfl, (blk_cell BK210.out 1).trans rfl, (blk_cell BK210.out 2).trans rfl, (blk_cell BK210.out 3).trans rfl, ((HB.out.cell (World.block_lt_of_cell? w _ hw230_0)).trans hw230_0)⟩ (fun hHeld => ?_)
            clear hK K
            refine norm_ (a' := ?_) ?_ ?_
            rotate_left
            · show Act.put _ (some 53) _ = _
              simp only [Act.put, List.setIfInBounds_toArray, List.set_cons_zero, List.set_cons_succ, i64_w, i32_w]
              rfl
            refine pure_ (i := 13) (N := some 62) (v := ?_) (a' := ?_) #[true, true, true, true, true, true, true, true, true, true, true, true, false, true, false, false, false] rfl rfl (any_of HT_.out (by kernel_rfl)) (fun _ _ _ h => h) (Or.inl ⟨by rfl, ?_⟩) ?_ ?_
            rotate_left
            · intro w'
              go_simp
              with_reducible rfl
            rotate_left
            · simp only [Act.put, List.setIfInBounds_toArray, List.set_cons_zero, List.set_cons_succ, i64_w, i32_w]
              rfl
            exact norm_ (by simp only [putAll, Act.put, List.setIfInBounds_toArray, List.set_cons_zero, List.set_cons_succ]) (hCont (.slice Ao48 y224.length co48, v228, v232) _ ⟨hHeld, (by (with_reducible repeat (first | apply Kd.R_alloc | apply Kd.R_drewN | apply Kd.R_drew)); exact Kd.R_mono HO213.out (fun _ hk => ⟨hk.1.1, ⟨hk.1.2, hk.2⟩⟩)), (by (with_reducible repeat (first | apply Kd.R_alloc | apply Kd.R_drewN | apply Kd.R_drew)); exact Kd.R_mono HO216.out (fun _ hk => ⟨hk.1.1, ⟨hk.1.2, hk.2⟩⟩)), (by (with_reducible repeat (first | apply Kd.R_alloc | apply Kd.R_drewN | apply Kd.R_drew)); exact Kd.R_mono HO220.out (fun _ hk => ⟨hk.1.2, ⟨hk.2, hk.1.1⟩⟩)), (by (with_reducible repeat (first | apply Kd.R_alloc | apply Kd.R_drewN | apply Kd.R_drew)); exact Kd.R_mono HO223.out (fun _ hk => ⟨hk.1.2, ⟨hk.2, hk.1.1⟩⟩)), (by (with_reducible repeat (first | apply Kd.R_alloc | apply Kd.R_drewN | apply Kd.R_drew)); exact Kd.R_mono HO226.out (fun _ hk => ⟨hk.1.1, ⟨hk.1.2, hk.2⟩⟩)), (by (with_reducible repeat (first | apply Kd.R_alloc | apply Kd.R_drewN | apply Kd.R_drew)); exact HO229.out), (by (with_reducible repeat (first | apply Kd.R_alloc | apply Kd.R_drewN | apply Kd.R_drew)); exact Kd.R_mono HO233.out (fun _ hk => ⟨hk.1.2, ⟨hk.2, hk.1.1.2⟩⟩)), (by (with_reducible repeat (first | apply Kd.R_alloc | apply Kd.R_drewN | apply Kd.R_drew)); exact Kd.R_mono HO_211003.out (fun _ hk => ⟨hk.1.1, ⟨hk.1.2, hk.2⟩⟩)), (by (with_reducible repeat (first | refine blk_drewN ?_ _ | refine blk_drew ?_ | refine blk_alloc ?_ _)); exact BK209.out), (by (with_reducible repeat (first | refine blk_drewN ?_ _ | refine blk_drew ?_ | refine blk_alloc ?_ _)); exact BK210.out), (by repeat (first | (with_reducible first | exact HB.out | apply below_alloc | apply pw_below_drewN | apply below_drew1 | refine below_set ?_ GE209.out | refine below_set ?_ GE210.out) | exact HB.out))⟩)
        rintro ⟨v225, v228, v232⟩ w49 ⟨hS_, h0_, h1_, h2_, h3_, h4_, h5_, h6_, h7_, h8_, h9_, h10_⟩
        have n0_ : Aside0 (Kd.R Kd.bool 4 w49 w.heap.size (fun k_ => some k_ ≠ (.slice Ao35 y214.length co35 : Value).ownBlock ∧ some k_ ≠ (v225 : Value).ownBlock ∧ some k_ ≠ (v228 : Value).ownBlock) v212 y211) := ⟨h0_⟩
        have n1_ : Aside0 (Kd.R Kd.bool 4 w49 w.heap.size (fun k_ => some k_ ≠ (v212 : Value).ownBlock ∧ some k_ ≠ (v225 : Value).ownBlock ∧ some k_ ≠ (v228 : Value).ownBlock) (.slice Ao35 y214.length co35) y214) := ⟨h1_⟩
        have n2_ : Aside0 (Kd.R (Kd.int .i64) 3 w49 w.heap.size (fun k_ => some k_ ≠ (.slice Ao37 y221.length co37 : Value).ownBlock ∧ some k_ ≠ (v232 : Value).ownBlock ∧ some k_ ≠ (.slice Ao40 x211003_1.length co40 : Value).ownBlock) (.slice Ao34 y218.length co34) y218) := ⟨h2_⟩
        have n3_ : Aside0 (Kd.R (Kd.int .i64) 3 w49 w.heap.size (fun k_ => some k_ ≠ (.slice Ao34 y218.length co34 : Value).ownBlock ∧ some k_ ≠ (v232 : Value).ownBlock ∧ some k_ ≠ (.slice Ao40 x211003_1.length co40 : Value).ownBlock) (.slice Ao37 y221.length co37) y221) := ⟨h3_⟩
        have n4_ : Aside0 (Kd.R Kd.bool 4 w49 w.heap.size (fun k_ => some k_ ≠ (v212 : Value).ownBlock ∧ some k_ ≠ (.slice Ao35 y214.length co35 : Value).ownBlock ∧ some k_ ≠ (v228 : Value).ownBlock) v225 y224) := ⟨h4_⟩
        have n5_ : Aside0 (Kd.R Kd.bool 4 w49 w.heap.size (fun k_ => some k_ ≠ (v212 : Value).ownBlock ∧ some k_ ≠ (.slice Ao35 y214.length co35 : Value).ownBlock ∧ some k_ ≠ (v225 : Value).ownBlock) v228 y227) := ⟨h5_⟩
        have n6_ : Aside0 (Kd.R (Kd.int .i64) 3 w49 w.heap.size (fun k_ => some k_ ≠ (.slice Ao34 y218.length co34 : Value).ownBlock ∧ some k_ ≠ (.slice Ao37 y221.length co37 : Value).ownBlock ∧ some k_ ≠ (.slice Ao40 x211003_1.length co40 : Value).ownBlock) v232 y231) := ⟨h6_⟩
        have n7_ : Aside0 (Kd.R (Kd.int .i64) 3 w49 w.heap.size (fun k_ => some k_ ≠ (.slice Ao34 y218.length co34 : Value).ownBlock ∧ some k_ ≠ (.slice Ao37 y221.length co37 : Value).ownBlock ∧ some k_ ≠ (v232 : Value).ownBlock) (.slice Ao40 x211003_1.length co40) x211003_1) := ⟨h7_⟩
        have n8_ : Aside0 (w49.heap[gb209]? = some (.cells #[.int .i64 3, .int .i64 0, .slice Ao35 y214.length co35, .slice Ao37 y221.length co37] 25 (0, 0))) := ⟨h8_⟩
        have n9_ : Aside0 (w49.heap[gb210]? = some (.cells #[.int .i64 3, .int .i64 0, .slice Ao39 x211002_1.length co39, .slice Ao40 x211003_1.length co40] 25 (0, 0))) := ⟨h9_⟩
        have n10_ : Aside0 (Below w.heap.size w w49) := ⟨h10_⟩
        clear HO_211002
        clear HO_211003
        clear HO213
        clear HO216
        clear HO220
        clear HO223
        clear BK209
        clear BK210
        clear HB
        clear h0_ h1_ h2_ h3_ h4_ h5_ h6_ h7_ h8_ h9_ h10_
        have HO213 := n0_
        have HO216 := n1_
        have HO220 := n2_
        have HO223 := n3_
        have HO226 := n4_
        have HO229 := n5_
        have HO233 := n6_
        have HO_211003 := n7_
        have BK209 := n8_
        have BK210 := n9_
        have HB := n10_
        clear n0_ n1_ n2_ n3_ n4_ n5_ n6_ n7_ n8_ n9_ n10_
        have hHeld : w49.cell? ⟨gb210, 0, none⟩ = some (.int .i64 3) ∧ w49.cell? ⟨gb210, 1, none⟩ = some (.int .i64 0) ∧ w49.cell? ⟨gb210, 2, none⟩ = some (.slice Ao39 x211002_1.length co39) ∧ w49.cell? ⟨gb210, 3, none⟩ = some (.slice Ao40 x211003_1.length co40) ∧ w49.cell? (ad230.add (x11_1).toNat) = some (.int .i64 (rd l1 x11_1)) := hS_
        obtain ⟨Ao51, co51, eo51⟩ := Kd.R_slice HO233.out
        (first | subst eo51 | (injection eo51 with f1_ f2_ f3_; have f4_ := f1_.symm; have f5_ := f3_.symm; clear f1_ f2_ f3_; subst f4_; subst f5_))
        refine norm_ (a' := ?_) ?_ ?_
        rotate_left
        · simp only [putAll, Act.put, List.setIfInBounds_toArray, List.set_cons_zero, List.set_cons_succ]
          rfl
        refine one_ (i := 12) (N := some 61) #[true, true, true, true, true, true, true, true, true, true, true, true, true, true, false, false, false] rfl rfl (one_of HT_.out (by kernel_rfl)) (by decide) (fun K hK => ?_)
        refine Kd.R_append_rows_step (Kd.int .i64) (w0 := w) w.heap.size (by rfl) (.tmp 55) (.tmp 60) 22 3 (.int .i64 0) 8 rfl Try.underlying22 info3 rfl (by decide) (by omega) (.slice Ao40 x211003_1.length co40) x211003_1 y231 _ _ _ (fun k_ => some k_ ≠ (.slice Ao34 y218.length co34 : Value).ownBlock ∧ some k_ ≠ (.slice Ao37 y221.length co37 : Value).ownBlock ∧ some k_ ≠ (.slice Ao51 y231.length co51 : Value).ownBlock) (fun _ => False) rfl rfl ?aO ?aR (fun _ _ h => h) (fun _ h => h.elim) ?aF ?aB ?aS ?aL ?_
        (case aR => repeat (first | exact (Kd.R_reads' HO233.out).2.2 | (with_reducible refine Kd.C_alloc ?_ _) | (with_reducible refine Kd.C_drewN ?_ _) | (with_reducible refine Kd.C_drew ?_)))
        (case aB => exact (by repeat (first | (with_reducible first | exact HB.out | apply below_alloc | apply pw_below_drewN | apply below_drew1 | refine below_set ?_ GE209.out | refine below_set ?_ GE210.out) | exact HB.out)))
        (case aF => exact (fun k_ hk => ⟨Kd.fresh' (Kd.R_lt (by (with_reducible repeat (first | apply Kd.R_alloc | apply Kd.R_drewN | apply Kd.R_drew)); exact HO220.out)) k_ hk, Kd.fresh' (Kd.R_lt (by (with_reducible repeat (first | apply Kd.R_alloc | apply Kd.R_drewN | apply Kd.R_drew)); exact HO223.out)) k_ hk, Kd.fresh' (Kd.R_lt (by (with_reducible repeat (first | apply Kd.R_alloc | apply Kd.R_drewN | apply Kd.R_drew)); exact HO233.out)) k_ hk⟩))
        (case aO => exact (by (with_reducible repeat (first | apply Kd.R_alloc | apply Kd.R_drewN | apply Kd.R_drew)); exact HO_211003.out))
        (case aS => exact (below_size (by repeat (first | (with_reducible first | exact HB.out | apply below_alloc | apply pw_below_drewN | apply below_drew1 | refine below_set ?_ GE209.out | refine below_set ?_ GE210.out) | exact HB.out))))
        (case aL => have := LMc21.out; omega)
        intro v235 w50 ho hb hg hat
        rw [← Ny234.out] at ho
        have n0_ := Aside0.mk (blk_grown (g := gb209) (o := .cells #[.int .i64 3, .int .i64 0, .slice Ao35 y214.length co35, .slice Ao37 y221.length co37] 25 (0, 0)) (by (with_reducible repeat (first | refine blk_drewN ?_ _ | refine blk_drew ?_ | refine blk_alloc ?_ _)); exact BK209.out) hg (Kd.R_ne HO_211003.out BK209.out (by decide)))
        have n1_ := Aside0.mk (blk_grown (g := gb210) (o := .cells #[.int .i64 3, .int .i64 0, .slice Ao39 x211002_1.length co39, .slice Ao40 x211003_1.length co40] 25 (0, 0)) (by (with_reducible repeat (first | refine blk_drewN ?_ _ | refine blk_drew ?_ | refine blk_alloc ?_ _)); exact BK210.out) hg (Kd.R_ne HO_211003.out BK210.out (by decide)))
        have n2_ := Aside0.mk (Kd.R_over' (by (with_reducible repeat (first | apply Kd.R_alloc | apply Kd.R_drewN | apply Kd.R_drew)); exact HO213.out) (Kd.R_typed (by (with_reducible repeat (first | apply Kd.R_alloc | apply Kd.R_drewN | apply Kd.R_drew)); exact HO_211003.out)) (by decide) hg)
        have n3_ := Aside0.mk (Kd.R_over' (by (with_reducible repeat (first | apply Kd.R_alloc | apply Kd.R_drewN | apply Kd.R_drew)); exact HO216.out) (Kd.R_typed (by (with_reducible repeat (first | apply Kd.R_alloc | apply Kd.R_drewN | apply Kd.R_drew)); exact HO_211003.out)) (by decide) hg)
        have n4_ := Aside0.mk (Kd.R_after (ok := (fun k_ => some k_ ≠ (.slice Ao37 y221.length co37 : Value).ownBlock ∧ some k_ ≠ (.slice Ao51 y231.length co51 : Value).ownBlock)) (by (with_reducible repeat (first | apply Kd.R_alloc | apply Kd.R_drewN | apply Kd.R_drew)); exact Kd.R_mono HO220.out (fun _ hk => ⟨⟨hk.1, hk.2.1⟩, hk.2.2⟩)) hg hat)
        have n5_ := Aside0.mk (Kd.R_after (ok := (fun k_ => some k_ ≠ (.slice Ao34 y218.length co34 : Value).ownBlock ∧ some k_ ≠ (.slice Ao51 y231.length co51 : Value).ownBlock)) (by (with_reducible repeat (first | apply Kd.R_alloc | apply Kd.R_drewN | apply Kd.R_drew)); exact Kd.R_mono HO223.out (fun _ hk => ⟨⟨hk.1, hk.2.1⟩, hk.2.2⟩)) hg hat)
        have n6_ := Aside0.mk (Kd.R_over' (by (with_reducible repeat (first | apply Kd.R_alloc | apply Kd.R_drewN | apply Kd.R_drew)); exact HO226.out) (Kd.R_typed (by (with_reducible repeat (first | apply Kd.R_alloc | apply Kd.R_drewN | apply Kd.R_drew)); exact HO_211003.out)) (by decide) hg)
        have n7_ := Aside0.mk (Kd.R_over' (by (with_reducible repeat (first | apply Kd.R_alloc | apply Kd.R_drewN | apply Kd.R_drew)); exact HO229.out) (Kd.R_typed (by (with_reducible repeat (first | apply Kd.R_alloc | apply Kd.R_drewN | apply Kd.R_drew)); exact HO_211003.out)) (by decide) hg)
        have n8_ := Aside0.mk (Kd.R_after (ok := (fun k_ => some k_ ≠ (.slice Ao34 y218.length co34 : Value).ownBlock ∧ some k_ ≠ (.slice Ao37 y221.length co37 : Value).ownBlock)) (by (with_reducible repeat (first | apply Kd.R_alloc | apply Kd.R_drewN | apply Kd.R_drew)); exact Kd.R_mono HO233.out (fun _ hk => ⟨⟨hk.1, hk.2.1⟩, hk.2.2⟩)) hg hat)
        have n9_ := Aside0.mk (hb)
        have n10_ := Aside0.mk (ho)
        clear BK209
        clear BK210
        clear HO213
        clear HO216
        clear HO220
        clear HO223
        clear HO226
        clear HO229
        clear HO233
        clear HB
        clear HO_211003
        have BK209 := n0_
        have BK210 := n1_
        have HO213 := n2_
        have HO216 := n3_
        have HO220 := n4_
        have HO223 := n5_
        have HO226 := n6_
        have HO229 := n7_
        have HO233 := n8_
        have HB := n9_
        have HO236 := n10_
        clear n0_ n1_ n2_ n3_ n4_ n5_ n6_ n7_ n8_ n9_ n10_
        clear ho hb hg hat
        obtain ⟨Ao52, co52, eo52⟩ := Kd.R_slice HO229.out
        (first | subst eo52 | (injection eo52 with f1_ f2_ f3_; have f4_ := f1_.symm; have f5_ := f3_.symm; clear f1_ f2_ f3_; subst f4_; subst f5_))
        obtain ⟨Ao54, co54, eo54⟩ := Kd.R_slice HO236.out
        (first | subst eo54 | (injection eo54 with f1_ f2_ f3_; have f4_ := f1_.symm; have f5_ := f3_.symm; clear f1_ f2_ f3_; subst f4_; subst f5_))
        refine hK.out _ _ ⟨(blk_cell BK210.out 0).trans rfl, (blk_cell BK210.out 1).trans rfl, (blk_cell BK210.out 2).trans rfl, (blk_cell BK210.out 3).trans rfl, ((HB.out.cell (World.block_lt_of_cell? w _ hw230_0)).trans hw230_0)⟩ (fun hHeld => ?_)
        clear hK K
        refine norm_ (a' := ?_) ?_ ?_
        rotate_left
        · show Act.put _ (some 61) _ = _
          simp only [Act.put, List.setIfInBounds_toArray, List.set_cons_zero, List.set_cons_succ, i64_w, i32_w]
          rfl
        refine last_ (i := 14) (N := none) #[true, true, true, true, true, true, true, true, true, true, true, true, true, true, true, false, false] rfl rfl (one_of HT_.out (by kernel_rfl)) (by decide) (fun K hK => ?_)
        have hs53 : w50.cell? ⟨gb210, 2, none⟩ = some (.slice Ao39 x211002_1.length co39) := (blk_cell BK210.out 2).trans rfl
        have hfs53 := blk_frozen BK210.out 2
        have hns53_0 := NB209_210.out
        have hms53_0 := NB210_209.out
        refine skip_ (w1 := ?_) (by rfl) rfl ?_ ?_
        rotate_left
        · go_simp
          rfl
        refine hK.out _ _ ?_
        clear hK K
        refine pure_ (i := 15) (N := some 63) (v := ?_) (a' := ?_) #[true, true, true, true, true, true, true, true, true, true, true, true, true, true, true, true, false] rfl rfl (any_of HT_.out (by kernel_rfl)) (fun _ _ _ h => h) (Or.inl ⟨by rfl, ?_⟩) ?_ ?_
        rotate_left
        · intro w'
          go_simp
          with_reducible rfl
        rotate_left
        · simp only [Act.put, List.setIfInBounds_toArray, List.set_cons_zero, List.set_cons_succ, i64_w, i32_w]
          rfl
        refine last_ (i := 16) (N := none) #[true, true, true, true, true, true, true, true, true, true, true, true, true, true, true, true, true] rfl rfl (one_of HT_.out (by kernel_rfl)) (by decide) (fun K hK => ?_)
        have hs55 : w50.cell? ⟨gb210, 3, none⟩ = some (.slice Ao40 x211003_1.length co40) := (blk_cell BK210.out 3).trans rfl
        have hfs55 := blk_frozen BK210.out 3
        have hns55_0 := NB209_210.out
        have hms55_0 := NB210_209.out
        refine skip_ (w1 := ?_) (by rfl) rfl ?_ ?_
        rotate_left
        · go_simp
          rfl
        refine hK.out _ _ ?_
        clear hK K
        refine done_ (done_of HT_.out (by kernel_rfl)) ?_
        try go_wp2
        have n0_ : Aside0 (Kd.R Kd.bool 4 ((w50.setCell ⟨gb210, 2, none⟩ (.slice Ao52 y227.length co52)).setCell ⟨gb210, 3, none⟩ (.slice Ao54 y234.length co54)) w.heap.size (fun k_ => some k_ ≠ (.slice Ao35 y214.length co35 : Value).ownBlock ∧ some k_ ≠ (v225 : Value).ownBlock ∧ some k_ ≠ (.slice Ao52 y227.length co52 : Value).ownBlock) v212 y211) := ⟨by (with_reducible repeat (first | apply Kd.R_alloc | apply Kd.R_drewN | apply Kd.R_drew)); exact Kd.R_mono (Kd.R_far (p := ⟨gb210, 3, none⟩) (Kd.R_far (p := ⟨gb210, 2, none⟩) (Kd.R_types HO213.out BK210.out (by decide)) (fun _ hk => hk.2) (.slice Ao52 y227.length co52)) (fun _ hk => hk.2) (.slice Ao54 y234.length co54)) (fun _ hk => ⟨hk.1.1, ⟨hk.1.2.1, hk.1.2.2⟩⟩)⟩
        have n1_ : Aside0 (Kd.R Kd.bool 4 ((w50.setCell ⟨gb210, 2, none⟩ (.slice Ao52 y227.length co52)).setCell ⟨gb210, 3, none⟩ (.slice Ao54 y234.length co54)) w.heap.size (fun k_ => some k_ ≠ (v212 : Value).ownBlock ∧ some k_ ≠ (v225 : Value).ownBlock ∧ some k_ ≠ (.slice Ao52 y227.length co52 : Value).ownBlock) (.slice Ao35 y214.length co35) y214) := ⟨by (with_reducible repeat (first | apply Kd.R_alloc | apply Kd.R_drewN | apply Kd.R_drew)); exact Kd.R_mono (Kd.R_far (p := ⟨gb210, 3, none⟩) (Kd.R_far (p := ⟨gb210, 2, none⟩) (Kd.R_types HO216.out BK210.out (by decide)) (fun _ hk => hk.2) (.slice Ao52 y227.length co52)) (fun _ hk => hk.2) (.slice Ao54 y234.length co54)) (fun _ hk => ⟨hk.1.1, ⟨hk.1.2.1, hk.1.2.2⟩⟩)⟩
        have n2_ : Aside0 (Kd.R (Kd.int .i64) 3 ((w50.setCell ⟨gb210, 2, none⟩ (.slice Ao52 y227.length co52)).setCell ⟨gb210, 3, none⟩ (.slice Ao54 y234.length co54)) w.heap.size (fun k_ => some k_ ≠ (.slice Ao37 y221.length co37 : Value).ownBlock ∧ some k_ ≠ (.slice Ao51 y231.length co51 : Value).ownBlock ∧ some k_ ≠ (.slice Ao54 y234.length co54 : Value).ownBlock) (.slice Ao34 y218.length co34) y218) := ⟨by (with_reducible repeat (first | apply Kd.R_alloc | apply Kd.R_drewN | apply Kd.R_drew)); exact Kd.R_mono (Kd.R_far (p := ⟨gb210, 3, none⟩) (Kd.R_far (p := ⟨gb210, 2, none⟩) (Kd.R_types HO220.out BK210.out (by decide)) (fun _ hk => hk.2) (.slice Ao52 y227.length co52)) (fun _ hk => hk.2) (.slice Ao54 y234.length co54)) (fun _ hk => ⟨hk.1.1.1, ⟨hk.1.1.2, hk.1.2⟩⟩)⟩
        have n3_ : Aside0 (Kd.R (Kd.int .i64) 3 ((w50.setCell ⟨gb210, 2, none⟩ (.slice Ao52 y227.length co52)).setCell ⟨gb210, 3, none⟩ (.slice Ao54 y234.length co54)) w.heap.size (fun k_ => some k_ ≠ (.slice Ao34 y218.length co34 : Value).ownBlock ∧ some k_ ≠ (.slice Ao51 y231.length co51 : Value).ownBlock ∧ some k_ ≠ (.slice Ao54 y234.length co54 : Value).ownBlock) (.slice Ao37 y221.length co37) y221) := ⟨by (with_reducible repeat (first | apply Kd.R_alloc | apply Kd.R_drewN | apply Kd.R_drew)); exact Kd.R_mono (Kd.R_far (p := ⟨gb210, 3, none⟩) (Kd.R_far (p := ⟨gb210, 2, none⟩) (Kd.R_types HO223.out BK210.out (by decide)) (fun _ hk => hk.2) (.slice Ao52 y227.length co52)) (fun _ hk => hk.2) (.slice Ao54 y234.length co54)) (fun _ hk => ⟨hk.1.1.1, ⟨hk.1.1.2, hk.1.2⟩⟩)⟩
        have n4_ : Aside0 (Kd.R Kd.bool 4 ((w50.setCell ⟨gb210, 2, none⟩ (.slice Ao52 y227.length co52)).setCell ⟨gb210, 3, none⟩ (.slice Ao54 y234.length co54)) w.heap.size (fun k_ => some k_ ≠ (v212 : Value).ownBlock ∧ some k_ ≠ (.slice Ao35 y214.length co35 : Value).ownBlock ∧ some k_ ≠ (.slice Ao52 y227.length co52 : Value).ownBlock) v225 y224) := ⟨by (with_reducible repeat (first | apply Kd.R_alloc | apply Kd.R_drewN | apply Kd.R_drew)); exact Kd.R_mono (Kd.R_far (p := ⟨gb210, 3, none⟩) (Kd.R_far (p := ⟨gb210, 2, none⟩) (Kd.R_types HO226.out BK210.out (by decide)) (fun _ hk => hk.2) (.slice Ao52 y227.length co52)) (fun _ hk => hk.2) (.slice Ao54 y234.length co54)) (fun _ hk => ⟨hk.1.1, ⟨hk.1.2.1, hk.1.2.2⟩⟩)⟩
        have n5_ : Aside0 (Kd.R Kd.bool 4 ((w50.setCell ⟨gb210, 2, none⟩ (.slice Ao52 y227.length co52)).setCell ⟨gb210, 3, none⟩ (.slice Ao54 y234.length co54)) w.heap.size (fun k_ => some k_ ≠ (v212 : Value).ownBlock ∧ some k_ ≠ (.slice Ao35 y214.length co35 : Value).ownBlock ∧ some k_ ≠ (v225 : Value).ownBlock) (.slice Ao52 y227.length co52) y227) := ⟨by (with_reducible repeat (first | apply Kd.R_alloc | apply Kd.R_drewN | apply Kd.R_drew)); exact Kd.R_mono (Kd.R_far (p := ⟨gb210, 3, none⟩) (Kd.R_far (p := ⟨gb210, 2, none⟩) (Kd.R_types HO229.out BK210.out (by decide)) (fun _ hk => hk.2) (.slice Ao52 y227.length co52)) (fun _ hk => hk.2) (.slice Ao54 y234.length co54)) (fun _ hk => ⟨hk.1.1, ⟨hk.1.2.1, hk.1.2.2⟩⟩)⟩
        have n6_ : Aside0 (Kd.R (Kd.int .i64) 3 ((w50.setCell ⟨gb210, 2, none⟩ (.slice Ao52 y227.length co52)).setCell ⟨gb210, 3, none⟩ (.slice Ao54 y234.length co54)) w.heap.size (fun k_ => some k_ ≠ (.slice Ao34 y218.length co34 : Value).ownBlock ∧ some k_ ≠ (.slice Ao37 y221.length co37 : Value).ownBlock ∧ some k_ ≠ (.slice Ao54 y234.length co54 : Value).ownBlock) (.slice Ao51 y231.length co51) y231) := ⟨by (with_reducible repeat (first | apply Kd.R_alloc | apply Kd.R_drewN | apply Kd.R_drew)); exact Kd.R_mono (Kd.R_far (p := ⟨gb210, 3, none⟩) (Kd.R_far (p := ⟨gb210, 2, none⟩) (Kd.R_types HO233.out BK210.out (by decide)) (fun _ hk => hk.2) (.slice Ao52 y227.length co52)) (fun _ hk => hk.2) (.slice Ao54 y234.length co54)) (fun _ hk => ⟨hk.1.1.1, ⟨hk.1.1.2, hk.1.2⟩⟩)⟩
        have n7_ : Aside0 (Kd.R (Kd.int .i64) 3 ((w50.setCell ⟨gb210, 2, none⟩ (.slice Ao52 y227.length co52)).setCell ⟨gb210, 3, none⟩ (.slice Ao54 y234.length co54)) w.heap.size (fun k_ => some k_ ≠ (.slice Ao34 y218.length co34 : Value).ownBlock ∧ some k_ ≠ (.slice Ao37 y221.length co37 : Value).ownBlock ∧ some k_ ≠ (.slice Ao51 y231.length co51 : Value).ownBlock) (.slice Ao54 y234.length co54) y234) := ⟨by (with_reducible repeat (first | apply Kd.R_alloc | apply Kd.R_drewN | apply Kd.R_drew)); exact Kd.R_mono (Kd.R_far (p := ⟨gb210, 3, none⟩) (Kd.R_far (p := ⟨gb210, 2, none⟩) (Kd.R_types HO236.out BK210.out (by decide)) (fun _ hk => hk.2) (.slice Ao52 y227.length co52)) (fun _ hk => hk.2) (.slice Ao54 y234.length co54)) (fun _ hk => ⟨hk.1.1, ⟨hk.1.2.1, hk.1.2.2⟩⟩)⟩
        have n8_ : Aside0 (((w50.setCell ⟨gb210, 2, none⟩ (.slice Ao52 y227.length co52)).setCell ⟨gb210, 3, none⟩ (.slice Ao54 y234.length co54)).heap[gb209]? = some (.cells #[.int .i64 3, .int .i64 0, .slice Ao35 y214.length co35, .slice Ao37 y221.length co37] 25 (0, 0))) := ⟨by (with_reducible repeat (first | refine blk_drewN ?_ _ | refine blk_drew ?_ | refine blk_alloc ?_ _)); refine blk_far ?_ NB209_210.out _; (with_reducible repeat (first | refine blk_drewN ?_ _ | refine blk_drew ?_ | refine blk_alloc ?_ _)); refine blk_far ?_ NB209_210.out _; (with_reducible repeat (first | refine blk_drewN ?_ _ | refine blk_drew ?_ | refine blk_alloc ?_ _)); exact BK209.out⟩
        have n9_ : Aside0 (((w50.setCell ⟨gb210, 2, none⟩ (.slice Ao52 y227.length co52)).setCell ⟨gb210, 3, none⟩ (.slice Ao54 y234.length co54)).heap[gb210]? = some (.cells #[.int .i64 3, .int .i64 0, .slice Ao52 y227.length co52, .slice Ao54 y234.length co54] 25 (0, 0))) := ⟨by (with_reducible repeat (first | refine blk_drewN ?_ _ | refine blk_drew ?_ | refine blk_alloc ?_ _)); refine blk_put (cs := #[.int .i64 3, .int .i64 0, .slice Ao52 y227.length co52, .slice Ao40 x211003_1.length co40]) ?_ 3 _ rfl; (with_reducible repeat (first | refine blk_drewN ?_ _ | refine blk_drew ?_ | refine blk_alloc ?_ _)); refine blk_put (cs := #[.int .i64 3, .int .i64 0, .slice Ao39 x211002_1.length co39, .slice Ao40 x211003_1.length co40]) ?_ 2 _ rfl; (with_reducible repeat (first | refine blk_drewN ?_ _ | refine blk_drew ?_ | refine blk_alloc ?_ _)); exact BK210.out⟩
        have n10_ : Aside0 (Below w.heap.size w ((w50.setCell ⟨gb210, 2, none⟩ (.slice Ao52 y227.length co52)).setCell ⟨gb210, 3, none⟩ (.slice Ao54 y234.length co54))) := ⟨by repeat (first | (with_reducible first | exact HB.out | apply below_alloc | apply pw_below_drewN | apply below_drew1 | refine below_set ?_ GE209.out | refine below_set ?_ GE210.out) | exact HB.out)⟩
        (try clear HO213)
        (try clear HO216)
        (try clear HO220)
        (try clear HO223)
        (try clear HO226)
        (try clear HO229)
        (try clear HO233)
        (try clear HO236)
        (try clear BK209)
        (try clear BK210)
        (try clear HB)
        generalize ((w50.setCell ⟨gb210, 2, none⟩ (.slice Ao52 y227.length co52)).setCell ⟨gb210, 3, none⟩ (.slice Ao54 y234.length co54)) = w56 at n0_ n1_ n2_ n3_ n4_ n5_ n6_ n7_ n8_ n9_ n10_ ⊢
        have HO213 := n0_
        have HO216 := n1_
        have HO220 := n2_
        have HO223 := n3_
        have HO226 := n4_
        have HO229 := n5_
        have HO233 := n6_
        have HO236 := n7_
        have BK209 := n8_
        have BK210 := n9_
        have HB := n10_
        clear n0_ n1_ n2_ n3_ n4_ n5_ n6_ n7_ n8_ n9_ n10_
        have n0_ := Aside0.mk (Kd.R_drew HO213.out)
        have n1_ := Aside0.mk (Kd.R_drew HO216.out)
        have n2_ := Aside0.mk (Kd.R_drew HO220.out)
        have n3_ := Aside0.mk (Kd.R_drew HO223.out)
        have n4_ := Aside0.mk (Kd.R_drew HO226.out)
        have n5_ := Aside0.mk (Kd.R_drew HO229.out)
        have n6_ := Aside0.mk (Kd.R_drew HO233.out)
        have n7_ := Aside0.mk (Kd.R_drew HO236.out)
        have n8_ := Aside0.mk (blk_drew BK209.out)
        have n9_ := Aside0.mk (blk_drew BK210.out)
        have n10_ := Aside0.mk (below_drew1 HB.out)
        clear HO213
        clear HO216
        clear HO220
        clear HO223
        clear HO226
        clear HO229
        clear HO233
        clear HO236
        clear BK209
        clear BK210
        clear HB
        have HO213 := n0_
        have HO216 := n1_
        have HO220 := n2_
        have HO223 := n3_
        have HO226 := n4_
        have HO229 := n5_
        have HO233 := n6_
        have HO236 := n7_
        have BK209 := n8_
        have BK210 := n9_
        have HB := n10_
        clear n0_ n1_ n2_ n3_ n4_ n5_ n6_ n7_ n8_ n9_ n10_
        have H := HSV_.out
        clear HSV_
        by_cases c22 : x10_1 = true
        · subst c22
          have H1 : (debuggerlaw41_WatchpointWords.l0 k1 l0 l1 a2 ji5 true (wrap64 (x11_1 + 1)) 3 0 y214 y221 3 0 y227 y234) = some r := by rw [if_pos rfl] at H; exact H
          clear H
          have H := H1
          clear H1
          have H' := Aside0.mk H
          clear H
          refine start_ (n := 16) (S := fun w' => True) (ds := []) #[false, false, false, false, false, false, false, false, false, false, false, false, false, false, false, false] (by kernel_rfl) rfl rfl trivial (fun hHeld => ?_); refine with_tabW debuggerlaw41_WatchpointWords.tab10 debuggerlaw41_WatchpointWords.bits10 (fun HT_ HW_ => ?_)
          generalize w56.drew = w57 at HO213 HO216 HO220 HO223 HO226 HO229 HO233 HO236 BK209 BK210 HB hHeld ⊢
          refine pure_ (i := 0) (N := some 64) (v := ?_) (a' := ?_) #[true, false, false, false, false, false, false, false, false, false, false, false, false, false, false, false] rfl rfl (any_of HT_.out (by kernel_rfl)) (fun _ _ _ h => h) (Or.inl ⟨by rfl, ?_⟩) ?_ ?_
          rotate_left
          · intro w'
            go_simp
            with_reducible rfl
          rotate_left
          · simp only [Act.put, List.setIfInBounds_toArray, List.set_cons_zero, List.set_cons_succ, i64_w, i32_w]
            rfl
          refine pure_ (i := 1) (N := some 65) (v := ?_) (a' := ?_) #[true, true, false, false, false, false, false, false, false, false, false, false, false, false, false, false] rfl rfl (any_of HT_.out (by kernel_rfl)) (fun _ _ _ h => h) (Or.inl ⟨by rfl, ?_⟩) ?_ ?_
          rotate_left
          · intro w'
            go_simp
            with_reducible rfl
          rotate_left
          · simp only [Act.put, List.setIfInBounds_toArray, List.set_cons_zero, List.set_cons_succ, i64_w, i32_w]
            rfl
          refine pure_ (i := 2) (N := some 66) (v := undef) (a' := ?_) #[true, true, true, false, false, false, false, false, false, false, false, false, false, false, false, false] rfl rfl (any_of HT_.out (by kernel_rfl)) (fun _ _ _ h => h) (Or.inr ⟨by rfl, rfl⟩) ?_ ?_
          rotate_left
          · simp only [Act.put, List.setIfInBounds_toArray, List.set_cons_zero, List.set_cons_succ, i64_w, i32_w]
            rfl
          refine pure_ (i := 3) (N := some 67) (v := undef) (a' := ?_) #[true, true, true, true, false, false, false, false, false, false, false, false, false, false, false, false] rfl rfl (any_of HT_.out (by kernel_rfl)) (fun _ _ _ h => h) (Or.inr ⟨by rfl, rfl⟩) ?_ ?_
          rotate_left
          · simp only [Act.put, List.setIfInBounds_toArray, List.set_cons_zero, List.set_cons_succ, i64_w, i32_w]
            rfl
          refine pure_ (i := 4) (N := some 68) (v := undef) (a' := ?_) #[true, true, true, true, true, false, false, false, false, false, false, false, false, false, false, false] rfl rfl (any_of HT_.out (by kernel_rfl)) (fun _ _ _ h => h) (Or.inr ⟨by rfl, rfl⟩) ?_ ?_
          rotate_left
          · simp only [Act.put, List.setIfInBounds_toArray, List.set_cons_zero, List.set_cons_succ, i64_w, i32_w]
            rfl
          refine pure_ (i := 5) (N := some 69) (v := undef) (a' := ?_) #[true, true, true, true, true, true, false, false, false, false, false, false, false, false, false, false] rfl rfl (any_of HT_.out (by kernel_rfl)) (fun _ _ _ h => h) (Or.inr ⟨by rfl, rfl⟩) ?_ ?_
          rotate_left
          · simp only [Act.put, List.setIfInBounds_toArray, List.set_cons_zero, List.set_cons_succ, i64_w, i32_w]
            rfl
          refine pure_ (i := 6) (N := some 70) (v := undef) (a' := ?_) #[true, true, true, true, true, true, true, false, false, false, false, false, false, false, false, false] rfl rfl (any_of HT_.out (by kernel_rfl)) (fun _ _ _ h => h) (Or.inr ⟨by rfl, rfl⟩) ?_ ?_
          rotate_left
          · simp only [Act.put, List.setIfInBounds_toArray, List.set_cons_zero, List.set_cons_succ, i64_w, i32_w]
            rfl
          refine pure_ (i := 7) (N := some 71) (v := undef) (a' := ?_) #[true, true, true, true, true, true, true, true, false, false, false, false, false, false, false, false] rfl rfl (any_of HT_.out (by kernel_rfl)) (fun _ _ _ h => h) (Or.inr ⟨by rfl, rfl⟩) ?_ ?_
          rotate_left
          · simp only [Act.put, List.setIfInBounds_toArray, List.set_cons_zero, List.set_cons_succ, i64_w, i32_w]
            rfl
          refine pure_ (i := 8) (N := some 72) (v := undef) (a' := ?_) #[true, true, true, true, true, true, true, true, true, false, false, false, false, false, false, false] rfl rfl (any_of HT_.out (by kernel_rfl)) (fun _ _ _ h => h) (Or.inr ⟨by rfl, rfl⟩) ?_ ?_
          rotate_left
          · simp only [Act.put, List.setIfInBounds_toArray, List.set_cons_zero, List.set_cons_succ, i64_w, i32_w]
            rfl
          refine pure_ (i := 9) (N := some 73) (v := undef) (a' := ?_) #[true, true, true, true, true, true, true, true, true, true, false, false, false, false, false, false] rfl rfl (any_of HT_.out (by kernel_rfl)) (fun _ _ _ h => h) (Or.inr ⟨by rfl, rfl⟩) ?_ ?_
          rotate_left
          · simp only [Act.put, List.setIfInBounds_toArray, List.set_cons_zero, List.set_cons_succ, i64_w, i32_w]
            rfl
          refine pure_ (i := 10) (N := some 74) (v := undef) (a' := ?_) #[true, true, true, true, true, true, true, true, true, true, true, false, false, false, false, false] rfl rfl (any_of HT_.out (by kernel_rfl)) (fun _ _ _ h => h) (Or.inr ⟨by rfl, rfl⟩) ?_ ?_
          rotate_left
          · simp only [Act.put, List.setIfInBounds_toArray, List.set_cons_zero, List.set_cons_succ, i64_w, i32_w]
            rfl
          refine pure_ (i := 11) (N := some 75) (v := undef) (a' := ?_) #[true, true, true, true, true, true, true, true, true, true, true, true, false, false, false, false] rfl rfl (any_of HT_.out (by kernel_rfl)) (fun _ _ _ h => h) (Or.inr ⟨by rfl, rfl⟩) ?_ ?_
          rotate_left
          · simp only [Act.put, List.setIfInBounds_toArray, List.set_cons_zero, List.set_cons_succ, i64_w, i32_w]
            rfl
          refine pure_ (i := 12) (N := some 76) (v := undef) (a' := ?_) #[true, true, true, true, true, true, true, true, true, true, true, true, true, false, false, false] rfl rfl (any_of HT_.out (by kernel_rfl)) (fun _ _ _ h => h) (Or.inr ⟨by rfl, rfl⟩) ?_ ?_
          rotate_left
          · simp only [Act.put, List.setIfInBounds_toArray, List.set_cons_zero, List.set_cons_succ, i64_w, i32_w]
            rfl
          refine pure_ (i := 13) (N := some 77) (v := undef) (a' := ?_) #[true, true, true, true, true, true, true, true, true, true, true, true, true, true, false, false] rfl rfl (any_of HT_.out (by kernel_rfl)) (fun _ _ _ h => h) (Or.inr ⟨by rfl, rfl⟩) ?_ ?_
          rotate_left
          · simp only [Act.put, List.setIfInBounds_toArray, List.set_cons_zero, List.set_cons_succ, i64_w, i32_w]
            rfl
          refine pure_ (i := 14) (N := some 78) (v := ?_) (a' := ?_) #[true, true, true, true, true, true, true, true, true, true, true, true, true, true, true, false] rfl rfl (any_of HT_.out (by kernel_rfl)) (fun _ _ _ h => h) (Or.inl ⟨by rfl, ?_⟩) ?_ ?_
          rotate_left
          · intro w'
            go_simp
            with_reducible rfl
          rotate_left
          · simp only [Act.put, List.setIfInBounds_toArray, List.set_cons_zero, List.set_cons_succ, i64_w, i32_w]
            rfl
          refine pure_ (i := 15) (N := some 10) (v := ?_) (a' := ?_) #[true, true, true, true, true, true, true, true, true, true, true, true, true, true, true, true] rfl rfl (any_of HT_.out (by kernel_rfl)) (fun _ _ _ h => h) (Or.inl ⟨by rfl, ?_⟩) ?_ ?_
          rotate_left
          · intro w'
            go_simp
            with_reducible rfl
          rotate_left
          · simp only [Act.put, List.setIfInBounds_toArray, List.set_cons_zero, List.set_cons_succ, i64_w, i32_w]
            rfl
          refine done_ (done_of HT_.out (by kernel_rfl)) ?_
          try go_wp2
          go_roundg k1
          case measure => have := HK1.out; omega
          case rel => exact ⟨(true), (wrap64 (x11_1 + 1)), (y214), (y221), (y227), (y234), (.slice Ao35 y214.length co35), (.slice Ao37 y221.length co37), (.slice Ao52 y227.length co52), (.slice Ao54 y234.length co54), (by first | rfl | (simp; done) | (simp [*]; done)), (by first | rfl | (simp; done) | (simp [*]; done)), H', ⟨by have := HK1.out; omega⟩, ⟨by (with_reducible repeat (first | apply Kd.R_alloc | apply Kd.R_drewN | apply Kd.R_drew)); exact Kd.R_mono HO216.out (fun _ hk => hk.2.2)⟩, ⟨by (with_reducible repeat (first | apply Kd.R_alloc | apply Kd.R_drewN | apply Kd.R_drew)); exact Kd.R_mono HO223.out (fun _ hk => hk.2.2)⟩, ⟨by (with_reducible repeat (first | apply Kd.R_alloc | apply Kd.R_drewN | apply Kd.R_drew)); exact Kd.R_mono HO229.out (fun _ hk => hk.2.1)⟩, ⟨by (with_reducible repeat (first | apply Kd.R_alloc | apply Kd.R_drewN | apply Kd.R_drew)); exact Kd.R_mono HO236.out (fun _ hk => hk.2.1)⟩, ⟨by (with_reducible repeat (first | refine blk_drewN ?_ _ | refine blk_drew ?_ | refine blk_alloc ?_ _)); exact BK209.out⟩, ⟨by (with_reducible repeat (first | refine blk_drewN ?_ _ | refine blk_drew ?_ | refine blk_alloc ?_ _)); exact BK210.out⟩, ⟨by repeat (first | (with_reducible first | exact HB.out | apply below_alloc | apply pw_below_drewN | apply below_drew1 | refine below_set ?_ GE209.out | refine below_set ?_ GE210.out) | exact HB.out)⟩⟩
        · replace c22 := Bool.eq_false_iff.mpr c22
          subst c22
          have H1 : (if (Go.bits .and .i64 (ji14) 1) = 0 then (debuggerlaw41_WatchpointWords.l0 k1 l0 l1 a2 ji5 ((rd l0 x11_1) != (rd l1 x11_1)) (wrap64 (x11_1 + 1)) 3 0 y214 y221 3 0 y227 y234) else (debuggerlaw41_WatchpointWords.l0 k1 l0 l1 a2 ji5 false (wrap64 (x11_1 + 1)) 3 0 y214 y221 3 0 y227 y234)) = some r := by rw [if_neg (show ¬ (false = true) by decide)] at H; exact H
          clear H
          have H := H1
          clear H1
          by_cases c58 : (Go.bits .and .i64 (ji14) 1) = 0
          · rw [if_pos c58] at H
            have c58b0 : ((Go.bits .and .i64 (ji14) 1) == 0) = true := beq_iff_eq.mpr c58
            have c58b1 : ((Go.bits .and .i64 (ji14) 1) != 0) = false := bne_eq_false_iff_eq.mpr c58
            clear c58
            have H' := Aside0.mk H
            clear H
            have p237 : 0 ≤ (x11_1 : Int) := of_decide_eq_true (by first | (with_reducible assumption) | assumption)
            have q237 : x11_1 < (l0.length : Int) := of_decide_eq_true (by first | (with_reducible assumption) | assumption)
            obtain ⟨ad237, e237, hx237_0⟩ := Kd.at_int HR0.out x11_1 p237 q237
            have hw237_0 := hx237_0
            obtain rfl : ad217 = ad237 := (by injection e237)
            replace hx237_0 := (HB.out.cell (World.block_lt_of_cell? w _ hx237_0)).trans hx237_0
            replace p237 := eq_true p237
            replace q237 := eq_true q237
            have p238 : 0 ≤ (x11_1 : Int) := of_decide_eq_true (by first | (with_reducible assumption) | assumption)
            have q238 : x11_1 < (l1.length : Int) := of_decide_eq_true (by first | (with_reducible assumption) | assumption)
            obtain ⟨ad238, e238, hx238_0⟩ := Kd.at_int HR1.out x11_1 p238 q238
            have hw238_0 := hx238_0
            obtain rfl : ad230 = ad238 := (by injection e238)
            replace hx238_0 := (HB.out.cell (World.block_lt_of_cell? w _ hx238_0)).trans hx238_0
            replace p238 := eq_true p238
            replace q238 := eq_true q238
            refine start_ (n := 16) (S := fun w' => w'.cell? (ad217.add (x11_1).toNat) = some (.int .i64 (rd l0 x11_1)) ∧ w'.cell? (ad230.add (x11_1).toNat) = some (.int .i64 (rd l1 x11_1))) (ds := []) #[false, false, false, false, false, false, false, false, false, false, false, false, false, false, false, false] (by kernel_rfl) rfl rfl ⟨((HB.out.cell (World.block_lt_of_cell? w _ hw237_0)).trans hw237_0), ((HB.out.cell (World.block_lt_of_cell? w _ hw238_0)).trans hw238_0)⟩ (fun hHeld => ?_); refine with_tabW debuggerlaw41_WatchpointWords.tab10 debuggerlaw41_WatchpointWords.bits10 (fun HT_ HW_ => ?_)
            generalize w56.drew = w93 at HO213 HO216 HO220 HO223 HO226 HO229 HO233 HO236 BK209 BK210 HB hx237_0 hx238_0 hHeld ⊢
            refine pure_ (i := 0) (N := some 64) (v := ?_) (a' := ?_) #[true, false, false, false, false, false, false, false, false, false, false, false, false, false, false, false] rfl rfl (any_of HT_.out (by kernel_rfl)) (fun _ _ _ h => h) (Or.inl ⟨by rfl, ?_⟩) ?_ ?_
            rotate_left
            · intro w'
              go_simp
              with_reducible rfl
            rotate_left
            · simp only [Act.put, List.setIfInBounds_toArray, List.set_cons_zero, List.set_cons_succ, i64_w, i32_w]
              rfl
            refine pure_ (i := 1) (N := some 65) (v := ?_) (a' := ?_) #[true, true, false, false, false, false, false, false, false, false, false, false, false, false, false, false] rfl rfl (any_of HT_.out (by kernel_rfl)) (fun _ _ _ h => h) (Or.inl ⟨by rfl, ?_⟩) ?_ ?_
            rotate_left
            · intro w'
              go_simp
              with_reducible rfl
            rotate_left
            · simp only [Act.put, List.setIfInBounds_toArray, List.set_cons_zero, List.set_cons_succ, i64_w, i32_w]
              rfl
            refine pure_ (i := 2) (N := some 66) (v := ?_) (a' := ?_) #[true, true, true, false, false, false, false, false, false, false, false, false, false, false, false, false] rfl rfl (any_of HT_.out (by kernel_rfl)) (fun _ _ _ h => h) (Or.inl ⟨by rfl, ?_⟩) ?_ ?_
            rotate_left
            · intro w'
              go_simp
              with_reducible rfl
            rotate_left
            · simp only [Act.put, List.setIfInBounds_toArray, List.set_cons_zero, List.set_cons_succ, i64_w, i32_w]
              rfl
            refine pure_ (i := 3) (N := some 67) (v := ?_) (a' := ?_) #[true, true, true, true, false, false, false, false, false, false, false, false, false, false, false, false] rfl rfl (any_of HT_.out (by kernel_rfl)) (fun _ _ _ h => h) (Or.inl ⟨by rfl, ?_⟩) ?_ ?_
            rotate_left
            · intro w'
              go_simp
              with_reducible rfl
            rotate_left
            · simp only [Act.put, List.setIfInBounds_toArray, List.set_cons_zero, List.set_cons_succ, i64_w, i32_w]
              rfl
            refine pure_ (i := 4) (N := some 68) (v := ?_) (a' := ?_) #[true, true, true, true, true, false, false, false, false, false, false, false, false, false, false, false] rfl rfl (any_of HT_.out (by kernel_rfl)) (fun _ _ _ h => h) (Or.inl ⟨by rfl, ?_⟩) ?_ ?_
            rotate_left
            · intro w'
              go_simp
              with_reducible rfl
            rotate_left
            · simp only [Act.put, List.setIfInBounds_toArray, List.set_cons_zero, List.set_cons_succ, i64_w, i32_w]
              rfl
            refine pure_ (i := 5) (N := some 69) (v := ?_) (a' := ?_) #[true, true, true, true, true, true, false, false, false, false, false, false, false, false, false, false] rfl rfl (any_of HT_.out (by kernel_rfl)) (fun _ _ _ h => h) (Or.inl ⟨by rfl, ?_⟩) ?_ ?_
            rotate_left
            · intro w'
              go_simp
              with_reducible rfl
            rotate_left
            · simp only [Act.put, List.setIfInBounds_toArray, List.set_cons_zero, List.set_cons_succ, i64_w, i32_w]
              rfl
            refine pure_ (i := 6) (N := some 70) (v := ?_) (a' := ?_) #[true, true, true, true, true, true, true, false, false, false, false, false, false, false, false, false] rfl rfl (any_of HT_.out (by kernel_rfl)) (fun _ _ _ h => h) (Or.inl ⟨by rfl, ?_⟩) ?_ ?_
            rotate_left
            · intro w'
              go_simp
              with_reducible rfl
            rotate_left
            · simp only [Act.put, List.setIfInBounds_toArray, List.set_cons_zero, List.set_cons_succ, i64_w, i32_w]
              rfl
            refine pure_ (i := 8) (N := some 72) (v := ?_) (a' := ?_) #[true, true, true, true, true, true, true, false, true, false, false, false, false, false, false, false] rfl rfl (any_of HT_.out (by kernel_rfl)) (fun _ _ _ h => h) (Or.inl ⟨by rfl, ?_⟩) ?_ ?_
            rotate_left
            · intro w'
              go_simp
              with_reducible rfl
            rotate_left
            · simp only [Act.put, List.setIfInBounds_toArray, List.set_cons_zero, List.set_cons_succ, i64_w, i32_w]
              rfl
            refine pure_ (i := 9) (N := some 73) (v := ?_) (a' := ?_) #[true, true, true, true, true, true, true, false, true, true, false, false, false, false, false, false] rfl rfl (any_of HT_.out (by kernel_rfl)) (fun _ _ _ h => h) (Or.inl ⟨by rfl, ?_⟩) ?_ ?_
            rotate_left
            · intro w'
              go_simp
              with_reducible rfl
            rotate_left
            · simp only [Act.put, List.setIfInBounds_toArray, List.set_cons_zero, List.set_cons_succ, i64_w, i32_w]
              rfl
            refine pure_ (i := 10) (N := some 74) (v := ?_) (a' := ?_) #[true, true, true, true, true, true, true, false, true, true, true, false, false, false, false, false] rfl rfl (any_of HT_.out (by kernel_rfl)) (fun _ _ _ h => h) (Or.inl ⟨by rfl, ?_⟩) ?_ ?_
            rotate_left
            · intro w'
              go_simp
              with_reducible rfl
            rotate_left
            · simp only [Act.put, List.setIfInBounds_toArray, List.set_cons_zero, List.set_cons_succ, i64_w, i32_w]
              rfl
            refine take_ (i := 7) (N := some 71) (v := ?_) (a' := ?_) #[true, true, true, true, true, true, true, true, true, true, true, false, false, false, false, false] rfl rfl (take_ofW HT_.out HW_.out (by kernel_rfl)) (fun _ _ _ h => h) (Or.inl ⟨by rfl, ?_⟩) hHeld ?_ ?_
            rotate_left
            · rintro w' ⟨s0, s1⟩
              go_simp
              with_reducible rfl
            rotate_left
            · simp only [Act.put, List.setIfInBounds_toArray, List.set_cons_zero, List.set_cons_succ, i64_w, i32_w]
              rfl
            refine take_ (i := 11) (N := some 75) (v := ?_) (a' := ?_) #[true, true, true, true, true, true, true, true, true, true, true, true, false, false, false, false] rfl rfl (take_ofW HT_.out HW_.out (by kernel_rfl)) (fun _ _ _ h => h) (Or.inl ⟨by rfl, ?_⟩) hHeld ?_ ?_
            rotate_left
            · rintro w' ⟨s0, s1⟩
              go_simp
              with_reducible rfl
            rotate_left
            · simp only [Act.put, List.setIfInBounds_toArray, List.set_cons_zero, List.set_cons_succ, i64_w, i32_w]
              rfl
            refine pure_ (i := 12) (N := some 76) (v := ?_) (a' := ?_) #[true, true, true, true, true, true, true, true, true, true, true, true, true, false, false, false] rfl rfl (any_of HT_.out (by kernel_rfl)) (fun _ _ _ h => h) (Or.inl ⟨by rfl, ?_⟩) ?_ ?_
            rotate_left
            · intro w'
              go_simp
              with_reducible rfl
            rotate_left
            · simp only [Act.put, List.setIfInBounds_toArray, List.set_cons_zero, List.set_cons_succ, i64_w, i32_w]
              rfl
            refine pure_ (i := 13) (N := some 77) (v := ?_) (a' := ?_) #[true, true, true, true, true, true, true, true, true, true, true, true, true, true, false, false] rfl rfl (any_of HT_.out (by kernel_rfl)) (fun _ _ _ h => h) (Or.inl ⟨by rfl, ?_⟩) ?_ ?_
            rotate_left
            · intro w'
              go_simp
              with_reducible rfl
            rotate_left
            · simp only [Act.put, List.setIfInBounds_toArray, List.set_cons_zero, List.set_cons_succ, i64_w, i32_w]
              rfl
            refine pure_ (i := 14) (N := some 78) (v := ?_) (a' := ?_) #[true, true, true, true, true, true, true, true, true, true, true, true, true, true, true, false] rfl rfl (any_of HT_.out (by kernel_rfl)) (fun _ _ _ h => h) (Or.inl ⟨by rfl, ?_⟩) ?_ ?_
            rotate_left
            · intro w'
              go_simp
              with_reducible rfl
            rotate_left
            · simp only [Act.put, List.setIfInBounds_toArray, List.set_cons_zero, List.set_cons_succ, i64_w, i32_w]
              rfl
            refine pure_ (i := 15) (N := some 10) (v := ?_) (a' := ?_) #[true, true, true, true, true, true, true, true, true, true, true, true, true, true, true, true] rfl rfl (any_of HT_.out (by kernel_rfl)) (fun _ _ _ h => h) (Or.inl ⟨by rfl, ?_⟩) ?_ ?_
            rotate_left
            · intro w'
              go_simp
              with_reducible rfl
            rotate_left
            · simp only [Act.put, List.setIfInBounds_toArray, List.set_cons_zero, List.set_cons_succ, i64_w, i32_w]
              rfl
            refine done_ (done_of HT_.out (by kernel_rfl)) ?_
            try go_wp2
            go_roundg k1
            case measure => have := HK1.out; omega
            case rel => exact ⟨(((rd l0 x11_1) != (rd l1 x11_1))), (wrap64 (x11_1 + 1)), (y214), (y221), (y227), (y234), (.slice Ao35 y214.length co35), (.slice Ao37 y221.length co37), (.slice Ao52 y227.length co52), (.slice Ao54 y234.length co54), (by first | rfl | (simp; done) | (simp [*]; done)), (by first | rfl | (simp; done) | (simp [*]; done)), H', ⟨by have := HK1.out; omega⟩, ⟨by (with_reducible repeat (first | apply Kd.R_alloc | apply Kd.R_drewN | apply Kd.R_drew)); exact Kd.R_mono HO216.out (fun _ hk => hk.2.2)⟩, ⟨by (with_reducible repeat (first | apply Kd.R_alloc | apply Kd.R_drewN | apply Kd.R_drew)); exact Kd.R_mono HO223.out (fun _ hk => hk.2.2)⟩, ⟨by (with_reducible repeat (first | apply Kd.R_alloc | apply Kd.R_drewN | apply Kd.R_drew)); exact Kd.R_mono HO229.out (fun _ hk => hk.2.1)⟩, ⟨by (with_reducible repeat (first | apply Kd.R_alloc | apply Kd.R_drewN | apply Kd.R_drew)); exact Kd.R_mono HO236.out (fun _ hk => hk.2.1)⟩, ⟨by (with_reducible repeat (first | refine blk_drewN ?_ _ | refine blk_drew ?_ | refine blk_alloc ?_ _)); exact BK209.out⟩, ⟨by (with_reducible repeat (first | refine blk_drewN ?_ _ | refine blk_drew ?_ | refine blk_alloc ?_ _)); exact BK210.out⟩, ⟨by repeat (first | (with_reducible first | exact HB.out | apply below_alloc | apply pw_below_drewN | apply below_drew1 | refine below_set ?_ GE209.out | refine below_set ?_ GE210.out) | exact HB.out)⟩⟩
          · rw [if_neg c58] at H
            have c58b0 : ((Go.bits .and .i64 (ji14) 1) == 0) = false := beq_eq_false_iff_ne.mpr c58
            have c58b1 : ((Go.bits .and .i64 (ji14) 1) != 0) = true := bne_iff_ne.mpr c58
            have H' := Aside0.mk H
            clear H
            refine start_ (n := 16) (S := fun w' => True) (ds := []) #[false, false, false, false, false, false, false, false, false, false, false, false, false, false, false, false] (by kernel_rfl) rfl rfl trivial (fun hHeld => ?_); refine with_tabW debuggerlaw41_WatchpointWords.tab10 debuggerlaw41_WatchpointWords.bits10 (fun HT_ HW_ => ?_)
            generalize w56.drew = w128 at HO213 HO216 HO220 HO223 HO226 HO229 HO233 HO236 BK209 BK210 HB hHeld ⊢
            refine pure_ (i := 0) (N := some 64) (v := ?_) (a' := ?_) #[true, false, false, false, false, false, false, false, false, false, false, false, false, false, false, false] rfl rfl (any_of HT_.out (by kernel_rfl)) (fun _ _ _ h => h) (Or.inl ⟨by rfl, ?_⟩) ?_ ?_
            rotate_left
            · intro w'
              go_simp
              with_reducible rfl
            rotate_left
            · simp only [Act.put, List.setIfInBounds_toArray, List.set_cons_zero, List.set_cons_succ, i64_w, i32_w]
              rfl
            refine pure_ (i := 1) (N := some 65) (v := ?_) (a' := ?_) #[true, true, false, false, false, false, false, false, false, false, false, false, false, false, false, false] rfl rfl (any_of HT_.out (by kernel_rfl)) (fun _ _ _ h => h) (Or.inl ⟨by rfl, ?_⟩) ?_ ?_
            rotate_left
            · intro w'
              go_simp
              with_reducible rfl
            rotate_left
            · simp only [Act.put, List.setIfInBounds_toArray, List.set_cons_zero, List.set_cons_succ, i64_w, i32_w]
              rfl
            refine pure_ (i := 2) (N := some 66) (v := ?_) (a' := ?_) #[true, true, true, false, false, false, false, false, false, false, false, false, false, false, false, false] rfl rfl (any_of HT_.out (by kernel_rfl)) (fun _ _ _ h => h) (Or.inl ⟨by rfl, ?_⟩) ?_ ?_
            rotate_left
            · intro w'
              go_simp
              with_reducible rfl
            rotate_left
            · simp only [Act.put, List.setIfInBounds_toArray, List.set_cons_zero, List.set_cons_succ, i64_w, i32_w]
              rfl
            refine pure_ (i := 3) (N := some 67) (v := ?_) (a' := ?_) #[true, true, true, true, false, false, false, false, false, false, false, false, false, false, false, false] rfl rfl (any_of HT_.out (by kernel_rfl)) (fun _ _ _ h => h) (Or.inl ⟨by rfl, ?_⟩) ?_ ?_
            rotate_left
            · intro w'
              go_simp
              with_reducible rfl
            rotate_left
            · simp only [Act.put, List.setIfInBounds_toArray, List.set_cons_zero, List.set_cons_succ, i64_w, i32_w]
              rfl
            refine pure_ (i := 4) (N := some 68) (v := undef) (a' := ?_) #[true, true, true, true, true, false, false, false, false, false, false, false, false, false, false, false] rfl rfl (any_of HT_.out (by kernel_rfl)) (fun _ _ _ h => h) (Or.inr ⟨by rfl, rfl⟩) ?_ ?_
            rotate_left
            · simp only [Act.put, List.setIfInBounds_toArray, List.set_cons_zero, List.set_cons_succ, i64_w, i32_w]
              rfl
            refine pure_ (i := 5) (N := some 69) (v := undef) (a' := ?_) #[true, true, true, true, true, true, false, false, false, false, false, false, false, false, false, false] rfl rfl (any_of HT_.out (by kernel_rfl)) (fun _ _ _ h => h) (Or.inr ⟨by rfl, rfl⟩) ?_ ?_
            rotate_left
            · simp only [Act.put, List.setIfInBounds_toArray, List.set_cons_zero, List.set_cons_succ, i64_w, i32_w]
              rfl
            refine pure_ (i := 6) (N := some 70) (v := undef) (a' := ?_) #[true, true, true, true, true, true, true, false, false, false, false, false, false, false, false, false] rfl rfl (any_of HT_.out (by kernel_rfl)) (fun _ _ _ h => h) (Or.inr ⟨by rfl, rfl⟩) ?_ ?_
            rotate_left
            · simp only [Act.put, List.setIfInBounds_toArray, List.set_cons_zero, List.set_cons_succ, i64_w, i32_w]
              rfl
            refine pure_ (i := 7) (N := some 71) (v := undef) (a' := ?_) #[true, true, true, true, true, true, true, true, false, false, false, false, false, false, false, false] rfl rfl (any_of HT_.out (by kernel_rfl)) (fun _ _ _ h => h) (Or.inr ⟨by rfl, rfl⟩) ?_ ?_
            rotate_left
            · simp only [Act.put, List.setIfInBounds_toArray, List.set_cons_zero, List.set_cons_succ, i64_w, i32_w]
              rfl
            refine pure_ (i := 8) (N := some 72) (v := undef) (a' := ?_) #[true, true, true, true, true, true, true, true, true, false, false, false, false, false, false, false] rfl rfl (any_of HT_.out (by kernel_rfl)) (fun _ _ _ h => h) (Or.inr ⟨by rfl, rfl⟩) ?_ ?_
            rotate_left
            · simp only [Act.put, List.setIfInBounds_toArray, List.set_cons_zero, List.set_cons_succ, i64_w, i32_w]
              rfl
            refine pure_ (i := 9) (N := some 73) (v := undef) (a' := ?_) #[true, true, true, true, true, true, true, true, true, true, false, false, false, false, false, false] rfl rfl (any_of HT_.out (by kernel_rfl)) (fun _ _ _ h => h) (Or.inr ⟨by rfl, rfl⟩) ?_ ?_
            rotate_left
            · simp only [Act.put, List.setIfInBounds_toArray, List.set_cons_zero, List.set_cons_succ, i64_w, i32_w]
              rfl
            refine pure_ (i := 10) (N := some 74) (v := undef) (a' := ?_) #[true, true, true, true, true, true, true, true, true, true, true, false, false, false, false, false] rfl rfl (any_of HT_.out (by kernel_rfl)) (fun _ _ _ h => h) (Or.inr ⟨by rfl, rfl⟩) ?_ ?_
            rotate_left
            · simp only [Act.put, List.setIfInBounds_toArray, List.set_cons_zero, List.set_cons_succ, i64_w, i32_w]
              rfl
            refine pure_ (i := 11) (N := some 75) (v := undef) (a' := ?_) #[true, true, true, true, true, true, true, true, true, true, true, true, false, false, false, false] rfl rfl (any_of HT_.out (by kernel_rfl)) (fun _ _ _ h => h) (Or.inr ⟨by rfl, rfl⟩) ?_ ?_
            rotate_left
            · simp only [Act.put, List.setIfInBounds_toArray, List.set_cons_zero, List.set_cons_succ, i64_w, i32_w]
              rfl
            refine pure_ (i := 12) (N := some 76) (v := undef) (a' := ?_) #[true, true, true, true, true, true, true, true, true, true, true, true, true, false, false, false] rfl rfl (any_of HT_.out (by kernel_rfl)) (fun _ _ _ h => h) (Or.inr ⟨by rfl, rfl⟩) ?_ ?_
            rotate_left
            · simp only [Act.put, List.setIfInBounds_toArray, List.set_cons_zero, List.set_cons_succ, i64_w, i32_w]
              rfl
            refine pure_ (i := 13) (N := some 77) (v := ?_) (a' := ?_) #[true, true, true, true, true, true, true, true, true, true, true, true, true, true, false, false] rfl rfl (any_of HT_.out (by kernel_rfl)) (fun _ _ _ h => h) (Or.inl ⟨by rfl, ?_⟩) ?_ ?_
            rotate_left
            · intro w'
              go_simp
              with_reducible rfl
            rotate_left
            · simp only [Act.put, List.setIfInBounds_toArray, List.set_cons_zero, List.set_cons_succ, i64_w, i32_w]
              rfl
            refine pure_ (i := 14) (N := some 78) (v := ?_) (a' := ?_) #[true, true, true, true, true, true, true, true, true, true, true, true, true, true, true, false] rfl rfl (any_of HT_.out (by kernel_rfl)) (fun _ _ _ h => h) (Or.inl ⟨by rfl, ?_⟩) ?_ ?_
            rotate_left
            · intro w'
              go_simp
              with_reducible rfl
            rotate_left
            · simp only [Act.put, List.setIfInBounds_toArray, List.set_cons_zero, List.set_cons_succ, i64_w, i32_w]
              rfl
            refine pure_ (i := 15) (N := some 10) (v := ?_) (a' := ?_) #[true, true, true, true, true, true, true, true, true, true, true, true, true, true, true, true] rfl rfl (any_of HT_.out (by kernel_rfl)) (fun _ _ _ h => h) (Or.inl ⟨by rfl, ?_⟩) ?_ ?_
            rotate_left
            · intro w'
              go_simp
              with_reducible rfl
            rotate_left
            · simp only [Act.put, List.setIfInBounds_toArray, List.set_cons_zero, List.set_cons_succ, i64_w, i32_w]
              rfl
            refine done_ (done_of HT_.out (by kernel_rfl)) ?_
            try go_wp2
            go_roundg k1
            case measure => have := HK1.out; omega
            case rel => exact ⟨(false), (wrap64 (x11_1 + 1)), (y214), (y221), (y227), (y234), (.slice Ao35 y214.length co35), (.slice Ao37 y221.length co37), (.slice Ao52 y227.length co52), (.slice Ao54 y234.length co54), (by first | rfl | (simp; done) | (simp [*]; done)), (by first | rfl | (simp; done) | (simp [*]; done)), H', ⟨by have := HK1.out; omega⟩, ⟨by (with_reducible repeat (first | apply Kd.R_alloc | apply Kd.R_drewN | apply Kd.R_drew)); exact Kd.R_mono HO216.out (fun _ hk => hk.2.2)⟩, ⟨by (with_reducible repeat (first | apply Kd.R_alloc | apply Kd.R_drewN | apply Kd.R_drew)); exact Kd.R_mono HO223.out (fun _ hk => hk.2.2)⟩, ⟨by (with_reducible repeat (first | apply Kd.R_alloc | apply Kd.R_drewN | apply Kd.R_drew)); exact Kd.R_mono HO229.out (fun _ hk => hk.2.1)⟩, ⟨by (with_reducible repeat (first | apply Kd.R_alloc | apply Kd.R_drewN | apply Kd.R_drew)); exact Kd.R_mono HO236.out (fun _ hk => hk.2.1)⟩, ⟨by (with_reducible repeat (first | refine blk_drewN ?_ _ | refine blk_drew ?_ | refine blk_alloc ?_ _)); exact BK209.out⟩, ⟨by (with_reducible repeat (first | refine blk_drewN ?_ _ | refine blk_drew ?_ | refine blk_alloc ?_ _)); exact BK210.out⟩, ⟨by repeat (first | (with_reducible first | exact HB.out | apply below_alloc | apply pw_below_drewN | apply below_drew1 | refine below_set ?_ GE209.out | refine below_set ?_ GE210.out) | exact HB.out)⟩⟩
      · rw [if_neg c11] at H
        have c11b0 : decide (x11_1 < ji5) = false := decide_eq_false c11
        clear c11
        replace H := Option.bind_eq_some_iff.mp H
        obtain ⟨⟨t239, t240, t241, t244, t247⟩, A1290, H⟩ := H
        replace H : (if (t247 != x10_1) = true then (debuggerlaw41_WatchpointWords.j1 k1 l0 l1 a2 ji5 true t239 t240 t241 t244) else (if (t244.length : Int) = ji5 then (debuggerlaw41_WatchpointWords.j1 k1 l0 l1 a2 ji5 ((t241.length : Int) != ji5) t239 t240 t241 t244) else (debuggerlaw41_WatchpointWords.j1 k1 l0 l1 a2 ji5 true t239 t240 t241 t244))) = some r := H
        have A129 := Aside0.mk A1290
        clear A1290
        have HC130 := Aside0.mk H
        clear H
        have hnb131 := NB209_210.out
        have hnc131 := NB210_209.out
        have hcz132_0 : wr.cell? ⟨gb209, 0, none⟩ = some (.int .i64 3) := (blk_cell BK209.out 0).trans rfl
        have hcz132_1 : wr.cell? ⟨gb209, 1, none⟩ = some (.int .i64 0) := (blk_cell BK209.out 1).trans rfl
        have hcz132_2 : wr.cell? ⟨gb209, 2, none⟩ = some (u210002) := (blk_cell BK209.out 2).trans rfl
        have hcz132_3 : wr.cell? ⟨gb209, 3, none⟩ = some (u210003) := (blk_cell BK209.out 3).trans rfl
        have hfz132_0 := blk_frozen BK209.out 0
        have hfz132_1 := blk_frozen BK209.out 1
        have hfz132_2 := blk_frozen BK209.out 2
        have hfz132_3 := blk_frozen BK209.out 3
        have hcz133_0 : wr.cell? ⟨gb210, 0, none⟩ = some (.int .i64 3) := (blk_cell BK210.out 0).trans rfl
        have hcz133_1 : wr.cell? ⟨gb210, 1, none⟩ = some (.int .i64 0) := (blk_cell BK210.out 1).trans rfl
        have hcz133_2 : wr.cell? ⟨gb210, 2, none⟩ = some (u211002) := (blk_cell BK210.out 2).trans rfl
        have hcz133_3 : wr.cell? ⟨gb210, 3, none⟩ = some (u211003) := (blk_cell BK210.out 3).trans rfl
        have hfz133_0 := blk_frozen BK210.out 0
        have hfz133_1 := blk_frozen BK210.out 1
        have hfz133_2 := blk_frozen BK210.out 2
        have hfz133_3 := blk_frozen BK210.out 3
        obtain ⟨Ao134, co134, eo134⟩ := Kd.R_slice HO_210002.out
        subst eo134
        obtain ⟨Ao135, co135, eo135⟩ := Kd.R_slice HO_210003.out
        subst eo135
        obtain ⟨Ao136, co136, eo136⟩ := Kd.R_slice HO_211002.out
        subst eo136
        obtain ⟨Ao137, co137, eo137⟩ := Kd.R_slice HO_211003.out
        subst eo137
        go_upto_region 12 with (first | ((with_reducible refine gate_callee (f := 7) rfl ?_); refine goesL_ (some 82) rfl rfl Try.func7 (by kernel_rfl) rfl #[.agg #[.int .i64 3, .int .i64 0, .slice Ao134 x210002_1.length co134, .slice Ao135 x210003_1.length co135], .agg #[.int .i64 3, .int .i64 0, .slice Ao136 x211002_1.length co136, .slice Ao137 x211003_1.length co137]] rfl (by (try simp only [List.map_toArray, List.map_cons, List.map_nil]); first | done | rfl | (simp only [List.length_drop, List.length_take]; rfl)) ?_; (with_reducible refine (watchpoint_Check.calls k1 3 0 _ _ x210002_1 _ _ x210003_1 3 0 _ _ x211002_1 _ _ x211003_1 t239 t240 t241 t244 t247 _ ?side1 ?side2 ?side3 ?side4 ?side5 ?side6 ?side7 ?side8 A129.out).mono ?_); (case side1 => repeat (first | exact (Kd.R_reads' HO_210002.out).2.2 | (with_reducible refine Kd.C_alloc ?_ _) | (with_reducible refine Kd.C_drewN ?_ _) | (with_reducible refine Kd.C_drew ?_))); (case side2 => exact (Kd.R_reads' HO_210002.out).2.1); (case side3 => repeat (first | exact (Kd.R_reads' HO_210003.out).2.2 | (with_reducible refine Kd.C_alloc ?_ _) | (with_reducible refine Kd.C_drewN ?_ _) | (with_reducible refine Kd.C_drew ?_))); (case side4 => exact (Kd.R_reads' HO_210003.out).2.1); (case side5 => repeat (first | exact (Kd.R_reads' HO_211002.out).2.2 | (with_reducible refine Kd.C_alloc ?_ _) | (with_reducible refine Kd.C_drewN ?_ _) | (with_reducible refine Kd.C_drew ?_))); (case side6 => exact (Kd.R_reads' HO_211002.out).2.1); (case side7 => repeat (first | exact (Kd.R_reads' HO_211003.out).2.2 | (with_reducible refine Kd.C_alloc ?_ _) | (with_reducible refine Kd.C_drewN ?_ _) | (with_reducible refine Kd.C_drew ?_))); (case side8 => exact (Kd.R_reads' HO_211003.out).2.1); rintro e w138 ⟨v242, v245, rfl, ho0, ho1, hb⟩; refine ⟨_, rfl, ?_⟩; have n0_ := Aside0.mk (Kd.R_elder' (by (with_reducible repeat (first | apply Kd.R_alloc | apply Kd.R_drewN | apply Kd.R_drew)); exact HO_210002.out) (Kd.R_base ho0) hb); have n1_ := Aside0.mk (Kd.R_elder' (by (with_reducible repeat (first | apply Kd.R_alloc | apply Kd.R_drewN | apply Kd.R_drew)); exact HO_210003.out) (Kd.R_base ho1) hb); have n2_ := Aside0.mk (Kd.R_elder' (by (with_reducible repeat (first | apply Kd.R_alloc | apply Kd.R_drewN | apply Kd.R_drew)); exact HO_211002.out) (Kd.R_base ho0) hb); have n3_ := Aside0.mk (Kd.R_elder' (by (with_reducible repeat (first | apply Kd.R_alloc | apply Kd.R_drewN | apply Kd.R_drew)); exact HO_211003.out) (Kd.R_base ho1) hb); have n4_ := Aside0.mk (Kd.R_lower (Kd.R_new' (Kd.R_new' ho0 (Kd.R_lt (by (with_reducible repeat (first | apply Kd.R_alloc | apply Kd.R_drewN | apply Kd.R_drew)); exact HO_210002.out))) (Kd.R_lt (by (with_reducible repeat (first | apply Kd.R_alloc | apply Kd.R_drewN | apply Kd.R_drew)); exact HO_211002.out))) (below_size (by repeat (first | (with_reducible first | exact HB.out | apply below_alloc | apply pw_below_drewN | apply below_drew1 | refine below_set ?_ GE209.out | refine below_set ?_ GE210.out) | exact HB.out)))); have n5_ := Aside0.mk (Kd.R_lower (Kd.R_new' (Kd.R_new' ho1 (Kd.R_lt (by (with_reducible repeat (first | apply Kd.R_alloc | apply Kd.R_drewN | apply Kd.R_drew)); exact HO_210003.out))) (Kd.R_lt (by (with_reducible repeat (first | apply Kd.R_alloc | apply Kd.R_drewN | apply Kd.R_drew)); exact HO_211003.out))) (below_size (by repeat (first | (with_reducible first | exact HB.out | apply below_alloc | apply pw_below_drewN | apply below_drew1 | refine below_set ?_ GE209.out | refine below_set ?_ GE210.out) | exact HB.out)))); have n6_ := Aside0.mk (blk_below (g := gb209) (o := .cells #[.int .i64 3, .int .i64 0, .slice Ao134 x210002_1.length co134, .slice Ao135 x210003_1.length co135] 25 (0, 0)) (by (with_reducible repeat (first | refine blk_drewN ?_ _ | refine blk_drew ?_ | refine blk_alloc ?_ _)); exact BK209.out) hb); have n7_ := Aside0.mk (blk_below (g := gb210) (o := .cells #[.int .i64 3, .int .i64 0, .slice Ao136 x211002_1.length co136, .slice Ao137 x211003_1.length co137] 25 (0, 0)) (by (with_reducible repeat (first | refine blk_drewN ?_ _ | refine blk_drew ?_ | refine blk_alloc ?_ _)); exact BK210.out) hb); have n8_ := Aside0.mk (below_step (by repeat (first | (with_reducible first | exact HB.out | apply below_alloc | apply pw_below_drewN | apply below_drew1 | refine below_set ?_ GE209.out | refine below_set ?_ GE210.out) | exact HB.out)) hb); clear HO_210002; clear HO_210003; clear HO_211002; clear HO_211003; clear BK209; clear BK210; clear HB; have HO_210002 := n0_; have HO_210003 := n1_; have HO_211002 := n2_; have HO_211003 := n3_; have HO243 := n4_; have HO246 := n5_; have BK209 := n6_; have BK210 := n7_; have HB := n8_; clear n0_ n1_ n2_ n3_ n4_ n5_ n6_ n7_ n8_; (try clear hb); (try clear hb2); (try clear hk); (try clear hi); (try clear ho0); (try clear ho1)) | ((with_reducible refine gate_dst (N := 13) rfl ?_); (try (refine gate_guard (by rfl) ?_; dsimp only)); refine box_event ?hg (N := 13) ?hd (cs := #[.int .i64 0, .int .i64 0, .slice none 0 0, .slice none 0 0]) (t := 25) ?hr ?_; (case hd => rfl); (case hg => rfl); (case hr => first | (go_simp; done) | (go_simp; rfl)); intro gb248 hg w139 hbox hb; have n0_ := Aside0.mk (Kd.R_below (by (with_reducible repeat (first | apply Kd.R_alloc | apply Kd.R_drewN | apply Kd.R_drew)); exact HO_210002.out) hb); have n1_ := Aside0.mk (Kd.R_below (by (with_reducible repeat (first | apply Kd.R_alloc | apply Kd.R_drewN | apply Kd.R_drew)); exact HO_210003.out) hb); have n2_ := Aside0.mk (Kd.R_below (by (with_reducible repeat (first | apply Kd.R_alloc | apply Kd.R_drewN | apply Kd.R_drew)); exact HO_211002.out) hb); have n3_ := Aside0.mk (Kd.R_below (by (with_reducible repeat (first | apply Kd.R_alloc | apply Kd.R_drewN | apply Kd.R_drew)); exact HO_211003.out) hb); have n4_ := Aside0.mk (Kd.R_below (by (with_reducible repeat (first | apply Kd.R_alloc | apply Kd.R_drewN | apply Kd.R_drew)); exact HO243.out) hb); have n5_ := Aside0.mk (Kd.R_below (by (with_reducible repeat (first | apply Kd.R_alloc | apply Kd.R_drewN | apply Kd.R_drew)); exact HO246.out) hb); have n6_ := Aside0.mk (blk_below (g := gb209) (o := .cells #[.int .i64 3, .int .i64 0, .slice Ao134 x210002_1.length co134, .slice Ao135 x210003_1.length co135] 25 (0, 0)) (by (with_reducible repeat (first | refine blk_drewN ?_ _ | refine blk_drew ?_ | refine blk_alloc ?_ _)); exact BK209.out) hb); have n7_ := Aside0.mk (blk_below (g := gb210) (o := .cells #[.int .i64 3, .int .i64 0, .slice Ao136 x211002_1.length co136, .slice Ao137 x211003_1.length co137] 25 (0, 0)) (by (with_reducible repeat (first | refine blk_drewN ?_ _ | refine blk_drew ?_ | refine blk_alloc ?_ _)); exact BK210.out) hb); have n8_ := Aside0.mk (below_step (by repeat (first | (with_reducible first | exact HB.out | apply below_alloc | apply pw_below_drewN | apply below_drew1 | refine below_set ?_ GE209.out | refine below_set ?_ GE210.out) | exact HB.out)) hb); have n9_ := Aside0.mk (hbox); have n10_ := Aside0.mk ((by rw [hg]; exact (below_size (by repeat (first | (with_reducible first | exact HB.out | apply below_alloc | apply pw_below_drewN | apply below_drew1 | refine below_set ?_ GE209.out | refine below_set ?_ GE210.out) | exact HB.out))) : w.heap.size ≤ gb248)); have n11_ := Aside0.mk ((by rw [hg]; exact (below_size (by repeat (first | (with_reducible first | exact HB.out | apply below_alloc | apply pw_below_drewN | apply below_drew1 | refine below_set ?_ GE209.out | refine below_set ?_ GE210.out) | exact HB.out))) : w.heap.size ≤ gb248)); have n12_ := Aside0.mk ((by rw [hg]; exact Nat.ne_of_lt (blk_lt (g := gb209) (o := .cells #[.int .i64 3, .int .i64 0, .slice Ao134 x210002_1.length co134, .slice Ao135 x210003_1.length co135] 25 (0, 0)) (by (with_reducible repeat (first | refine blk_drewN ?_ _ | refine blk_drew ?_ | refine blk_alloc ?_ _)); exact BK209.out)) : gb209 ≠ gb248)); have n13_ := Aside0.mk ((by rw [hg]; exact Nat.ne_of_gt (blk_lt (g := gb209) (o := .cells #[.int .i64 3, .int .i64 0, .slice Ao134 x210002_1.length co134, .slice Ao135 x210003_1.length co135] 25 (0, 0)) (by (with_reducible repeat (first | refine blk_drewN ?_ _ | refine blk_drew ?_ | refine blk_alloc ?_ _)); exact BK209.out)) : gb248 ≠ gb209)); have n14_ := Aside0.mk ((by rw [hg]; exact Nat.ne_of_lt (blk_lt (g := gb210) (o := .cells #[.int .i64 3, .int .i64 0, .slice Ao136 x211002_1.length co136, .slice Ao137 x211003_1.length co137] 25 (0, 0)) (by (with_reducible repeat (first | refine blk_drewN ?_ _ | refine blk_drew ?_ | refine blk_alloc ?_ _)); exact BK210.out)) : gb210 ≠ gb248)); have n15_ := Aside0.mk ((by rw [hg]; exact Nat.ne_of_gt (blk_lt (g := gb210) (o := .cells #[.int .i64 3, .int .i64 0, .slice Ao136 x211002_1.length co136, .slice Ao137 x211003_1.length co137] 25 (0, 0)) (by (with_reducible repeat (first | refine blk_drewN ?_ _ | refine blk_drew ?_ | refine blk_alloc ?_ _)); exact BK210.out)) : gb248 ≠ gb210)); clear HO_210002; clear HO_210003; clear HO_211002; clear HO_211003; clear HO243; clear HO246; clear BK209; clear BK210; clear HB; have HO_210002 := n0_; have HO_210003 := n1_; have HO_211002 := n2_; have HO_211003 := n3_; have HO243 := n4_; have HO246 := n5_; have BK209 := n6_; have BK210 := n7_; have HB := n8_; have BK248 := n9_; have GW248 := n10_; have GE248 := n11_; have NB209_248 := n12_; have NB248_209 := n13_; have NB210_248 := n14_; have NB248_210 := n15_; clear n0_ n1_ n2_ n3_ n4_ n5_ n6_ n7_ n8_ n9_ n10_ n11_ n12_ n13_ n14_ n15_; clear hb hbox hg; have hnb140 := NB248_209.out; have hnc140 := NB209_248.out; have hnb141 := NB248_210.out; have hnc141 := NB210_248.out; have hcz142_0 : w139.cell? ⟨gb248, 0, none⟩ = some (.int .i64 0) := (blk_cell BK248.out 0).trans rfl; have hcz142_1 : w139.cell? ⟨gb248, 1, none⟩ = some (.int .i64 0) := (blk_cell BK248.out 1).trans rfl; have hcz142_2 : w139.cell? ⟨gb248, 2, none⟩ = some (.slice none 0 0) := (blk_cell BK248.out 2).trans rfl; have hcz142_3 : w139.cell? ⟨gb248, 3, none⟩ = some (.slice none 0 0) := (blk_cell BK248.out 3).trans rfl; have hfz142_0 := blk_frozen BK248.out 0; have hfz142_1 := blk_frozen BK248.out 1; have hfz142_2 := blk_frozen BK248.out 2; have hfz142_3 := blk_frozen BK248.out 3; obtain ⟨Ao143, co143, eo143⟩ := Kd.R_slice HO243.out; subst eo143; obtain ⟨Ao144, co144, eo144⟩ := Kd.R_slice HO246.out; subst eo144))
        (try simp only [Act.put, List.setIfInBounds_toArray, List.set_cons_zero, List.set_cons_succ])
        go_cut [101] (fun v101 wc => ∃ (kq : Nat) (x101_129 : Bool), v101 = .bool x101_129 ∧ Aside0 (debuggerlaw41_WatchpointWords.j1 kq l0 l1 a2 ji5 x101_129 t239 t240 t241 t244 = some r) ∧ Aside0 (kq ≤ k1) ∧ Aside0 (Kd.R Kd.bool 4 wc w.heap.size (fun k_ => some k_ ≠ ((.slice Ao136 x211002_1.length co136) : Value).ownBlock ∧ some k_ ≠ ((.slice Ao143 t241.length co143) : Value).ownBlock) (.slice Ao134 x210002_1.length co134) x210002_1) ∧ Aside0 (Kd.R (Kd.int .i64) 3 wc w.heap.size (fun k_ => some k_ ≠ ((.slice Ao137 x211003_1.length co137) : Value).ownBlock ∧ some k_ ≠ ((.slice Ao144 t244.length co144) : Value).ownBlock) (.slice Ao135 x210003_1.length co135) x210003_1) ∧ Aside0 (Kd.R Kd.bool 4 wc w.heap.size (fun k_ => some k_ ≠ ((.slice Ao134 x210002_1.length co134) : Value).ownBlock ∧ some k_ ≠ ((.slice Ao143 t241.length co143) : Value).ownBlock) (.slice Ao136 x211002_1.length co136) x211002_1) ∧ Aside0 (Kd.R (Kd.int .i64) 3 wc w.heap.size (fun k_ => some k_ ≠ ((.slice Ao135 x210003_1.length co135) : Value).ownBlock ∧ some k_ ≠ ((.slice Ao144 t244.length co144) : Value).ownBlock) (.slice Ao137 x211003_1.length co137) x211003_1) ∧ Aside0 (Kd.R Kd.bool 4 wc w.heap.size (fun k_ => some k_ ≠ ((.slice Ao134 x210002_1.length co134) : Value).ownBlock ∧ some k_ ≠ ((.slice Ao136 x211002_1.length co136) : Value).ownBlock) (.slice Ao143 t241.length co143) t241) ∧ Aside0 (Kd.R (Kd.int .i64) 3 wc w.heap.size (fun k_ => some k_ ≠ ((.slice Ao135 x210003_1.length co135) : Value).ownBlock ∧ some k_ ≠ ((.slice Ao137 x211003_1.length co137) : Value).ownBlock) (.slice Ao144 t244.length co144) t244) ∧ Aside0 (wc.heap[gb209]? = some (.cells #[.int .i64 3, .int .i64 0, (.slice Ao134 x210002_1.length co134), (.slice Ao135 x210003_1.length co135)] 25 (0, 0))) ∧ Aside0 (wc.heap[gb210]? = some (.cells #[.int .i64 3, .int .i64 0, (.slice Ao136 x211002_1.length co136), (.slice Ao137 x211003_1.length co137)] 25 (0, 0))) ∧ Aside0 (wc.heap[gb248]? = some (.cells #[.int .i64 t239, .int .i64 t240, (.slice Ao143 t241.length co143), (.slice Ao144 t244.length co144)] 25 (0, 0))) ∧ Aside0 (Below w.heap.size w wc))
        case first =>
          have H := HC130.out
          clear HC130
          by_cases c145 : (t247 != x10_1) = true
          · rw [if_pos c145] at H
            have c145b0 : (t247 != x10_1) = true := c145
            (try (have c145b1 : decide (t247 = x10_1) = false := by simpa using c145))
            (try (have c145b2 : (t247 == x10_1) = false := by simpa using c145))
            (try (have c145b3 : ¬ (t247 = x10_1) := by simpa using c145))
            clear c145
            (first | rw [c145b0] | (simp only [i64_w, i32_w]; rw [c145b0]) | skip)
            have H' := Aside0.mk H
            clear H
            go_wp2
            go_meet
            case rel => exact ⟨_, (true), (by first | rfl | (simp; done) | (simp [*]; done)), H', ⟨by have := HK1.out; first | omega | exact Nat.le_refl _⟩, ⟨by (with_reducible repeat (first | apply Kd.R_alloc | apply Kd.R_drewN | apply Kd.R_drew)); exact Kd.R_mono (Kd.R_far (p := ⟨gb248, 3, none⟩) (Kd.R_far (p := ⟨gb248, 2, none⟩) (Kd.R_far (p := ⟨gb248, 1, none⟩) (Kd.R_far (p := ⟨gb248, 0, none⟩) (Kd.R_types HO_210002.out BK248.out (by decide)) (fun _ hk => hk.2) (.int .i64 t239)) (fun _ hk => hk.2) (.int .i64 t240)) (fun _ hk => hk.2) (.slice Ao143 t241.length co143)) (fun _ hk => hk.2) (.slice Ao144 t244.length co144)) (fun _ hk => ⟨hk.1.1, hk.1.2⟩)⟩, ⟨by (with_reducible repeat (first | apply Kd.R_alloc | apply Kd.R_drewN | apply Kd.R_drew)); exact Kd.R_mono (Kd.R_far (p := ⟨gb248, 3, none⟩) (Kd.R_far (p := ⟨gb248, 2, none⟩) (Kd.R_far (p := ⟨gb248, 1, none⟩) (Kd.R_far (p := ⟨gb248, 0, none⟩) (Kd.R_types HO_210003.out BK248.out (by decide)) (fun _ hk => hk.2) (.int .i64 t239)) (fun _ hk => hk.2) (.int .i64 t240)) (fun _ hk => hk.2) (.slice Ao143 t241.length co143)) (fun _ hk => hk.2) (.slice Ao144 t244.length co144)) (fun _ hk => ⟨hk.1.1, hk.1.2⟩)⟩, ⟨by (with_reducible repeat (first | apply Kd.R_alloc | apply Kd.R_drewN | apply Kd.R_drew)); exact Kd.R_mono (Kd.R_far (p := ⟨gb248, 3, none⟩) (Kd.R_far (p := ⟨gb248, 2, none⟩) (Kd.R_far (p := ⟨gb248, 1, none⟩) (Kd.R_far (p := ⟨gb248, 0, none⟩) (Kd.R_types HO_211002.out BK248.out (by decide)) (fun _ hk => hk.2) (.int .i64 t239)) (fun _ hk => hk.2) (.int .i64 t240)) (fun _ hk => hk.2) (.slice Ao143 t241.length co143)) (fun _ hk => hk.2) (.slice Ao144 t244.length co144)) (fun _ hk => ⟨hk.1.1, hk.1.2⟩)⟩, ⟨by (with_reducible repeat (first | apply Kd.R_alloc | apply Kd.R_drewN | apply Kd.R_drew)); exact Kd.R_mono (Kd.R_far (p := ⟨gb248, 3, none⟩) (Kd.R_far (p := ⟨gb248, 2, none⟩) (Kd.R_far (p := ⟨gb248, 1, none⟩) (Kd.R_far (p := ⟨gb248, 0, none⟩) (Kd.R_types HO_211003.out BK248.out (by decide)) (fun _ hk => hk.2) (.int .i64 t239)) (fun _ hk => hk.2) (.int .i64 t240)) (fun _ hk => hk.2) (.slice Ao143 t241.length co143)) (fun _ hk => hk.2) (.slice Ao144 t244.length co144)) (fun _ hk => ⟨hk.1.1, hk.1.2⟩)⟩, ⟨by (with_reducible repeat (first | apply Kd.R_alloc | apply Kd.R_drewN | apply Kd.R_drew)); exact Kd.R_mono (Kd.R_far (p := ⟨gb248, 3, none⟩) (Kd.R_far (p := ⟨gb248, 2, none⟩) (Kd.R_far (p := ⟨gb248, 1, none⟩) (Kd.R_far (p := ⟨gb248, 0, none⟩) (Kd.R_types HO243.out BK248.out (by decide)) (fun _ hk => hk.2) (.int .i64 t239)) (fun _ hk => hk.2) (.int .i64 t240)) (fun _ hk => hk.2) (.slice Ao143 t241.length co143)) (fun _ hk => hk.2) (.slice Ao144 t244.length co144)) (fun _ hk => ⟨hk.1.1.2, hk.1.2⟩)⟩, ⟨by (with_reducible repeat (first | apply Kd.R_alloc | apply Kd.R_drewN | apply Kd.R_drew)); exact Kd.R_mono (Kd.R_far (p := ⟨gb248, 3, none⟩) (Kd.R_far (p := ⟨gb248, 2, none⟩) (Kd.R_far (p := ⟨gb248, 1, none⟩) (Kd.R_far (p := ⟨gb248, 0, none⟩) (Kd.R_types HO246.out BK248.out (by decide)) (fun _ hk => hk.2) (.int .i64 t239)) (fun _ hk => hk.2) (.int .i64 t240)) (fun _ hk => hk.2) (.slice Ao143 t241.length co143)) (fun _ hk => hk.2) (.slice Ao144 t244.length co144)) (fun _ hk => ⟨hk.1.1.2, hk.1.2⟩)⟩, ⟨by (with_reducible repeat (first | refine blk_drewN ?_ _ | refine blk_drew ?_ | refine blk_alloc ?_ _)); refine blk_far ?_ NB209_248.out _; (with_reducible repeat (first | refine blk_drewN ?_ _ | refine blk_drew ?_ | refine blk_alloc ?_ _)); refine blk_far ?_ NB209_248.out _; (with_reducible repeat (first | refine blk_drewN ?_ _ | refine blk_drew ?_ | refine blk_alloc ?_ _)); refine blk_far ?_ NB209_248.out _; (with_reducible repeat (first | refine blk_drewN ?_ _ | refine blk_drew ?_ | refine blk_alloc ?_ _)); refine blk_far ?_ NB209_248.out _; (with_reducible repeat (first | refine blk_drewN ?_ _ | refine blk_drew ?_ | refine blk_alloc ?_ _)); exact BK209.out⟩, ⟨by (with_reducible repeat (first | refine blk_drewN ?_ _ | refine blk_drew ?_ | refine blk_alloc ?_ _)); refine blk_far ?_ NB210_248.out _; (with_reducible repeat (first | refine blk_drewN ?_ _ | refine blk_drew ?_ | refine blk_alloc ?_ _)); refine blk_far ?_ NB210_248.out _; (with_reducible repeat (first | refine blk_drewN ?_ _ | refine blk_drew ?_ | refine blk_alloc ?_ _)); refine blk_far ?_ NB210_248.out _; (with_reducible repeat (first | refine blk_drewN ?_ _ | refine blk_drew ?_ | refine blk_alloc ?_ _)); refine blk_far ?_ NB210_248.out _; (with_reducible repeat (first | refine blk_drewN ?_ _ | refine blk_drew ?_ | refine blk_alloc ?_ _)); exact BK210.out⟩, ⟨by (with_reducible repeat (first | refine blk_drewN ?_ _ | refine blk_drew ?_ | refine blk_alloc ?_ _)); refine blk_put (cs := #[.int .i64 t239, .int .i64 t240, .slice Ao143 t241.length co143, .slice none 0 0]) ?_ 3 _ rfl; (with_reducible repeat (first | refine blk_drewN ?_ _ | refine blk_drew ?_ | refine blk_alloc ?_ _)); refine blk_put (cs := #[.int .i64 t239, .int .i64 t240, .slice none 0 0, .slice none 0 0]) ?_ 2 _ rfl; (with_reducible repeat (first | refine blk_drewN ?_ _ | refine blk_drew ?_ | refine blk_alloc ?_ _)); refine blk_put (cs := #[.int .i64 t239, .int .i64 0, .slice none 0 0, .slice none 0 0]) ?_ 1 _ rfl; (with_reducible repeat (first | refine blk_drewN ?_ _ | refine blk_drew ?_ | refine blk_alloc ?_ _)); refine blk_put (cs := #[.int .i64 0, .int .i64 0, .slice none 0 0, .slice none 0 0]) ?_ 0 _ rfl; (with_reducible repeat (first | refine blk_drewN ?_ _ | refine blk_drew ?_ | refine blk_alloc ?_ _)); exact BK248.out⟩, ⟨by repeat (first | (with_reducible first | exact HB.out | apply below_alloc | apply pw_below_drewN | apply below_drew1 | refine below_set ?_ GE209.out | refine below_set ?_ GE210.out | refine below_set ?_ GE248.out) | exact HB.out)⟩⟩
          · rw [if_neg c145] at H
            have c145b0 : (t247 != x10_1) = false := by simpa using c145
            (try (have c145b1 : decide (t247 = x10_1) = true := by simpa using c145))
            (try (have c145b2 : (t247 == x10_1) = true := by simpa using c145))
            clear c145
            (first | rw [c145b0] | (simp only [i64_w, i32_w]; rw [c145b0]) | skip)
            by_cases c146 : (t244.length : Int) = ji5
            · rw [if_pos c146] at H
              have c146b0 : ((t244.length : Int) == ji5) = true := beq_iff_eq.mpr c146
              have c146b1 : ((t244.length : Int) != ji5) = false := bne_eq_false_iff_eq.mpr c146
              clear c146
              have H' := Aside0.mk H
              clear H
              have hnb147 := NB248_209.out
              have hnc147 := NB209_248.out
              have hnb148 := NB248_210.out
              have hnc148 := NB210_248.out
              have hcz149_0 : w139.cell? ⟨gb248, 0, none⟩ = some (.int .i64 0) := (blk_cell BK248.out 0).trans rfl
              have hcz149_1 : w139.cell? ⟨gb248, 1, none⟩ = some (.int .i64 0) := (blk_cell BK248.out 1).trans rfl
              have hcz149_2 : w139.cell? ⟨gb248, 2, none⟩ = some (.slice none 0 0) := (blk_cell BK248.out 2).trans rfl
              have hcz149_3 : w139.cell? ⟨gb248, 3, none⟩ = some (.slice none 0 0) := (blk_cell BK248.out 3).trans rfl
              have hfz149_0 := blk_frozen BK248.out 0
              have hfz149_1 := blk_frozen BK248.out 1
              have hfz149_2 := blk_frozen BK248.out 2
              have hfz149_3 := blk_frozen BK248.out 3
              go_wp2
              go_meet
              case rel => exact ⟨_, (((t241.length : Int) != ji5)), (by first | rfl | (simp; done) | (simp only [← hji5] <;> (first | rfl | simp)) | (simp [*]; done)), H', ⟨by have := HK1.out; first | omega | exact Nat.le_refl _⟩, ⟨by (with_reducible repeat (first | apply Kd.R_alloc | apply Kd.R_drewN | apply Kd.R_drew)); exact Kd.R_mono (Kd.R_far (p := ⟨gb248, 3, none⟩) (Kd.R_far (p := ⟨gb248, 2, none⟩) (Kd.R_far (p := ⟨gb248, 1, none⟩) (Kd.R_far (p := ⟨gb248, 0, none⟩) (Kd.R_types HO_210002.out BK248.out (by decide)) (fun _ hk => hk.2) (.int .i64 t239)) (fun _ hk => hk.2) (.int .i64 t240)) (fun _ hk => hk.2) (.slice Ao143 t241.length co143)) (fun _ hk => hk.2) (.slice Ao144 t244.length co144)) (fun _ hk => ⟨hk.1.1, hk.1.2⟩)⟩, ⟨by (with_reducible repeat (first | apply Kd.R_alloc | apply Kd.R_drewN | apply Kd.R_drew)); exact Kd.R_mono (Kd.R_far (p := ⟨gb248, 3, none⟩) (Kd.R_far (p := ⟨gb248, 2, none⟩) (Kd.R_far (p := ⟨gb248, 1, none⟩) (Kd.R_far (p := ⟨gb248, 0, none⟩) (Kd.R_types HO_210003.out BK248.out (by decide)) (fun _ hk => hk.2) (.int .i64 t239)) (fun _ hk => hk.2) (.int .i64 t240)) (fun _ hk => hk.2) (.slice Ao143 t241.length co143)) (fun _ hk => hk.2) (.slice Ao144 t244.length co144)) (fun _ hk => ⟨hk.1.1, hk.1.2⟩)⟩, ⟨by (with_reducible repeat (first | apply Kd.R_alloc | apply Kd.R_drewN | apply Kd.R_drew)); exact Kd.R_mono (Kd.R_far (p := ⟨gb248, 3, none⟩) (Kd.R_far (p := ⟨gb248, 2, none⟩) (Kd.R_far (p := ⟨gb248, 1, none⟩) (Kd.R_far (p := ⟨gb248, 0, none⟩) (Kd.R_types HO_211002.out BK248.out (by decide)) (fun _ hk => hk.2) (.int .i64 t239)) (fun _ hk => hk.2) (.int .i64 t240)) (fun _ hk => hk.2) (.slice Ao143 t241.length co143)) (fun _ hk => hk.2) (.slice Ao144 t244.length co144)) (fun _ hk => ⟨hk.1.1, hk.1.2⟩)⟩, ⟨by (with_reducible repeat (first | apply Kd.R_alloc | apply Kd.R_drewN | apply Kd.R_drew)); exact Kd.R_mono (Kd.R_far (p := ⟨gb248, 3, none⟩) (Kd.R_far (p := ⟨gb248, 2, none⟩) (Kd.R_far (p := ⟨gb248, 1, none⟩) (Kd.R_far (p := ⟨gb248, 0, none⟩) (Kd.R_types HO_211003.out BK248.out (by decide)) (fun _ hk => hk.2) (.int .i64 t239)) (fun _ hk => hk.2) (.int .i64 t240)) (fun _ hk => hk.2) (.slice Ao143 t241.length co143)) (fun _ hk => hk.2) (.slice Ao144 t244.length co144)) (fun _ hk => ⟨hk.1.1, hk.1.2⟩)⟩, ⟨by (with_reducible repeat (first | apply Kd.R_alloc | apply Kd.R_drewN | apply Kd.R_drew)); exact Kd.R_mono (Kd.R_far (p := ⟨gb248, 3, none⟩) (Kd.R_far (p := ⟨gb248, 2, none⟩) (Kd.R_far (p := ⟨gb248, 1, none⟩) (Kd.R_far (p := ⟨gb248, 0, none⟩) (Kd.R_types HO243.out BK248.out (by decide)) (fun _ hk => hk.2) (.int .i64 t239)) (fun _ hk => hk.2) (.int .i64 t240)) (fun _ hk => hk.2) (.slice Ao143 t241.length co143)) (fun _ hk => hk.2) (.slice Ao144 t244.length co144)) (fun _ hk => ⟨hk.1.1.2, hk.1.2⟩)⟩, ⟨by (with_reducible repeat (first | apply Kd.R_alloc | apply Kd.R_drewN | apply Kd.R_drew)); exact Kd.R_mono (Kd.R_far (p := ⟨gb248, 3, none⟩) (Kd.R_far (p := ⟨gb248, 2, none⟩) (Kd.R_far (p := ⟨gb248, 1, none⟩) (Kd.R_far (p := ⟨gb248, 0, none⟩) (Kd.R_types HO246.out BK248.out (by decide)) (fun _ hk => hk.2) (.int .i64 t239)) (fun _ hk => hk.2) (.int .i64 t240)) (fun _ hk => hk.2) (.slice Ao143 t241.length co143)) (fun _ hk => hk.2) (.slice Ao144 t244.length co144)) (fun _ hk => ⟨hk.1.1.2, hk.1.2⟩)⟩, ⟨by (with_reducible repeat (first | refine blk_drewN ?_ _ | refine blk_drew ?_ | refine blk_alloc ?_ _)); refine blk_far ?_ NB209_248.out _; (with_reducible repeat (first | refine blk_drewN ?_ _ | refine blk_drew ?_ | refine blk_alloc ?_ _)); refine blk_far ?_ NB209_248.out _; (with_reducible repeat (first | refine blk_drewN ?_ _ | refine blk_drew ?_ | refine blk_alloc ?_ _)); refine blk_far ?_ NB209_248.out _; (with_reducible repeat (first | refine blk_drewN ?_ _ | refine blk_drew ?_ | refine blk_alloc ?_ _)); refine blk_far ?_ NB209_248.out _; (with_reducible repeat (first | refine blk_drewN ?_ _ | refine blk_drew ?_ | refine blk_alloc ?_ _)); exact BK209.out⟩, ⟨by (with_reducible repeat (first | refine blk_drewN ?_ _ | refine blk_drew ?_ | refine blk_alloc ?_ _)); refine blk_far ?_ NB210_248.out _; (with_reducible repeat (first | refine blk_drewN ?_ _ | refine blk_drew ?_ | refine blk_alloc ?_ _)); refine blk_far ?_ NB210_248.out _; (with_reducible repeat (first | refine blk_drewN ?_ _ | refine blk_drew ?_ | refine blk_alloc ?_ _)); refine blk_far ?_ NB210_248.out _; (with_reducible repeat (first | refine blk_drewN ?_ _ | refine blk_drew ?_ | refine blk_alloc ?_ _)); refine blk_far ?_ NB210_248.out _; (with_reducible repeat (first | refine blk_drewN ?_ _ | refine blk_drew ?_ | refine blk_alloc ?_ _)); exact BK210.out⟩, ⟨by (with_reducible repeat (first | refine blk_drewN ?_ _ | refine blk_drew ?_ | refine blk_alloc ?_ _)); refine blk_put (cs := #[.int .i64 t239, .int .i64 t240, .slice Ao143 t241.length co143, .slice none 0 0]) ?_ 3 _ rfl; (with_reducible repeat (first | refine blk_drewN ?_ _ | refine blk_drew ?_ | refine blk_alloc ?_ _)); refine blk_put (cs := #[.int .i64 t239, .int .i64 t240, .slice none 0 0, .slice none 0 0]) ?_ 2 _ rfl; (with_reducible repeat (first | refine blk_drewN ?_ _ | refine blk_drew ?_ | refine blk_alloc ?_ _)); refine blk_put (cs := #[.int .i64 t239, .int .i64 0, .slice none 0 0, .slice none 0 0]) ?_ 1 _ rfl; (with_reducible repeat (first | refine blk_drewN ?_ _ | refine blk_drew ?_ | refine blk_alloc ?_ _)); refine blk_put (cs := #[.int .i64 0, .int .i64 0, .slice none 0 0, .slice none 0 0]) ?_ 0 _ rfl; (with_reducible repeat (first | refine blk_drewN ?_ _ | refine blk_drew ?_ | refine blk_alloc ?_ _)); exact BK248.out⟩, ⟨by repeat (first | (with_reducible first | exact HB.out | apply below_alloc | apply pw_below_drewN | apply below_drew1 | refine below_set ?_ GE209.out | refine below_set ?_ GE210.out | refine below_set ?_ GE248.out) | exact HB.out)⟩⟩
            · rw [if_neg c146] at H
              have c146b0 : ((t244.length : Int) == ji5) = false := beq_eq_false_iff_ne.mpr c146
              have c146b1 : ((t244.length : Int) != ji5) = true := bne_iff_ne.mpr c146
              have H' := Aside0.mk H
              clear H
              have hnb150 := NB248_209.out
              have hnc150 := NB209_248.out
              have hnb151 := NB248_210.out
              have hnc151 := NB210_248.out
              have hcz152_0 : w139.cell? ⟨gb248, 0, none⟩ = some (.int .i64 0) := (blk_cell BK248.out 0).trans rfl
              have hcz152_1 : w139.cell? ⟨gb248, 1, none⟩ = some (.int .i64 0) := (blk_cell BK248.out 1).trans rfl
              have hcz152_2 : w139.cell? ⟨gb248, 2, none⟩ = some (.slice none 0 0) := (blk_cell BK248.out 2).trans rfl
              have hcz152_3 : w139.cell? ⟨gb248, 3, none⟩ = some (.slice none 0 0) := (blk_cell BK248.out 3).trans rfl
              have hfz152_0 := blk_frozen BK248.out 0
              have hfz152_1 := blk_frozen BK248.out 1
              have hfz152_2 := blk_frozen BK248.out 2
              have hfz152_3 := blk_frozen BK248.out 3
              go_wp2
              go_meet
              case rel => exact ⟨_, (true), (by first | rfl | (simp; done) | (simp [*]; done)), H', ⟨by have := HK1.out; first | omega | exact Nat.le_refl _⟩, ⟨by (with_reducible repeat (first | apply Kd.R_alloc | apply Kd.R_drewN | apply Kd.R_drew)); exact Kd.R_mono (Kd.R_far (p := ⟨gb248, 3, none⟩) (Kd.R_far (p := ⟨gb248, 2, none⟩) (Kd.R_far (p := ⟨gb248, 1, none⟩) (Kd.R_far (p := ⟨gb248, 0, none⟩) (Kd.R_types HO_210002.out BK248.out (by decide)) (fun _ hk => hk.2) (.int .i64 t239)) (fun _ hk => hk.2) (.int .i64 t240)) (fun _ hk => hk.2) (.slice Ao143 t241.length co143)) (fun _ hk => hk.2) (.slice Ao144 t244.length co144)) (fun _ hk => ⟨hk.1.1, hk.1.2⟩)⟩, ⟨by (with_reducible repeat (first | apply Kd.R_alloc | apply Kd.R_drewN | apply Kd.R_drew)); exact Kd.R_mono (Kd.R_far (p := ⟨gb248, 3, none⟩) (Kd.R_far (p := ⟨gb248, 2, none⟩) (Kd.R_far (p := ⟨gb248, 1, none⟩) (Kd.R_far (p := ⟨gb248, 0, none⟩) (Kd.R_types HO_210003.out BK248.out (by decide)) (fun _ hk => hk.2) (.int .i64 t239)) (fun _ hk => hk.2) (.int .i64 t240)) (fun _ hk => hk.2) (.slice Ao143 t241.length co143)) (fun _ hk => hk.2) (.slice Ao144 t244.length co144)) (fun _ hk => ⟨hk.1.1, hk.1.2⟩)⟩, ⟨by (with_reducible repeat (first | apply Kd.R_alloc | apply Kd.R_drewN | apply Kd.R_drew)); exact Kd.R_mono (Kd.R_far (p := ⟨gb248, 3, none⟩) (Kd.R_far (p := ⟨gb248, 2, none⟩) (Kd.R_far (p := ⟨gb248, 1, none⟩) (Kd.R_far (p := ⟨gb248, 0, none⟩) (Kd.R_types HO_211002.out BK248.out (by decide)) (fun _ hk => hk.2) (.int .i64 t239)) (fun _ hk => hk.2) (.int .i64 t240)) (fun _ hk => hk.2) (.slice Ao143 t241.length co143)) (fun _ hk => hk.2) (.slice Ao144 t244.length co144)) (fun _ hk => ⟨hk.1.1, hk.1.2⟩)⟩, ⟨by (with_reducible repeat (first | apply Kd.R_alloc | apply Kd.R_drewN | apply Kd.R_drew)); exact Kd.R_mono (Kd.R_far (p := ⟨gb248, 3, none⟩) (Kd.R_far (p := ⟨gb248, 2, none⟩) (Kd.R_far (p := ⟨gb248, 1, none⟩) (Kd.R_far (p := ⟨gb248, 0, none⟩) (Kd.R_types HO_211003.out BK248.out (by decide)) (fun _ hk => hk.2) (.int .i64 t239)) (fun _ hk => hk.2) (.int .i64 t240)) (fun _ hk => hk.2) (.slice Ao143 t241.length co143)) (fun _ hk => hk.2) (.slice Ao144 t244.length co144)) (fun _ hk => ⟨hk.1.1, hk.1.2⟩)⟩, ⟨by (with_reducible repeat (first | apply Kd.R_alloc | apply Kd.R_drewN | apply Kd.R_drew)); exact Kd.R_mono (Kd.R_far (p := ⟨gb248, 3, none⟩) (Kd.R_far (p := ⟨gb248, 2, none⟩) (Kd.R_far (p := ⟨gb248, 1, none⟩) (Kd.R_far (p := ⟨gb248, 0, none⟩) (Kd.R_types HO243.out BK248.out (by decide)) (fun _ hk => hk.2) (.int .i64 t239)) (fun _ hk => hk.2) (.int .i64 t240)) (fun _ hk => hk.2) (.slice Ao143 t241.length co143)) (fun _ hk => hk.2) (.slice Ao144 t244.length co144)) (fun _ hk => ⟨hk.1.1.2, hk.1.2⟩)⟩, ⟨by (with_reducible repeat (first | apply Kd.R_alloc | apply Kd.R_drewN | apply Kd.R_drew)); exact Kd.R_mono (Kd.R_far (p := ⟨gb248, 3, none⟩) (Kd.R_far (p := ⟨gb248, 2, none⟩) (Kd.R_far (p := ⟨gb248, 1, none⟩) (Kd.R_far (p := ⟨gb248, 0, none⟩) (Kd.R_types HO246.out BK248.out (by decide)) (fun _ hk => hk.2) (.int .i64 t239)) (fun _ hk => hk.2) (.int .i64 t240)) (fun _ hk => hk.2) (.slice Ao143 t241.length co143)) (fun _ hk => hk.2) (.slice Ao144 t244.length co144)) (fun _ hk => ⟨hk.1.1.2, hk.1.2⟩)⟩, ⟨by (with_reducible repeat (first | refine blk_drewN ?_ _ | refine blk_drew ?_ | refine blk_alloc ?_ _)); refine blk_far ?_ NB209_248.out _; (with_reducible repeat (first | refine blk_drewN ?_ _ | refine blk_drew ?_ | refine blk_alloc ?_ _)); refine blk_far ?_ NB209_248.out _; (with_reducible repeat (first | refine blk_drewN ?_ _ | refine blk_drew ?_ | refine blk_alloc ?_ _)); refine blk_far ?_ NB209_248.out _; (with_reducible repeat (first | refine blk_drewN ?_ _ | refine blk_drew ?_ | refine blk_alloc ?_ _)); refine blk_far ?_ NB209_248.out _; (with_reducible repeat (first | refine blk_drewN ?_ _ | refine blk_drew ?_ | refine blk_alloc ?_ _)); exact BK209.out⟩, ⟨by (with_reducible repeat (first | refine blk_drewN ?_ _ | refine blk_drew ?_ | refine blk_alloc ?_ _)); refine blk_far ?_ NB210_248.out _; (with_reducible repeat (first | refine blk_drewN ?_ _ | refine blk_drew ?_ | refine blk_alloc ?_ _)); refine blk_far ?_ NB210_248.out _; (with_reducible repeat (first | refine blk_drewN ?_ _ | refine blk_drew ?_ | refine blk_alloc ?_ _)); refine blk_far ?_ NB210_248.out _; (with_reducible repeat (first | refine blk_drewN ?_ _ | refine blk_drew ?_ | refine blk_alloc ?_ _)); refine blk_far ?_ NB210_248.out _; (with_reducible repeat (first | refine blk_drewN ?_ _ | refine blk_drew ?_ | refine blk_alloc ?_ _)); exact BK210.out⟩, ⟨by (with_reducible repeat (first | refine blk_drewN ?_ _ | refine blk_drew ?_ | refine blk_alloc ?_ _)); refine blk_put (cs := #[.int .i64 t239, .int .i64 t240, .slice Ao143 t241.length co143, .slice none 0 0]) ?_ 3 _ rfl; (with_reducible repeat (first | refine blk_drewN ?_ _ | refine blk_drew ?_ | refine blk_alloc ?_ _)); refine blk_put (cs := #[.int .i64 t239, .int .i64 t240, .slice none 0 0, .slice none 0 0]) ?_ 2 _ rfl; (with_reducible repeat (first | refine blk_drewN ?_ _ | refine blk_drew ?_ | refine blk_alloc ?_ _)); refine blk_put (cs := #[.int .i64 t239, .int .i64 0, .slice none 0 0, .slice none 0 0]) ?_ 1 _ rfl; (with_reducible repeat (first | refine blk_drewN ?_ _ | refine blk_drew ?_ | refine blk_alloc ?_ _)); refine blk_put (cs := #[.int .i64 0, .int .i64 0, .slice none 0 0, .slice none 0 0]) ?_ 0 _ rfl; (with_reducible repeat (first | refine blk_drewN ?_ _ | refine blk_drew ?_ | refine blk_alloc ?_ _)); exact BK248.out⟩, ⟨by repeat (first | (with_reducible first | exact HB.out | apply below_alloc | apply pw_below_drewN | apply below_drew1 | refine below_set ?_ GE209.out | refine below_set ?_ GE210.out | refine below_set ?_ GE248.out) | exact HB.out)⟩⟩
        case rest =>
          clear HC130
          try clear c1
          try clear c2
          try clear p2
          try clear p6
          try clear c7
          try clear c11
          try clear c11b0
          try clear c13
          try clear c14
          try clear c15
          try clear c16
          try clear c17
          try clear c18
          try clear c19
          try clear c20
          try clear c21
          try clear p64
          try clear c131
          try clear c140
          try clear c141
          try clear c145
          try clear c145b0
          try clear c145b1
          try clear c145b2
          try clear c146
          try clear c146b0
          try clear c146b1
          try clear c147
          try clear c148
          try clear c150
          try clear c151
          try clear hcz132_0
          try clear hcz132_1
          try clear hcz132_2
          try clear hcz132_3
          try clear hcz133_0
          try clear hcz133_1
          try clear hcz133_2
          try clear hcz133_3
          try clear hcz142_0
          try clear hcz142_1
          try clear hcz142_2
          try clear hcz142_3
          try clear hcz149_0
          try clear hcz149_1
          try clear hcz149_2
          try clear hcz149_3
          try clear hcz152_0
          try clear hcz152_1
          try clear hcz152_2
          try clear hcz152_3
          try clear hfz132_0
          try clear hfz132_1
          try clear hfz132_2
          try clear hfz132_3
          try clear hfz133_0
          try clear hfz133_1
          try clear hfz133_2
          try clear hfz133_3
          try clear hfz142_0
          try clear hfz142_1
          try clear hfz142_2
          try clear hfz142_3
          try clear hfz149_0
          try clear hfz149_1
          try clear hfz149_2
          try clear hfz149_3
          try clear hfz152_0
          try clear hfz152_1
          try clear hfz152_2
          try clear hfz152_3
          obtain ⟨kq, x101_129, rfl, HA, HJ129, HO_210002, HO_210003, HO_211002, HO_211003, HO_249002, HO_249003, BK209, BK210, BK248, HB⟩ := hcut
          cases kq with
          | zero => exact absurd HA.out (by simp [debuggerlaw41_WatchpointWords.j1])
          | succ kj129 =>
            have H := HA.out
            clear HA
            simp only [debuggerlaw41_WatchpointWords.j1] at H
            by_cases c153 : x101_129 = true
            · subst c153
              have H1 : (some false) = some r := by rw [if_pos rfl] at H; exact H
              clear H
              have H := H1
              clear H1
              obtain rfl := Option.some.inj H
              go_wp2
              go_ret
              exact ⟨by first | rfl | (simp [errW_none, errW_some] <;> rfl) | (simp only [← hji4, ← hji5]; first | rfl | (simp [errW_none, errW_some] <;> rfl)) | (simp [*, errW_none, errW_some] <;> rfl), by repeat (first | (with_reducible first | exact HB.out | apply below_alloc | apply pw_below_drewN | apply below_drew1 | refine below_set ?_ GE209.out | refine below_set ?_ GE210.out | refine below_set ?_ GE248.out) | exact HB.out)⟩
            · replace c153 := Bool.eq_false_iff.mpr c153
              subst c153
              have H1 : (debuggerlaw41_WatchpointWords.l1 kj129 l0 l1 a2 ji5 0 t239 t240 t241 t244) = some r := by rw [if_neg (show ¬ (false = true) by decide)] at H; exact H
              clear H
              have H := H1
              clear H1
              have H' := Aside0.mk H
              clear H
              go_wp2
              go_loopg [15] kj129 (fun kq v15 w' => ∃ (x15_3 : Int), v15 = .int .i64 x15_3 ∧ Aside0 (debuggerlaw41_WatchpointWords.l1 kq l0 l1 a2 ji5 x15_3 t239 t240 t241 t244 = some r) ∧ Aside0 (kq ≤ kj129) ∧ Aside0 (Kd.R Kd.bool 4 w' w.heap.size (fun k_ => some k_ ≠ ((.slice Ao136 x211002_1.length co136) : Value).ownBlock ∧ some k_ ≠ ((.slice Ao143 t241.length co143) : Value).ownBlock) (.slice Ao134 x210002_1.length co134) x210002_1) ∧ Aside0 (Kd.R (Kd.int .i64) 3 w' w.heap.size (fun k_ => some k_ ≠ ((.slice Ao137 x211003_1.length co137) : Value).ownBlock ∧ some k_ ≠ ((.slice Ao144 t244.length co144) : Value).ownBlock) (.slice Ao135 x210003_1.length co135) x210003_1) ∧ Aside0 (Kd.R Kd.bool 4 w' w.heap.size (fun k_ => some k_ ≠ ((.slice Ao134 x210002_1.length co134) : Value).ownBlock ∧ some k_ ≠ ((.slice Ao143 t241.length co143) : Value).ownBlock) (.slice Ao136 x211002_1.length co136) x211002_1) ∧ Aside0 (Kd.R (Kd.int .i64) 3 w' w.heap.size (fun k_ => some k_ ≠ ((.slice Ao135 x210003_1.length co135) : Value).ownBlock ∧ some k_ ≠ ((.slice Ao144 t244.length co144) : Value).ownBlock) (.slice Ao137 x211003_1.length co137) x211003_1) ∧ Aside0 (Kd.R Kd.bool 4 w' w.heap.size (fun k_ => some k_ ≠ ((.slice Ao134 x210002_1.length co134) : Value).ownBlock ∧ some k_ ≠ ((.slice Ao136 x211002_1.length co136) : Value).ownBlock) (.slice Ao143 t241.length co143) t241) ∧ Aside0 (Kd.R (Kd.int .i64) 3 w' w.heap.size (fun k_ => some k_ ≠ ((.slice Ao135 x210003_1.length co135) : Value).ownBlock ∧ some k_ ≠ ((.slice Ao137 x211003_1.length co137) : Value).ownBlock) (.slice Ao144 t244.length co144) t244) ∧ Aside0 (w'.heap[gb209]? = some (.cells #[.int .i64 3, .int .i64 0, (.slice Ao134 x210002_1.length co134), (.slice Ao135 x210003_1.length co135)] 25 (0, 0))) ∧ Aside0 (w'.heap[gb210]? = some (.cells #[.int .i64 3, .int .i64 0, (.slice Ao136 x211002_1.length co136), (.slice Ao137 x211003_1.length co137)] 25 (0, 0))) ∧ Aside0 (w'.heap[gb248]? = some (.cells #[.int .i64 t239, .int .i64 t240, (.slice Ao143 t241.length co143), (.slice Ao144 t244.length co144)] 25 (0, 0))) ∧ Aside0 (Below w.heap.size w w'))
              case atStart => exact ⟨(0), (by first | rfl | (simp; done) | (simp [*]; done)), H', ⟨Nat.le_refl _⟩, ⟨by (with_reducible repeat (first | apply Kd.R_alloc | apply Kd.R_drewN | apply Kd.R_drew)); exact HO_210002.out⟩, ⟨by (with_reducible repeat (first | apply Kd.R_alloc | apply Kd.R_drewN | apply Kd.R_drew)); exact HO_210003.out⟩, ⟨by (with_reducible repeat (first | apply Kd.R_alloc | apply Kd.R_drewN | apply Kd.R_drew)); exact HO_211002.out⟩, ⟨by (with_reducible repeat (first | apply Kd.R_alloc | apply Kd.R_drewN | apply Kd.R_drew)); exact HO_211003.out⟩, ⟨by (with_reducible repeat (first | apply Kd.R_alloc | apply Kd.R_drewN | apply Kd.R_drew)); exact HO_249002.out⟩, ⟨by (with_reducible repeat (first | apply Kd.R_alloc | apply Kd.R_drewN | apply Kd.R_drew)); exact HO_249003.out⟩, ⟨by (with_reducible repeat (first | refine blk_drewN ?_ _ | refine blk_drew ?_ | refine blk_alloc ?_ _)); exact BK209.out⟩, ⟨by (with_reducible repeat (first | refine blk_drewN ?_ _ | refine blk_drew ?_ | refine blk_alloc ?_ _)); exact BK210.out⟩, ⟨by (with_reducible repeat (first | refine blk_drewN ?_ _ | refine blk_drew ?_ | refine blk_alloc ?_ _)); exact BK248.out⟩, ⟨by repeat (first | (with_reducible first | exact HB.out | apply below_alloc | apply pw_below_drewN | apply below_drew1 | refine below_set ?_ GE209.out | refine below_set ?_ GE210.out | refine below_set ?_ GE248.out) | exact HB.out)⟩⟩
              case round =>
                clear H'
                try clear c1
                try clear c2
                try clear p2
                try clear p6
                try clear c7
                try clear c11
                try clear c11b0
                try clear c13
                try clear c14
                try clear c15
                try clear c16
                try clear c17
                try clear c18
                try clear c19
                try clear c20
                try clear c21
                try clear p64
                try clear c131
                try clear c140
                try clear c141
                try clear c145
                try clear c145b0
                try clear c145b1
                try clear c145b2
                try clear c146
                try clear c146b0
                try clear c146b1
                try clear c147
                try clear c148
                try clear c150
                try clear c151
                try clear c153
                try clear hcz132_0
                try clear hcz132_1
                try clear hcz132_2
                try clear hcz132_3
                try clear hcz133_0
                try clear hcz133_1
                try clear hcz133_2
                try clear hcz133_3
                try clear hcz142_0
                try clear hcz142_1
                try clear hcz142_2
                try clear hcz142_3
                try clear hcz149_0
                try clear hcz149_1
                try clear hcz149_2
                try clear hcz149_3
                try clear hcz152_0
                try clear hcz152_1
                try clear hcz152_2
                try clear hcz152_3
                try clear hfz132_0
                try clear hfz132_1
                try clear hfz132_2
                try clear hfz132_3
                try clear hfz133_0
                try clear hfz133_1
                try clear hfz133_2
                try clear hfz133_3
                try clear hfz142_0
                try clear hfz142_1
                try clear hfz142_2
                try clear hfz142_3
                try clear hfz149_0
                try clear hfz149_1
                try clear hfz149_2
                try clear hfz149_3
                try clear hfz152_0
                try clear hfz152_1
                try clear hfz152_2
                try clear hfz152_3
                try clear p2
                try clear p6
                try clear p64
                obtain ⟨x15_3, rfl, HA, HK3, HO_210002, HO_210003, HO_211002, HO_211003, HO_249002, HO_249003, BK209, BK210, BK248, HB⟩ := hrel
                cases gk with
                | zero => exact absurd HA.out (by simp [debuggerlaw41_WatchpointWords.l1])
                | succ k3 =>
                  have H := HA.out
                  clear HA
                  simp only [debuggerlaw41_WatchpointWords.l1] at H
                  by_cases c154 : x15_3 < ji5
                  · rw [if_pos c154] at H
                    have c154b0 : decide (x15_3 < ji5) = true := decide_eq_true c154
                    clear c154
                    by_cases c155 : 0 ≤ x15_3
                    rotate_left
                    · rw [if_neg c155] at H
                      exact absurd H (by simp)
                    rw [if_pos c155] at H
                    have c155b0 : decide (0 ≤ x15_3) = true := decide_eq_true c155
                    clear c155
                    by_cases c156 : x15_3 < (l0.length : Int)
                    rotate_left
                    · rw [if_neg c156] at H
                      exact absurd H (by simp)
                    rw [if_pos c156] at H
                    have c156b0 : decide (x15_3 < (l0.length : Int)) = true := decide_eq_true c156
                    clear c156
                    obtain ⟨ji157, hji157⟩ : ∃ j_ : Int, (IntKind.u64.wrap (x15_3)) = j_ := ⟨_, rfl⟩
                    replace H : (if 0 ≤ (ji157) then (if (Go.bits .and .i64 (shr .i64 a2 (ji157)) 1) = 0 then (if x15_3 < (l1.length : Int) then (if x15_3 < (t241.length : Int) then (if rdOf false t241 x15_3 = true then (if x15_3 < (t244.length : Int) then (if (rd t244 x15_3) = (rd l1 x15_3) then (debuggerlaw41_WatchpointWords.l1 k3 l0 l1 a2 ji5 (wrap64 (x15_3 + 1)) t239 t240 t241 t244) else (some false)) else (none)) else (some false)) else (none)) else (none)) else (if x15_3 < (t241.length : Int) then (if rdOf false t241 x15_3 = true then (if x15_3 < (t244.length : Int) then (if (rd t244 x15_3) = (rd l0 x15_3) then (debuggerlaw41_WatchpointWords.l1 k3 l0 l1 a2 ji5 (wrap64 (x15_3 + 1)) t239 t240 t241 t244) else (some false)) else (none)) else (some false)) else (none))) else (none)) = some r := by first | (rw [hji157] at H; exact H) | (simp only [hji157] at H ⊢; exact H)
                    by_cases c158 : 0 ≤ (ji157)
                    rotate_left
                    · rw [if_neg c158] at H
                      exact absurd H (by simp)
                    rw [if_pos c158] at H
                    have c158b0 := eq_true c158
                    have c158b1 : decide (0 ≤ (ji157)) = true := decide_eq_true c158
                    clear c158
                    obtain ⟨ji159, hji159⟩ : ∃ j_ : Int, (shr .i64 a2 (ji157)) = j_ := ⟨_, rfl⟩
                    replace H : (if (Go.bits .and .i64 (ji159) 1) = 0 then (if x15_3 < (l1.length : Int) then (if x15_3 < (t241.length : Int) then (if rdOf false t241 x15_3 = true then (if x15_3 < (t244.length : Int) then (if (rd t244 x15_3) = (rd l1 x15_3) then (debuggerlaw41_WatchpointWords.l1 k3 l0 l1 a2 ji5 (wrap64 (x15_3 + 1)) t239 t240 t241 t244) else (some false)) else (none)) else (some false)) else (none)) else (none)) else (if x15_3 < (t241.length : Int) then (if rdOf false t241 x15_3 = true then (if x15_3 < (t244.length : Int) then (if (rd t244 x15_3) = (rd l0 x15_3) then (debuggerlaw41_WatchpointWords.l1 k3 l0 l1 a2 ji5 (wrap64 (x15_3 + 1)) t239 t240 t241 t244) else (some false)) else (none)) else (some false)) else (none))) = some r := by first | (rw [hji159] at H; exact H) | (simp only [hji159] at H ⊢; exact H)
                    have hji159_ : (a2 / 2 ^ min (ji157).toNat 64) = ji159 := hji159
                    have hji159z : (ji157) ≤ 64 → (a2 / 2 ^ (ji157).toNat) = ji159 := shr_small hji159
                    by_cases c160 : (Go.bits .and .i64 (ji159) 1) = 0
                    · rw [if_pos c160] at H
                      have c160b0 : ((Go.bits .and .i64 (ji159) 1) == 0) = true := beq_iff_eq.mpr c160
                      have c160b1 : ((Go.bits .and .i64 (ji159) 1) != 0) = false := bne_eq_false_iff_eq.mpr c160
                      clear c160
                      by_cases c161 : x15_3 < (l1.length : Int)
                      rotate_left
                      · rw [if_neg c161] at H
                        exact absurd H (by simp)
                      rw [if_pos c161] at H
                      have c161b0 : decide (x15_3 < (l1.length : Int)) = true := decide_eq_true c161
                      clear c161
                      by_cases c162 : x15_3 < (t241.length : Int)
                      rotate_left
                      · rw [if_neg c162] at H
                        exact absurd H (by simp)
                      rw [if_pos c162] at H
                      have c162b0 : decide (x15_3 < (t241.length : Int)) = true := decide_eq_true c162
                      clear c162
                      obtain ⟨bq163, hbq163⟩ : ∃ b_ : Bool, b_ = (rdOf false t241 x15_3) := ⟨_, rfl⟩
                      replace H : (if bq163 = true then (if x15_3 < (t244.length : Int) then (if (rd t244 x15_3) = (rd l1 x15_3) then (debuggerlaw41_WatchpointWords.l1 k3 l0 l1 a2 ji5 (wrap64 (x15_3 + 1)) t239 t240 t241 t244) else (some false)) else (none)) else (some false)) = some r := by rw [← hbq163] at H; exact H
                      have Nbq163 := Aside0.mk hbq163
                      clear hbq163
                      by_cases c164 : bq163 = true
                      · subst c164
                        have H1 : (if x15_3 < (t244.length : Int) then (if (rd t244 x15_3) = (rd l1 x15_3) then (debuggerlaw41_WatchpointWords.l1 k3 l0 l1 a2 ji5 (wrap64 (x15_3 + 1)) t239 t240 t241 t244) else (some false)) else (none)) = some r := by rw [if_pos rfl] at H; exact H
                        clear H
                        have H := H1
                        clear H1
                        by_cases c165 : x15_3 < (t244.length : Int)
                        rotate_left
                        · rw [if_neg c165] at H
                          exact absurd H (by simp)
                        rw [if_pos c165] at H
                        have c165b0 : decide (x15_3 < (t244.length : Int)) = true := decide_eq_true c165
                        clear c165
                        by_cases c166 : (rd t244 x15_3) = (rd l1 x15_3)
                        · rw [if_pos c166] at H
                          have c166b0 : ((rd t244 x15_3) == (rd l1 x15_3)) = true := beq_iff_eq.mpr c166
                          have c166b1 : ((rd t244 x15_3) != (rd l1 x15_3)) = false := bne_eq_false_iff_eq.mpr c166
                          clear c166
                          have H' := Aside0.mk H
                          clear H
                          have p250 : 0 ≤ (x15_3 : Int) := of_decide_eq_true (by first | (with_reducible assumption) | assumption)
                          have q250 : x15_3 < (l0.length : Int) := of_decide_eq_true (by first | (with_reducible assumption) | assumption)
                          obtain ⟨ad250, e250, hx250_0⟩ := Kd.at_int HR0.out x15_3 p250 q250
                          cases e250
                          replace hx250_0 := (HB.out.cell (World.block_lt_of_cell? w _ hx250_0)).trans hx250_0
                          replace p250 := eq_true p250
                          replace q250 := eq_true q250
                          have p251 : 0 ≤ (x15_3 : Int) := of_decide_eq_true (by first | (with_reducible assumption) | assumption)
                          have q251 : x15_3 < (l1.length : Int) := of_decide_eq_true (by first | (with_reducible assumption) | assumption)
                          obtain ⟨ad251, e251, hx251_0⟩ := Kd.at_int HR1.out x15_3 p251 q251
                          cases e251
                          replace hx251_0 := (HB.out.cell (World.block_lt_of_cell? w _ hx251_0)).trans hx251_0
                          replace p251 := eq_true p251
                          replace q251 := eq_true q251
                          have hnb167 := NB248_209.out
                          have hnc167 := NB209_248.out
                          have hnb168 := NB248_210.out
                          have hnc168 := NB210_248.out
                          have hcz169_0 : wr.cell? ⟨gb248, 0, none⟩ = some (.int .i64 t239) := (blk_cell BK248.out 0).trans rfl
                          have hcz169_1 : wr.cell? ⟨gb248, 1, none⟩ = some (.int .i64 t240) := (blk_cell BK248.out 1).trans rfl
                          have hcz169_2 : wr.cell? ⟨gb248, 2, none⟩ = some (.slice Ao143 t241.length co143) := (blk_cell BK248.out 2).trans rfl
                          have hcz169_3 : wr.cell? ⟨gb248, 3, none⟩ = some (.slice Ao144 t244.length co144) := (blk_cell BK248.out 3).trans rfl
                          have hfz169_0 := blk_frozen BK248.out 0
                          have hfz169_1 := blk_frozen BK248.out 1
                          have hfz169_2 := blk_frozen BK248.out 2
                          have hfz169_3 := blk_frozen BK248.out 3
                          have p252 : 0 ≤ (x15_3 : Int) := of_decide_eq_true (by first | (with_reducible assumption) | assumption)
                          have q252 : x15_3 < (t241.length : Int) := of_decide_eq_true (by first | (with_reducible assumption) | assumption)
                          obtain ⟨ad252, e252, hx252_0⟩ := Kd.at_bool (Kd.R_reads' HO_249002.out).2.2 x15_3 p252 q252
                          (try rw [← Nbq163.out] at hx252_0)
                          cases e252
                          replace p252 := eq_true p252
                          replace q252 := eq_true q252
                          have p253 : 0 ≤ (x15_3 : Int) := of_decide_eq_true (by first | (with_reducible assumption) | assumption)
                          have q253 : x15_3 < (t244.length : Int) := of_decide_eq_true (by first | (with_reducible assumption) | assumption)
                          obtain ⟨ad253, e253, hx253_0⟩ := Kd.at_int (Kd.R_reads' HO_249003.out).2.2 x15_3 p253 q253
                          cases e253
                          replace p253 := eq_true p253
                          replace q253 := eq_true q253
                          go_wp2
                          go_roundg k3
                          case measure => have := HK1.out; have := HJ129.out; have := HK3.out; omega
                          case rel => exact ⟨(wrap64 (x15_3 + 1)), (by first | rfl | (simp; done) | (simp [*]; done)), H', ⟨by have := HK1.out; have := HJ129.out; have := HK3.out; omega⟩, ⟨by (with_reducible repeat (first | apply Kd.R_alloc | apply Kd.R_drewN | apply Kd.R_drew)); exact HO_210002.out⟩, ⟨by (with_reducible repeat (first | apply Kd.R_alloc | apply Kd.R_drewN | apply Kd.R_drew)); exact HO_210003.out⟩, ⟨by (with_reducible repeat (first | apply Kd.R_alloc | apply Kd.R_drewN | apply Kd.R_drew)); exact HO_211002.out⟩, ⟨by (with_reducible repeat (first | apply Kd.R_alloc | apply Kd.R_drewN | apply Kd.R_drew)); exact HO_211003.out⟩, ⟨by (with_reducible repeat (first | apply Kd.R_alloc | apply Kd.R_drewN | apply Kd.R_drew)); exact HO_249002.out⟩, ⟨by (with_reducible repeat (first | apply Kd.R_alloc | apply Kd.R_drewN | apply Kd.R_drew)); exact HO_249003.out⟩, ⟨by (with_reducible repeat (first | refine blk_drewN ?_ _ | refine blk_drew ?_ | refine blk_alloc ?_ _)); exact BK209.out⟩, ⟨by (with_reducible repeat (first | refine blk_drewN ?_ _ | refine blk_drew ?_ | refine blk_alloc ?_ _)); exact BK210.out⟩, ⟨by (with_reducible repeat (first | refine blk_drewN ?_ _ | refine blk_drew ?_ | refine blk_alloc ?_ _)); exact BK248.out⟩, ⟨by repeat (first | (with_reducible first | exact HB.out | apply below_alloc | apply pw_below_drewN | apply below_drew1 | refine below_set ?_ GE209.out | refine below_set ?_ GE210.out | refine below_set ?_ GE248.out) | exact HB.out)⟩⟩
                        · rw [if_neg c166] at H
                          have c166b0 : ((rd t244 x15_3) == (rd l1 x15_3)) = false := beq_eq_false_iff_ne.mpr c166
                          have c166b1 : ((rd t244 x15_3) != (rd l1 x15_3)) = true := bne_iff_ne.mpr c166
                          obtain rfl := Option.some.inj H
                          have p250 : 0 ≤ (x15_3 : Int) := of_decide_eq_true (by first | (with_reducible assumption) | assumption)
                          have q250 : x15_3 < (l0.length : Int) := of_decide_eq_true (by first | (with_reducible assumption) | assumption)
                          obtain ⟨ad250, e250, hx250_0⟩ := Kd.at_int HR0.out x15_3 p250 q250
                          cases e250
                          replace hx250_0 := (HB.out.cell (World.block_lt_of_cell? w _ hx250_0)).trans hx250_0
                          replace p250 := eq_true p250
                          replace q250 := eq_true q250
                          have p251 : 0 ≤ (x15_3 : Int) := of_decide_eq_true (by first | (with_reducible assumption) | assumption)
                          have q251 : x15_3 < (l1.length : Int) := of_decide_eq_true (by first | (with_reducible assumption) | assumption)
                          obtain ⟨ad251, e251, hx251_0⟩ := Kd.at_int HR1.out x15_3 p251 q251
                          cases e251
                          replace hx251_0 := (HB.out.cell (World.block_lt_of_cell? w _ hx251_0)).trans hx251_0
                          replace p251 := eq_true p251
                          replace q251 := eq_true q251
                          have hnb170 := NB248_209.out
                          have hnc170 := NB209_248.out
                          have hnb171 := NB248_210.out
                          have hnc171 := NB210_248.out
                          have hcz172_0 : wr.cell? ⟨gb248, 0, none⟩ = some (.int .i64 t239) := (blk_cell BK248.out 0).trans rfl
                          have hcz172_1 : wr.cell? ⟨gb248, 1, none⟩ = some (.int .i64 t240) := (blk_cell BK248.out 1).trans rfl
                          have hcz172_2 : wr.cell? ⟨gb248, 2, none⟩ = some (.slice Ao143 t241.length co143) := (blk_cell BK248.out 2).trans rfl
                          have hcz172_3 : wr.cell? ⟨gb248, 3, none⟩ = some (.slice Ao144 t244.length co144) := (blk_cell BK248.out 3).trans rfl
                          have hfz172_0 := blk_frozen BK248.out 0
                          have hfz172_1 := blk_frozen BK248.out 1
                          have hfz172_2 := blk_frozen BK248.out 2
                          have hfz172_3 := blk_frozen BK248.out 3
                          have p252 : 0 ≤ (x15_3 : Int) := of_decide_eq_true (by first | (with_reducible assumption) | assumption)
                          have q252 : x15_3 < (t241.length : Int) := of_decide_eq_true (by first | (with_reducible assumption) | assumption)
                          obtain ⟨ad252, e252, hx252_0⟩ := Kd.at_bool (Kd.R_reads' HO_249002.out).2.2 x15_3 p252 q252
                          (try rw [← Nbq163.out] at hx252_0)
                          cases e252
                          replace p252 := eq_true p252
                          replace q252 := eq_true q252
                          have p253 : 0 ≤ (x15_3 : Int) := of_decide_eq_true (by first | (with_reducible assumption) | assumption)
                          have q253 : x15_3 < (t244.length : Int) := of_decide_eq_true (by first | (with_reducible assumption) | assumption)
                          obtain ⟨ad253, e253, hx253_0⟩ := Kd.at_int (Kd.R_reads' HO_249003.out).2.2 x15_3 p253 q253
                          cases e253
                          replace p253 := eq_true p253
                          replace q253 := eq_true q253
                          go_wp2
                          go_ret
                          exact ⟨by first | rfl | (simp [errW_none, errW_some] <;> rfl) | (simp only [← hji4, ← hji5, ← hji157, ← hji159]; first | rfl | (simp [errW_none, errW_some] <;> rfl)) | (simp [*, errW_none, errW_some] <;> rfl), by repeat (first | (with_reducible first | exact HB.out | apply below_alloc | apply pw_below_drewN | apply below_drew1 | refine below_set ?_ GE209.out | refine below_set ?_ GE210.out | refine below_set ?_ GE248.out) | exact HB.out)⟩
                      · replace c164 := Bool.eq_false_iff.mpr c164
                        subst c164
                        have H1 : (some false) = some r := by rw [if_neg (show ¬ (false = true) by decide)] at H; exact H
                        clear H
                        have H := H1
                        clear H1
                        obtain rfl := Option.some.inj H
                        have p250 : 0 ≤ (x15_3 : Int) := of_decide_eq_true (by first | (with_reducible assumption) | assumption)
                        have q250 : x15_3 < (l0.length : Int) := of_decide_eq_true (by first | (with_reducible assumption) | assumption)
                        obtain ⟨ad250, e250, hx250_0⟩ := Kd.at_int HR0.out x15_3 p250 q250
                        cases e250
                        replace hx250_0 := (HB.out.cell (World.block_lt_of_cell? w _ hx250_0)).trans hx250_0
                        replace p250 := eq_true p250
                        replace q250 := eq_true q250
                        have p251 : 0 ≤ (x15_3 : Int) := of_decide_eq_true (by first | (with_reducible assumption) | assumption)
                        have q251 : x15_3 < (l1.length : Int) := of_decide_eq_true (by first | (with_reducible assumption) | assumption)
                        obtain ⟨ad251, e251, hx251_0⟩ := Kd.at_int HR1.out x15_3 p251 q251
                        cases e251
                        replace hx251_0 := (HB.out.cell (World.block_lt_of_cell? w _ hx251_0)).trans hx251_0
                        replace p251 := eq_true p251
                        replace q251 := eq_true q251
                        have hnb173 := NB248_209.out
                        have hnc173 := NB209_248.out
                        have hnb174 := NB248_210.out
                        have hnc174 := NB210_248.out
                        have hcz175_0 : wr.cell? ⟨gb248, 0, none⟩ = some (.int .i64 t239) := (blk_cell BK248.out 0).trans rfl
                        have hcz175_1 : wr.cell? ⟨gb248, 1, none⟩ = some (.int .i64 t240) := (blk_cell BK248.out 1).trans rfl
                        have hcz175_2 : wr.cell? ⟨gb248, 2, none⟩ = some (.slice Ao143 t241.length co143) := (blk_cell BK248.out 2).trans rfl
                        have hcz175_3 : wr.cell? ⟨gb248, 3, none⟩ = some (.slice Ao144 t244.length co144) := (blk_cell BK248.out 3).trans rfl
                        have hfz175_0 := blk_frozen BK248.out 0
                        have hfz175_1 := blk_frozen BK248.out 1
                        have hfz175_2 := blk_frozen BK248.out 2
                        have hfz175_3 := blk_frozen BK248.out 3
                        have p252 : 0 ≤ (x15_3 : Int) := of_decide_eq_true (by first | (with_reducible assumption) | assumption)
                        have q252 : x15_3 < (t241.length : Int) := of_decide_eq_true (by first | (with_reducible assumption) | assumption)
                        obtain ⟨ad252, e252, hx252_0⟩ := Kd.at_bool (Kd.R_reads' HO_249002.out).2.2 x15_3 p252 q252
                        (try rw [← Nbq163.out] at hx252_0)
                        cases e252
                        replace p252 := eq_true p252
                        replace q252 := eq_true q252
                        go_wp2
                        go_ret
                        exact ⟨by first | rfl | (simp [errW_none, errW_some] <;> rfl) | (simp only [← hji4, ← hji5, ← hji157, ← hji159]; first | rfl | (simp [errW_none, errW_some] <;> rfl)) | (simp [*, errW_none, errW_some] <;> rfl), by repeat (first | (with_reducible first | exact HB.out | apply below_alloc | apply pw_below_drewN | apply below_drew1 | refine below_set ?_ GE209.out | refine below_set ?_ GE210.out | refine below_set ?_ GE248.out) | exact HB.out)⟩
                    · rw [if_neg c160] at H
                      have c160b0 : ((Go.bits .and .i64 (ji159) 1) == 0) = false := beq_eq_false_iff_ne.mpr c160
                      have c160b1 : ((Go.bits .and .i64 (ji159) 1) != 0) = true := bne_iff_ne.mpr c160
                      by_cases c176 : x15_3 < (t241.length : Int)
                      rotate_left
                      · rw [if_neg c176] at H
                        exact absurd H (by simp)
                      rw [if_pos c176] at H
                      have c176b0 : decide (x15_3 < (t241.length : Int)) = true := decide_eq_true c176
                      clear c176
                      obtain ⟨bq177, hbq177⟩ : ∃ b_ : Bool, b_ = (rdOf false t241 x15_3) := ⟨_, rfl⟩
                      replace H : (if bq177 = true then (if x15_3 < (t244.length : Int) then (if (rd t244 x15_3) = (rd l0 x15_3) then (debuggerlaw41_WatchpointWords.l1 k3 l0 l1 a2 ji5 (wrap64 (x15_3 + 1)) t239 t240 t241 t244) else (some false)) else (none)) else (some false)) = some r := by rw [← hbq177] at H; exact H
                      have Nbq177 := Aside0.mk hbq177
                      clear hbq177
                      by_cases c178 : bq177 = true
                      · subst c178
                        have H1 : (if x15_3 < (t244.length : Int) then (if (rd t244 x15_3) = (rd l0 x15_3) then (debuggerlaw41_WatchpointWords.l1 k3 l0 l1 a2 ji5 (wrap64 (x15_3 + 1)) t239 t240 t241 t244) else (some false)) else (none)) = some r := by rw [if_pos rfl] at H; exact H
                        clear H
                        have H := H1
                        clear H1
                        by_cases c179 : x15_3 < (t244.length : Int)
                        rotate_left
                        · rw [if_neg c179] at H
                          exact absurd H (by simp)
                        rw [if_pos c179] at H
                        have c179b0 : decide (x15_3 < (t244.length : Int)) = true := decide_eq_true c179
                        clear c179
                        by_cases c180 : (rd t244 x15_3) = (rd l0 x15_3)
                        · rw [if_pos c180] at H
                          have c180b0 : ((rd t244 x15_3) == (rd l0 x15_3)) = true := beq_iff_eq.mpr c180
                          have c180b1 : ((rd t244 x15_3) != (rd l0 x15_3)) = false := bne_eq_false_iff_eq.mpr c180
                          clear c180
                          have H' := Aside0.mk H
                          clear H
                          have p250 : 0 ≤ (x15_3 : Int) := of_decide_eq_true (by first | (with_reducible assumption) | assumption)
                          have q250 : x15_3 < (l0.length : Int) := of_decide_eq_true (by first | (with_reducible assumption) | assumption)
                          obtain ⟨ad250, e250, hx250_0⟩ := Kd.at_int HR0.out x15_3 p250 q250
                          cases e250
                          replace hx250_0 := (HB.out.cell (World.block_lt_of_cell? w _ hx250_0)).trans hx250_0
                          replace p250 := eq_true p250
                          replace q250 := eq_true q250
                          have hnb181 := NB248_209.out
                          have hnc181 := NB209_248.out
                          have hnb182 := NB248_210.out
                          have hnc182 := NB210_248.out
                          have hcz183_0 : wr.cell? ⟨gb248, 0, none⟩ = some (.int .i64 t239) := (blk_cell BK248.out 0).trans rfl
                          have hcz183_1 : wr.cell? ⟨gb248, 1, none⟩ = some (.int .i64 t240) := (blk_cell BK248.out 1).trans rfl
                          have hcz183_2 : wr.cell? ⟨gb248, 2, none⟩ = some (.slice Ao143 t241.length co143) := (blk_cell BK248.out 2).trans rfl
                          have hcz183_3 : wr.cell? ⟨gb248, 3, none⟩ = some (.slice Ao144 t244.length co144) := (blk_cell BK248.out 3).trans rfl
                          have hfz183_0 := blk_frozen BK248.out 0
                          have hfz183_1 := blk_frozen BK248.out 1
                          have hfz183_2 := blk_frozen BK248.out 2
                          have hfz183_3 := blk_frozen BK248.out 3
                          have p254 : 0 ≤ (x15_3 : Int) := of_decide_eq_true (by first | (with_reducible assumption) | assumption)
                          have q254 : x15_3 < (t241.length : Int) := of_decide_eq_true (by first | (with_reducible assumption) | assumption)
                          obtain ⟨ad254, e254, hx254_0⟩ := Kd.at_bool (Kd.R_reads' HO_249002.out).2.2 x15_3 p254 q254
                          (try rw [← Nbq177.out] at hx254_0)
                          cases e254
                          replace p254 := eq_true p254
                          replace q254 := eq_true q254
                          have p255 : 0 ≤ (x15_3 : Int) := of_decide_eq_true (by first | (with_reducible assumption) | assumption)
                          have q255 : x15_3 < (t244.length : Int) := of_decide_eq_true (by first | (with_reducible assumption) | assumption)
                          obtain ⟨ad255, e255, hx255_0⟩ := Kd.at_int (Kd.R_reads' HO_249003.out).2.2 x15_3 p255 q255
                          cases e255
                          replace p255 := eq_true p255
                          replace q255 := eq_true q255
                          go_wp2
                          go_roundg k3
                          case measure => have := HK1.out; have := HJ129.out; have := HK3.out; omega
                          case rel => exact ⟨(wrap64 (x15_3 + 1)), (by first | rfl | (simp; done) | (simp [*]; done)), H', ⟨by have := HK1.out; have := HJ129.out; have := HK3.out; omega⟩, ⟨by (with_reducible repeat (first | apply Kd.R_alloc | apply Kd.R_drewN | apply Kd.R_drew)); exact HO_210002.out⟩, ⟨by (with_reducible repeat (first | apply Kd.R_alloc | apply Kd.R_drewN | apply Kd.R_drew)); exact HO_210003.out⟩, ⟨by (with_reducible repeat (first | apply Kd.R_alloc | apply Kd.R_drewN | apply Kd.R_drew)); exact HO_211002.out⟩, ⟨by (with_reducible repeat (first | apply Kd.R_alloc | apply Kd.R_drewN | apply Kd.R_drew)); exact HO_211003.out⟩, ⟨by (with_reducible repeat (first | apply Kd.R_alloc | apply Kd.R_drewN | apply Kd.R_drew)); exact HO_249002.out⟩, ⟨by (with_reducible repeat (first | apply Kd.R_alloc | apply Kd.R_drewN | apply Kd.R_drew)); exact HO_249003.out⟩, ⟨by (with_reducible repeat (first | refine blk_drewN ?_ _ | refine blk_drew ?_ | refine blk_alloc ?_ _)); exact BK209.out⟩, ⟨by (with_reducible repeat (first | refine blk_drewN ?_ _ | refine blk_drew ?_ | refine blk_alloc ?_ _)); exact BK210.out⟩, ⟨by (with_reducible repeat (first | refine blk_drewN ?_ _ | refine blk_drew ?_ | refine blk_alloc ?_ _)); exact BK248.out⟩, ⟨by repeat (first | (with_reducible first | exact HB.out | apply below_alloc | apply pw_below_drewN | apply below_drew1 | refine below_set ?_ GE209.out | refine below_set ?_ GE210.out | refine below_set ?_ GE248.out) | exact HB.out)⟩⟩
                        · rw [if_neg c180] at H
                          have c180b0 : ((rd t244 x15_3) == (rd l0 x15_3)) = false := beq_eq_false_iff_ne.mpr c180
                          have c180b1 : ((rd t244 x15_3) != (rd l0 x15_3)) = true := bne_iff_ne.mpr c180
                          obtain rfl := Option.some.inj H
                          have p250 : 0 ≤ (x15_3 : Int) := of_decide_eq_true (by first | (with_reducible assumption) | assumption)
                          have q250 : x15_3 < (l0.length : Int) := of_decide_eq_true (by first | (with_reducible assumption) | assumption)
                          obtain ⟨ad250, e250, hx250_0⟩ := Kd.at_int HR0.out x15_3 p250 q250
                          cases e250
                          replace hx250_0 := (HB.out.cell (World.block_lt_of_cell? w _ hx250_0)).trans hx250_0
                          replace p250 := eq_true p250
                          replace q250 := eq_true q250
                          have hnb184 := NB248_209.out
                          have hnc184 := NB209_248.out
                          have hnb185 := NB248_210.out
                          have hnc185 := NB210_248.out
                          have hcz186_0 : wr.cell? ⟨gb248, 0, none⟩ = some (.int .i64 t239) := (blk_cell BK248.out 0).trans rfl
                          have hcz186_1 : wr.cell? ⟨gb248, 1, none⟩ = some (.int .i64 t240) := (blk_cell BK248.out 1).trans rfl
                          have hcz186_2 : wr.cell? ⟨gb248, 2, none⟩ = some (.slice Ao143 t241.length co143) := (blk_cell BK248.out 2).trans rfl
                          have hcz186_3 : wr.cell? ⟨gb248, 3, none⟩ = some (.slice Ao144 t244.length co144) := (blk_cell BK248.out 3).trans rfl
                          have hfz186_0 := blk_frozen BK248.out 0
                          have hfz186_1 := blk_frozen BK248.out 1
                          have hfz186_2 := blk_frozen BK248.out 2
                          have hfz186_3 := blk_frozen BK248.out 3
                          have p254 : 0 ≤ (x15_3 : Int) := of_decide_eq_true (by first | (with_reducible assumption) | assumption)
                          have q254 : x15_3 < (t241.length : Int) := of_decide_eq_true (by first | (with_reducible assumption) | assumption)
                          obtain ⟨ad254, e254, hx254_0⟩ := Kd.at_bool (Kd.R_reads' HO_249002.out).2.2 x15_3 p254 q254
                          (try rw [← Nbq177.out] at hx254_0)
                          cases e254
                          replace p254 := eq_true p254
                          replace q254 := eq_true q254
                          have p255 : 0 ≤ (x15_3 : Int) := of_decide_eq_true (by first | (with_reducible assumption) | assumption)
                          have q255 : x15_3 < (t244.length : Int) := of_decide_eq_true (by first | (with_reducible assumption) | assumption)
                          obtain ⟨ad255, e255, hx255_0⟩ := Kd.at_int (Kd.R_reads' HO_249003.out).2.2 x15_3 p255 q255
                          cases e255
                          replace p255 := eq_true p255
                          replace q255 := eq_true q255
                          go_wp2
                          go_ret
                          exact ⟨by first | rfl | (simp [errW_none, errW_some] <;> rfl) | (simp only [← hji4, ← hji5, ← hji157, ← hji159]; first | rfl | (simp [errW_none, errW_some] <;> rfl)) | (simp [*, errW_none, errW_some] <;> rfl), by repeat (first | (with_reducible first | exact HB.out | apply below_alloc | apply pw_below_drewN | apply below_drew1 | refine below_set ?_ GE209.out | refine below_set ?_ GE210.out | refine below_set ?_ GE248.out) | exact HB.out)⟩
                      · replace c178 := Bool.eq_false_iff.mpr c178
                        subst c178
                        have H1 : (some false) = some r := by rw [if_neg (show ¬ (false = true) by decide)] at H; exact H
                        clear H
                        have H := H1
                        clear H1
                        obtain rfl := Option.some.inj H
                        have p250 : 0 ≤ (x15_3 : Int) := of_decide_eq_true (by first | (with_reducible assumption) | assumption)
                        have q250 : x15_3 < (l0.length : Int) := of_decide_eq_true (by first | (with_reducible assumption) | assumption)
                        obtain ⟨ad250, e250, hx250_0⟩ := Kd.at_int HR0.out x15_3 p250 q250
                        cases e250
                        replace hx250_0 := (HB.out.cell (World.block_lt_of_cell? w _ hx250_0)).trans hx250_0
                        replace p250 := eq_true p250
                        replace q250 := eq_true q250
                        have hnb187 := NB248_209.out
                        have hnc187 := NB209_248.out
                        have hnb188 := NB248_210.out
                        have hnc188 := NB210_248.out
                        have hcz189_0 : wr.cell? ⟨gb248, 0, none⟩ = some (.int .i64 t239) := (blk_cell BK248.out 0).trans rfl
                        have hcz189_1 : wr.cell? ⟨gb248, 1, none⟩ = some (.int .i64 t240) := (blk_cell BK248.out 1).trans rfl
                        have hcz189_2 : wr.cell? ⟨gb248, 2, none⟩ = some (.slice Ao143 t241.length co143) := (blk_cell BK248.out 2).trans rfl
                        have hcz189_3 : wr.cell? ⟨gb248, 3, none⟩ = some (.slice Ao144 t244.length co144) := (blk_cell BK248.out 3).trans rfl
                        have hfz189_0 := blk_frozen BK248.out 0
                        have hfz189_1 := blk_frozen BK248.out 1
                        have hfz189_2 := blk_frozen BK248.out 2
                        have hfz189_3 := blk_frozen BK248.out 3
                        have p254 : 0 ≤ (x15_3 : Int) := of_decide_eq_true (by first | (with_reducible assumption) | assumption)
                        have q254 : x15_3 < (t241.length : Int) := of_decide_eq_true (by first | (with_reducible assumption) | assumption)
                        obtain ⟨ad254, e254, hx254_0⟩ := Kd.at_bool (Kd.R_reads' HO_249002.out).2.2 x15_3 p254 q254
                        (try rw [← Nbq177.out] at hx254_0)
                        cases e254
                        replace p254 := eq_true p254
                        replace q254 := eq_true q254
                        go_wp2
                        go_ret
                        exact ⟨by first | rfl | (simp [errW_none, errW_some] <;> rfl) | (simp only [← hji4, ← hji5, ← hji157, ← hji159]; first | rfl | (simp [errW_none, errW_some] <;> rfl)) | (simp [*, errW_none, errW_some] <;> rfl), by repeat (first | (with_reducible first | exact HB.out | apply below_alloc | apply pw_below_drewN | apply below_drew1 | refine below_set ?_ GE209.out | refine below_set ?_ GE210.out | refine below_set ?_ GE248.out) | exact HB.out)⟩
                  · rw [if_neg c154] at H
                    have c154b0 : decide (x15_3 < ji5) = false := decide_eq_false c154
                    clear c154
                    replace H := Option.bind_eq_some_iff.mp H
                    obtain ⟨t249, A1900, H⟩ := H
                    replace H : (some t249) = some r := H
                    have A190 := Aside0.mk A1900
                    clear A1900
                    obtain rfl := Option.some.inj H
                    go_wp2_with (first | ((with_reducible refine gate_callee (f := 8) rfl ?_); refine goesL_ (some 136) rfl rfl Try.func8 (by kernel_rfl) rfl #[] rfl (by (try simp only [List.map_toArray, List.map_cons, List.map_nil]); first | done | rfl | (simp only [List.length_drop, List.length_take]; rfl)) ?_; (with_reducible refine (debuggerlaw41_awake.calls k3  t249 _ A190.out).mono ?_); rintro e w191 ⟨rfl, hb⟩; refine ⟨_, rfl, ?_⟩; have n0_ := Aside0.mk (Kd.R_below (by (with_reducible repeat (first | apply Kd.R_alloc | apply Kd.R_drewN | apply Kd.R_drew)); exact HO_210002.out) hb); have n1_ := Aside0.mk (Kd.R_below (by (with_reducible repeat (first | apply Kd.R_alloc | apply Kd.R_drewN | apply Kd.R_drew)); exact HO_210003.out) hb); have n2_ := Aside0.mk (Kd.R_below (by (with_reducible repeat (first | apply Kd.R_alloc | apply Kd.R_drewN | apply Kd.R_drew)); exact HO_211002.out) hb); have n3_ := Aside0.mk (Kd.R_below (by (with_reducible repeat (first | apply Kd.R_alloc | apply Kd.R_drewN | apply Kd.R_drew)); exact HO_211003.out) hb); have n4_ := Aside0.mk (Kd.R_below (by (with_reducible repeat (first | apply Kd.R_alloc | apply Kd.R_drewN | apply Kd.R_drew)); exact HO_249002.out) hb); have n5_ := Aside0.mk (Kd.R_below (by (with_reducible repeat (first | apply Kd.R_alloc | apply Kd.R_drewN | apply Kd.R_drew)); exact HO_249003.out) hb); have n6_ := Aside0.mk (blk_below (g := gb209) (o := .cells #[.int .i64 3, .int .i64 0, .slice Ao134 x210002_1.length co134, .slice Ao135 x210003_1.length co135] 25 (0, 0)) (by (with_reducible repeat (first | refine blk_drewN ?_ _ | refine blk_drew ?_ | refine blk_alloc ?_ _)); exact BK209.out) hb); have n7_ := Aside0.mk (blk_below (g := gb210) (o := .cells #[.int .i64 3, .int .i64 0, .slice Ao136 x211002_1.length co136, .slice Ao137 x211003_1.length co137] 25 (0, 0)) (by (with_reducible repeat (first | refine blk_drewN ?_ _ | refine blk_drew ?_ | refine blk_alloc ?_ _)); exact BK210.out) hb); have n8_ := Aside0.mk (blk_below (g := gb248) (o := .cells #[.int .i64 t239, .int .i64 t240, .slice Ao143 t241.length co143, .slice Ao144 t244.length co144] 25 (0, 0)) (by (with_reducible repeat (first | refine blk_drewN ?_ _ | refine blk_drew ?_ | refine blk_alloc ?_ _)); exact BK248.out) hb); have n9_ := Aside0.mk (below_step (by repeat (first | (with_reducible first | exact HB.out | apply below_alloc | apply pw_below_drewN | apply below_drew1 | refine below_set ?_ GE209.out | refine below_set ?_ GE210.out | refine below_set ?_ GE248.out) | exact HB.out)) hb); clear HO_210002; clear HO_210003; clear HO_211002; clear HO_211003; clear HO_249002; clear HO_249003; clear BK209; clear BK210; clear BK248; clear HB; have HO_210002 := n0_; have HO_210003 := n1_; have HO_211002 := n2_; have HO_211003 := n3_; have HO_249002 := n4_; have HO_249003 := n5_; have BK209 := n6_; have BK210 := n7_; have BK248 := n8_; have HB := n9_; clear n0_ n1_ n2_ n3_ n4_ n5_ n6_ n7_ n8_ n9_; (try clear hb); (try clear hb2); (try clear hk); (try clear hi)))
                    go_ret
                    exact ⟨by first | rfl | (simp [errW_none, errW_some] <;> rfl) | (simp only [← hji4, ← hji5]; first | rfl | (simp [errW_none, errW_some] <;> rfl)) | (simp [*, errW_none, errW_some] <;> rfl), by repeat (first | (with_reducible first | exact HB.out | apply below_alloc | apply pw_below_drewN | apply below_drew1 | refine below_set ?_ GE209.out | refine below_set ?_ GE210.out | refine below_set ?_ GE248.out) | exact HB.out)⟩

end Go.Proofs.Ytgikmhpggfmcnaa.PWatchpointWords

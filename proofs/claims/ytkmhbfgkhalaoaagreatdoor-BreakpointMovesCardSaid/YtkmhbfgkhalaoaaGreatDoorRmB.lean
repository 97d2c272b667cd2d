/- A walk through the code of law 40: what a function computes, as a Lean function. No condition but those in its lemmas. -/
import Derived.Test.YtkmhbfgkhalaoaaGreatDoorRmA
namespace Go.Proofs.YtkmhbfgkhalaoaaGreatDoor.PB
open Go.RowKit Go.Proofs.YtkmhbfgkhalaoaaGreatDoorW.PrintWords Go.Proofs.YtkmhbfgkhalaoaaGreatDoorW.PrintLast Go.Proofs.YtkmhbfgkhalaoaaGreatDoorW.PrintMore
attribute [local go_sem] max2_int min2_int max_two min_two max_three min_three max_four min_four   -- for this text's walks alone
set_option linter.unusedVariables false
set_option linter.unusedSimpArgs false
set_option maxHeartbeats 8000000 in
set_option maxRecDepth 100000 in
theorem debuggerref40_Move.calls (k : Nat) (a0 : ByteArray) (a1 : ByteArray) (r : List Int) (w : World) (h : debuggerref40_Move.f k a0 a1 = some r) :
  Calls Tryz.prog 11 #[.string a0, .string a1] w fun e w' => ∃ v0_ : Value, e = .returned (v0_) ∧ Kd.R (Kd.int .i64) 3 w' w.heap.size (fun _ => True) v0_ r ∧ Below w.heap.size w w' := by
 have HB := Aside0.mk (Below.refl w.heap.size w)
 have H : ((debuggerref40_Lines.f k a0).bind fun t173 => ((debuggerref40_Lines.f k a1).bind fun t176 => (if (t173.length : Int) > 400 then (debuggerref40_Move.j0 k t173 t176 true) else (debuggerref40_Move.j0 k t173 t176 (decide ((t176.length : Int) > 400)))))) = some r := h
 clear h
 replace H := Option.bind_eq_some_iff.mp H
 obtain ⟨t173, A30, H⟩ := H
 replace H : ((debuggerref40_Lines.f k a1).bind fun t176 => (if (t173.length : Int) > 400 then (debuggerref40_Move.j0 k t173 t176 true) else (debuggerref40_Move.j0 k t173 t176 (decide ((t176.length : Int) > 400))))) = some r := H
 have A3 := Aside0.mk A30
 clear A30
 replace H := Option.bind_eq_some_iff.mp H
 obtain ⟨t176, A40, H⟩ := H
 replace H : (if (t173.length : Int) > 400 then (debuggerref40_Move.j0 k t173 t176 true) else (debuggerref40_Move.j0 k t173 t176 (decide ((t176.length : Int) > 400)))) = some r := H
 have A4 := Aside0.mk A40
 clear A40
 have HC5 := Aside0.mk H
 clear H
 go_enter Tryz.func11, Tryz.ntmps11
 go_upto_region 2 with (first | ((with_reducible refine gate_callee (f := 16) rfl ?_); refine goesL_ (some 14) rfl rfl Tryz.func16 (by kernel_rfl) rfl #[.string a0] rfl (by (try simp only [List.map_toArray, List.map_cons, List.map_nil]); first | done | rfl | (simp only [List.length_drop, List.length_take]; rfl)) ?_; (with_reducible refine (debuggerref40_Lines.calls k a0 t173 _ A3.out).mono ?_); rintro e w6 ⟨v174, rfl, ho0, hb⟩; refine ⟨_, rfl, ?_⟩; have n0_ := Aside0.mk (Kd.R_lower ho0 (below_size (by repeat (first | (with_reducible first | exact HB.out | apply below_alloc | apply pw_below_drewN | apply below_drew1) | exact HB.out)))); have n1_ := Aside0.mk (below_step (by repeat (first | (with_reducible first | exact HB.out | apply below_alloc | apply pw_below_drewN | apply below_drew1) | exact HB.out)) hb); clear HB; have HO175 := n0_; have HB := n1_; clear n0_ n1_; (try clear hb); (try clear hb2); (try clear hk); (try clear hi); (try clear ho0)) | ((with_reducible refine gate_callee (f := 16) rfl ?_); refine goesL_ (some 16) rfl rfl Tryz.func16 (by kernel_rfl) rfl #[.string a1] rfl (by (try simp only [List.map_toArray, List.map_cons, List.map_nil]); first | done | rfl | (simp only [List.length_drop, List.length_take]; rfl)) ?_; (with_reducible refine (debuggerref40_Lines.calls k a1 t176 _ A4.out).mono ?_); rintro e w7 ⟨v177, rfl, ho0, hb⟩; refine ⟨_, rfl, ?_⟩; have n0_ := Aside0.mk (Kd.R_elder' (by (with_reducible repeat (first | apply Kd.R_alloc | apply Kd.R_drewN | apply Kd.R_drew)); exact HO175.out) (Kd.R_base ho0) hb); have n1_ := Aside0.mk (Kd.R_lower (Kd.R_new' ho0 (Kd.R_lt (by (with_reducible repeat (first | apply Kd.R_alloc | apply Kd.R_drewN | apply Kd.R_drew)); exact HO175.out))) (below_size (by repeat (first | (with_reducible first | exact HB.out | apply below_alloc | apply pw_below_drewN | apply below_drew1) | exact HB.out)))); have n2_ := Aside0.mk (below_step (by repeat (first | (with_reducible first | exact HB.out | apply below_alloc | apply pw_below_drewN | apply below_drew1) | exact HB.out)) hb); clear HO175; clear HB; have HO175 := n0_; have HO178 := n1_; have HB := n2_; clear n0_ n1_ n2_; (try clear hb); (try clear hb2); (try clear hk); (try clear hi); (try clear ho0)))
 (try simp only [Act.put, List.setIfInBounds_toArray, List.set_cons_zero, List.set_cons_succ])
 go_cut [24] (fun v24 wc => ∃ (kq : Nat) (x24_4 : Bool), v24 = .bool x24_4 ∧ Aside0 (debuggerref40_Move.j0 kq t173 t176 x24_4 = some r) ∧ Aside0 (kq ≤ k) ∧ Aside0 (Kd.R Kd.string 9 wc w.heap.size (fun k_ => some k_ ≠ (v177 : Value).ownBlock) v174 t173) ∧ Aside0 (Kd.R Kd.string 9 wc w.heap.size (fun k_ => some k_ ≠ (v174 : Value).ownBlock) v177 t176) ∧ Aside0 (Below w.heap.size w wc))
 case first =>
  have H := HC5.out
  clear HC5
  by_cases c8 : (t173.length : Int) > 400
  ·rw [if_pos c8] at H
   have c8b0 : decide (400 < (t173.length : Int)) = true := decide_eq_true c8
   have c8b1 : decide (400 < t173.length) = true := decide_eq_true (by omega)
   clear c8
   (first | rw [c8b0] | (simp only [i64_w, i32_w]; rw [c8b0]) | skip)
   have H' := Aside0.mk H
   clear H
   obtain ⟨Ao9, co9, eo9⟩ := Kd.R_slice HO175.out
   subst eo9
   go_wp2
   go_meet
   case rel => exact ⟨_, (true), (by first | rfl | (simp; done) | (simp [*]; done)), H', ⟨by first | omega | exact Nat.le_refl _⟩, ⟨by (with_reducible repeat (first | apply Kd.R_alloc | apply Kd.R_drewN | apply Kd.R_drew)); exact Kd.R_mono HO175.out (fun _ hk => hk.2)⟩, ⟨by (with_reducible repeat (first | apply Kd.R_alloc | apply Kd.R_drewN | apply Kd.R_drew)); exact Kd.R_mono HO178.out (fun _ hk => hk.2)⟩, ⟨by repeat (first | (with_reducible first | exact HB.out | apply below_alloc | apply pw_below_drewN | apply below_drew1) | exact HB.out)⟩⟩
  ·rw [if_neg c8] at H
   have c8b0 : decide (400 < (t173.length : Int)) = false := decide_eq_false c8
   have c8b1 : decide (400 < t173.length) = false := decide_eq_false (by omega)
   clear c8
   (first | rw [c8b0] | (simp only [i64_w, i32_w]; rw [c8b0]) | skip)
   have H' := Aside0.mk H
   clear H
   obtain ⟨Ao10, co10, eo10⟩ := Kd.R_slice HO175.out
   subst eo10
   obtain ⟨Ao11, co11, eo11⟩ := Kd.R_slice HO178.out
   subst eo11
   go_wp2
   go_meet
   case rel => exact ⟨_, (decide ((t176.length : Int) > 400)), (by first | rfl | (simp; done) | (simp [*]; done)), H', ⟨by first | omega | exact Nat.le_refl _⟩, ⟨by (with_reducible repeat (first | apply Kd.R_alloc | apply Kd.R_drewN | apply Kd.R_drew)); exact Kd.R_mono HO175.out (fun _ hk => hk.2)⟩, ⟨by (with_reducible repeat (first | apply Kd.R_alloc | apply Kd.R_drewN | apply Kd.R_drew)); exact Kd.R_mono HO178.out (fun _ hk => hk.2)⟩, ⟨by repeat (first | (with_reducible first | exact HB.out | apply below_alloc | apply pw_below_drewN | apply below_drew1) | exact HB.out)⟩⟩
 case rest =>
  clear HC5
  try clear c1
  try clear p2
  try clear c8
  try clear c8b0
  try clear c8b1
  try clear c11
  obtain ⟨kq, x24_4, rfl, HA, HJ4, HO_5, HO_6, HB⟩ := hcut
  cases kq with
  | zero => exact absurd HA.out (by simp [debuggerref40_Move.j0])
  | succ kj4 =>
   have H := HA.out
   clear HA
   simp only [debuggerref40_Move.j0] at H
   by_cases c12 : x24_4 = true
   ·subst c12
    have H1 : (some ([] : List Int)) = some r := by rw [if_pos rfl] at H; exact H
    clear H
    have H := H1
    clear H1
    obtain rfl := Option.some.inj H
    go_wp2
    go_ret
    exact ⟨_, by first | rfl | (simp [errW_none, errW_some] <;> rfl) | (simp [*, errW_none, errW_some] <;> rfl), by first | exact Kd.R_nil _ _ _ _ _ | exact Kd.N_nil _ _ _ _ _ | exact Kd.V_nil _ _ _ _ _ | exact Kd.Q_nil _ _ _ _ _ | exact Kd.S_nil _ _ _ _ _, by repeat (first | (with_reducible first | exact HB.out | apply below_alloc | apply pw_below_drewN | apply below_drew1) | exact HB.out)⟩
   ·replace c12 := Bool.eq_false_iff.mpr c12
    subst c12
    have H1 : (if 0 ≤ (wrap64 ((t173.length : Int) + 1)) then (if (wrap64 ((t173.length : Int) + 1) : Int).toNat ≤ 11728124029610 then ((some (List.replicate (wrap64 ((t173.length : Int) + 1) : Int).toNat [] : List (List Int))).bind fun y179 => (if 0 ≤ (wrap64 ((t176.length : Int) + 1)) then (if (wrap64 ((t176.length : Int) + 1) : Int).toNat ≤ 35184372088832 then (if 0 ≤ (t173.length : Int) then (if (t173.length : Int) < (y179.length : Int) then (debuggerref40_Move.l0 kj4 t173 t176 (y179.set ((t173.length : Int) : Int).toNat (List.replicate (wrap64 ((t176.length : Int) + 1) : Int).toNat 0)) (wrap64 ((t173.length : Int) - 1))) else (none)) else (none)) else (none)) else (none))) else (none)) else (none)) = some r := by rw [if_neg (show ¬ (false = true) by decide)] at H; exact H
    clear H
    have H := H1
    clear H1
    obtain ⟨ji13, hji13⟩ : ∃ j_ : Int, (wrap64 ((t173.length : Int) + 1)) = j_ := ⟨_, rfl⟩
    replace H : (if 0 ≤ (ji13) then (if (ji13 : Int).toNat ≤ 11728124029610 then ((some (List.replicate (ji13 : Int).toNat [] : List (List Int))).bind fun y179 => (if 0 ≤ (wrap64 ((t176.length : Int) + 1)) then (if (wrap64 ((t176.length : Int) + 1) : Int).toNat ≤ 35184372088832 then (if 0 ≤ (t173.length : Int) then (if (t173.length : Int) < (y179.length : Int) then (debuggerref40_Move.l0 kj4 t173 t176 (y179.set ((t173.length : Int) : Int).toNat (List.replicate (wrap64 ((t176.length : Int) + 1) : Int).toNat 0)) (wrap64 ((t173.length : Int) - 1))) else (none)) else (none)) else (none)) else (none))) else (none)) else (none)) = some r := by first | (rw [hji13] at H; exact H) | (simp only [hji13] at H ⊢; exact H)
    have hji13w : (IntKind.i64.wrap ((t173.length : Int) + 1)) = ji13 := (i64_w _).trans hji13
    by_cases c14 : 0 ≤ (ji13)
    rotate_left
    ·rw [if_neg c14] at H
     exact absurd H (by simp)
    rw [if_pos c14] at H
    have c14b0 := eq_true c14
    have c14b1 : decide (0 ≤ (ji13)) = true := decide_eq_true c14
    clear c14
    by_cases c15 : (ji13 : Int).toNat ≤ 11728124029610
    rotate_left
    ·rw [if_neg c15] at H
     exact absurd H (by simp)
    rw [if_pos c15] at H
    have c15b0 := eq_true c15
    have c15b1 : decide ((ji13 : Int).toNat ≤ 11728124029610) = true := decide_eq_true c15
    clear c15
    obtain ⟨y179, hy179⟩ : ∃ y_ : List (List Int), y_ = (List.replicate (ji13 : Int).toNat []) := ⟨_, rfl⟩
    replace H : (if 0 ≤ (wrap64 ((t176.length : Int) + 1)) then (if (wrap64 ((t176.length : Int) + 1) : Int).toNat ≤ 35184372088832 then (if 0 ≤ (t173.length : Int) then (if (t173.length : Int) < (y179.length : Int) then (debuggerref40_Move.l0 kj4 t173 t176 (y179.set ((t173.length : Int) : Int).toNat (List.replicate (wrap64 ((t176.length : Int) + 1) : Int).toNat 0)) (wrap64 ((t173.length : Int) - 1))) else (none)) else (none)) else (none)) else (none)) = some r := by first | (rw [hy179]; with_reducible exact H) | (have H2_ := (Option.bind_some _ _).symm.trans H; rw [hy179]; with_reducible exact H2_) | (have H2_ := (Option.bind_some _ _).symm.trans H; with_reducible exact H2_) | with_reducible exact H | (rw [hy179]; exact H) | exact H
    have Ny179 := Aside0.mk hy179
    clear hy179
    obtain ⟨ji16, hji16⟩ : ∃ j_ : Int, (wrap64 ((t176.length : Int) + 1)) = j_ := ⟨_, rfl⟩
    replace H : (if 0 ≤ (ji16) then (if (ji16 : Int).toNat ≤ 35184372088832 then (if 0 ≤ (t173.length : Int) then (if (t173.length : Int) < (y179.length : Int) then (debuggerref40_Move.l0 kj4 t173 t176 (y179.set ((t173.length : Int) : Int).toNat (List.replicate (ji16 : Int).toNat 0)) (wrap64 ((t173.length : Int) - 1))) else (none)) else (none)) else (none)) else (none)) = some r := by first | (rw [hji16] at H; exact H) | (simp only [hji16] at H ⊢; exact H)
    have hji16w : (IntKind.i64.wrap ((t176.length : Int) + 1)) = ji16 := (i64_w _).trans hji16
    by_cases c17 : 0 ≤ (ji16)
    rotate_left
    ·rw [if_neg c17] at H
     exact absurd H (by simp)
    rw [if_pos c17] at H
    have c17b0 := eq_true c17
    have c17b1 : decide (0 ≤ (ji16)) = true := decide_eq_true c17
    clear c17
    by_cases c18 : (ji16 : Int).toNat ≤ 35184372088832
    rotate_left
    ·rw [if_neg c18] at H
     exact absurd H (by simp)
    rw [if_pos c18] at H
    have c18b0 := eq_true c18
    have c18b1 : decide ((ji16 : Int).toNat ≤ 35184372088832) = true := decide_eq_true c18
    clear c18
    obtain ⟨y182, hy182⟩ : ∃ y_ : List Int, y_ = (List.replicate (ji16 : Int).toNat 0) := ⟨_, rfl⟩
    replace H : (if 0 ≤ (t173.length : Int) then (if (t173.length : Int) < (y179.length : Int) then (debuggerref40_Move.l0 kj4 t173 t176 (y179.set ((t173.length : Int) : Int).toNat y182) (wrap64 ((t173.length : Int) - 1))) else (none)) else (none)) = some r := by first | (rw [hy182]; with_reducible exact H) | (have H2_ := (Option.bind_some _ _).symm.trans H; rw [hy182]; with_reducible exact H2_) | (have H2_ := (Option.bind_some _ _).symm.trans H; with_reducible exact H2_) | with_reducible exact H | (rw [hy182]; exact H) | exact H
    have Ny182 := Aside0.mk hy182
    clear hy182
    by_cases c19 : 0 ≤ (t173.length : Int)
    rotate_left
    ·rw [if_neg c19] at H
     exact absurd H (by simp)
    rw [if_pos c19] at H
    have c19b0 : decide (0 ≤ (t173.length : Int)) = true := decide_eq_true c19
    have c19b1 : decide (0 ≤ t173.length) = true := decide_eq_true (by omega)
    clear c19
    by_cases c20 : (t173.length : Int) < (y179.length : Int)
    rotate_left
    ·rw [if_neg c20] at H
     exact absurd H (by simp)
    rw [if_pos c20] at H
    have c20b0 : decide ((t173.length : Int) < (y179.length : Int)) = true := decide_eq_true c20
    have c20b1 : decide (t173.length < y179.length) = true := decide_eq_true (Int.ofNat_lt.mp c20)
    clear c20
    obtain ⟨y185, hy185⟩ : ∃ y_ : List (List Int), y_ = (y179.set ((t173.length : Int) : Int).toNat y182) := ⟨_, rfl⟩
    replace H : (debuggerref40_Move.l0 kj4 t173 t176 y185 (wrap64 ((t173.length : Int) - 1))) = some r := by first | (rw [hy185]; with_reducible exact H) | (have H2_ := (Option.bind_some _ _).symm.trans H; rw [hy185]; with_reducible exact H2_) | (have H2_ := (Option.bind_some _ _).symm.trans H; with_reducible exact H2_) | with_reducible exact H | (rw [hy185]; exact H) | exact H
    have Ny185 := Aside0.mk hy185
    clear hy185
    have H' := Aside0.mk H
    clear H
    obtain ⟨Ao22, co22, eo22⟩ := Kd.R_slice HO_5.out
    subst eo22
    go_wp2_with (first | ((with_reducible refine gate_dst (N := 28) rfl ?_); (try (refine gate_guard (by rfl) ?_; dsimp only)); refine Kd.S_make (Kd.slice 3 (Kd.int .i64)) _ 22 rfl (N := 28) rfl 74 _ _ rfl ji13 rfl rfl Tryz.underlying74 (.slice none 0 0) 24 info22 rfl (by decide) (by omega) [] (ok := fun _ => True) (okp := fun _ => True) ⟨_, rfl, Kd.R_nil _ _ _ _ _⟩ (fun _ hk => hk) trivial (of_decide_eq_true (by first | (with_reducible assumption) | assumption)) (Nat.le_trans (Nat.mul_le_mul_right _ (of_decide_eq_true (by first | (with_reducible assumption) | assumption) : ji13.toNat ≤ 11728124029610)) (by omega)) (Below.refl _ _) (Nat.le_refl _) ?_; intro v180 w23 ho24 hb hg_ hnew_; clear hg_ hnew_; (first | rw [← Ny179.out] at ho24 | (simp only [Int.reduceToNat] at ho24; rw [← Ny179.out] at ho24)); have n0_ := Aside0.mk (Kd.R_below (by (with_reducible repeat (first | apply Kd.R_alloc | apply Kd.R_drewN | apply Kd.R_drew)); exact HO_5.out) hb); have n1_ := Aside0.mk (Kd.R_below (by (with_reducible repeat (first | apply Kd.R_alloc | apply Kd.R_drewN | apply Kd.R_drew)); exact HO_6.out) hb); have n2_ := Aside0.mk (Kd.S_lower ho24 (below_size (by repeat (first | (with_reducible first | exact HB.out | apply below_alloc | apply pw_below_drewN | apply below_drew1) | exact HB.out)))); have n3_ := Aside0.mk (below_step (by repeat (first | (with_reducible first | exact HB.out | apply below_alloc | apply pw_below_drewN | apply below_drew1) | exact HB.out)) hb); clear HO_5; clear HO_6; clear HB; have HO_5 := n0_; have HO_6 := n1_; have HO181 := n2_; have HB := n3_; clear n0_ n1_ n2_ n3_; clear hb ho24; obtain ⟨Ao25, co25, eo25⟩ := Kd.R_slice HO_6.out; subst eo25) | ((with_reducible refine gate_dst (N := 35) rfl ?_); (try (refine gate_guard (by rfl) ?_; dsimp only)); refine Kd.R_make (Kd.int .i64) _ 3 rfl (N := 35) rfl 22 _ _ rfl ji16 rfl rfl Tryz.underlying22 (.int .i64 0) 8 info3 rfl (by decide) (by omega) 0 (ok := fun _ => True) (okp := fun _ => True) rfl (fun _ hk => hk) trivial (of_decide_eq_true (by first | (with_reducible assumption) | assumption)) (Nat.le_trans (Nat.mul_le_mul_right _ (of_decide_eq_true (by first | (with_reducible assumption) | assumption) : ji16.toNat ≤ 35184372088832)) (by omega)) (Below.refl _ _) (Nat.le_refl _) ?_; intro v183 w26 ho27 hb hg_ hnew_; clear hg_ hnew_; (first | rw [← Ny182.out] at ho27 | (simp only [Int.reduceToNat] at ho27; rw [← Ny182.out] at ho27)); have n0_ := Aside0.mk (Kd.R_below (by (with_reducible repeat (first | apply Kd.R_alloc | apply Kd.R_drewN | apply Kd.R_drew)); exact HO_5.out) hb); have n1_ := Aside0.mk (Kd.R_below (by (with_reducible repeat (first | apply Kd.R_alloc | apply Kd.R_drewN | apply Kd.R_drew)); exact HO_6.out) hb); have n2_ := Aside0.mk (Kd.S_elder' (by (with_reducible repeat (first | apply Kd.S_alloc | apply Kd.S_drewN | apply Kd.S_drew)); exact HO181.out) (Kd.R_base ho27) hb); have n3_ := Aside0.mk (Kd.R_lower ho27 (below_size (by repeat (first | (with_reducible first | exact HB.out | apply below_alloc | apply pw_below_drewN | apply below_drew1) | exact HB.out)))); have n4_ := Aside0.mk (below_step (by repeat (first | (with_reducible first | exact HB.out | apply below_alloc | apply pw_below_drewN | apply below_drew1) | exact HB.out)) hb); clear HO_5; clear HO_6; clear HO181; clear HB; have HO_5 := n0_; have HO_6 := n1_; have HO181 := n2_; have HO184 := n3_; have HB := n4_; clear n0_ n1_ n2_ n3_ n4_; clear hb ho27; have p21 : 0 ≤ ((t173.length : Int) : Int) := of_decide_eq_true (by first | (with_reducible assumption) | assumption); have q21 : ((t173.length : Int) : Int) < ((y179.length : Int) : Int) := of_decide_eq_true (by first | (with_reducible assumption) | assumption); obtain ⟨go21, co21, eo21, gb21, gl21, cl21, HG21⟩ := Kd.S_form HO181.out (by omega); (first | cases eo21 | (injection eo21 with ea_ en_ ec_; (first | subst ea_ | (injection ea_ with ea_; subst ea_)); subst ec_; clear en_)); have GB21 := Aside0.mk gb21; have GG21 := Aside0.mk HG21; clear gb21 gl21 HG21; obtain ⟨_, ce21, hcl21, hM21, hcc21, hfr21, _, _⟩ := Kd.S_elem HO181.out [] ((t173.length : Int) : Int) p21 q21; obtain ⟨ve21_0, rfl, ge21_0⟩ := hM21; have hx21_0 := hcc21 0 _ rfl; have hf21_0 := hfr21 0; (try simp only [show ((Kd.slice 3 (Kd.int .i64))).sz = 1 from rfl, Nat.mul_one, Nat.add_zero] at hx21_0); (try simp only [show ((Kd.slice 3 (Kd.int .i64))).sz = 1 from rfl, Nat.mul_one, Nat.add_zero] at hf21_0); (try clear hcl21); (try clear hcc21); (try clear hfr21); (try clear hM21); replace p21 := eq_true p21; replace q21 := eq_true q21; have n_ := Aside0.mk (Kd.S_mono (ok' := (fun k_ => some k_ ≠ (v183 : Value).ownBlock)) HO181.out (fun k_ hk => hk.2)); clear HO181; have HO181 := n_; clear n_; have HX28 := Aside0.mk (show Kd.S (Kd.slice 3 (Kd.int .i64)) 22 w26 w.heap.size (fun k_ => ((fun _ => True)) k_ ∧ ¬ ((fun k_ => some k_ = (v183 : Value).ownBlock)) k_) (.slice (some ⟨go21, 0, none⟩) y179.length co21) y179 from (by (with_reducible repeat (first | apply Kd.S_alloc | apply Kd.S_drewN | apply Kd.S_drew)); exact Kd.S_mono HO181.out (fun k_ hk => ⟨trivial, fun e_ => hk e_⟩))); obtain ⟨oki28, ce28, hcl28, hM28, hcc28, hfr28, hoki28, hH28⟩ := Kd.S_elem HX28.out [] ((t173.length : Int) : Int) (of_decide_eq_true (by first | (with_reducible assumption) | assumption)) (by have h_ : ((t173.length : Int) : Int) < ((y179.length : Int) : Int) := of_decide_eq_true (by first | (with_reducible assumption) | assumption); first | exact h_ | (have e_ := (Kd.S_reads' HO181.out).1; omega) | simpa using h_); obtain ⟨ve28_0, rfl, ge28_0⟩ := hM28; have HP28 := Kd.S_seg hH28 (of_decide_eq_true (by first | (with_reducible assumption) | assumption)) (by have h_ : ((t173.length : Int) : Int) < ((y179.length : Int) : Int) := of_decide_eq_true (by first | (with_reducible assumption) | assumption); first | exact h_ | (have e_ := (Kd.S_reads' HO181.out).1; omega) | simpa using h_) (seg := [v183]) (j := 0) (show 1 ≤ 1 from by decide) (x' := y182) (Kd.M_row (Kd.R_mono (Kd.R_tight rfl (Kd.R_mono (ok' := fun k_ => ((fun _ => True)) k_ ∧ k_ ≠ go21) (Kd.R_apart' (HO184.out) (Kd.S_typed HO181.out) (by decide)) (fun k_ hk => ⟨trivial, fun e_ => (hk.2) (by rw [e_]; rfl)⟩))) (fun _ h_ => Or.inr (h_)))) (fun _ hk => hk) (fun k_ hk_ => ((Kd.R_mono (ok' := fun k_ => ((fun _ => True)) k_ ∧ k_ ≠ go21) (Kd.R_apart' (HO184.out) (Kd.S_typed HO181.out) (by decide)) (fun k_ hk => ⟨trivial, fun e_ => (hk.2) (by rw [e_]; rfl)⟩))).1 k_ hk_.symm); have hx28_0 := hcc28 0 _ rfl; (try simp only [show ((Kd.slice 3 (Kd.int .i64))).sz = 1 from rfl, Nat.mul_one, Nat.add_zero] at hx28_0); have hf28_0 := hfr28 0; (try simp only [show ((Kd.slice 3 (Kd.int .i64))).sz = 1 from rfl, Nat.mul_one, Nat.add_zero] at hf28_0); (try clear hcl28); (try clear hcc28); (try clear hfr28); (try clear hM28); (try clear hoki28); (try clear hH28); (try simp only [show ((Kd.slice 3 (Kd.int .i64))).sz = 1 from rfl, Nat.mul_one, Nat.add_zero] at HP28)) | ((with_reducible refine gate_store (t := 22) (p := 36) rfl ?_); refine store_event (t := 22) (p := 36) (v := ?vo_w29) (w1 := (w26.setCell ⟨go21, ((t173.length : Int) : Int).toNat, none⟩ (v183))) ?hg ?ho ?hn ?hr ?_; (case ho => rfl); (case hg => rfl); (case hn => rfl); (case hr => (obtain ⟨Ax_, cx_, ex_⟩ := Kd.R_slice HO184.out); subst ex_; (try simp only [Int.toNat_natCast] at hx28_0); (try simp only [Int.toNat_natCast] at hf28_0); first | (go_simp; done) | (go_simp; rfl)); intro w29 hw; have hg : w26.grownBy w29 (some go21) := (by rw [hw]; exact HP28.2); have hp_ : Kd.S (Kd.slice 3 (Kd.int .i64)) 22 w29 w.heap.size (fun _ => True) (.slice (some ⟨go21, 0, none⟩) y179.length co21) y185 := (by rw [hw, Ny185.out]; exact HP28.1); clear HP28; have n0_ := Aside0.mk (Kd.R_over' (v := (.slice (some ⟨go21, 0, none⟩) y179.length co21)) (by (with_reducible repeat (first | apply Kd.R_alloc | apply Kd.R_drewN | apply Kd.R_drew)); exact HO_5.out) (Kd.S_typed HO181.out) (by decide) hg); have n1_ := Aside0.mk (Kd.R_over' (v := (.slice (some ⟨go21, 0, none⟩) y179.length co21)) (by (with_reducible repeat (first | apply Kd.R_alloc | apply Kd.R_drewN | apply Kd.R_drew)); exact HO_6.out) (Kd.S_typed HO181.out) (by decide) hg); have n2_ := Aside0.mk (hp_); have n3_ := Aside0.mk ((by rw [hw]; exact below_set (HB.out) GB21.out : Below w.heap.size w w29)); clear HO_5; clear HO_6; clear HO181; clear HB; clear HO184; have HO_5 := n0_; have HO_6 := n1_; have HO181 := n2_; have HB := n3_; clear n0_ n1_ n2_ n3_; clear hg hw hp_))
    go_loopg [8] kj4 (fun kq v8 w' => ∃ (x7_2 : List (List Int)) (x8_2 : Int), v8 = .int .i64 x8_2 ∧ Aside0 (debuggerref40_Move.l0 kq t173 t176 x7_2 x8_2 = some r) ∧ Aside0 (kq ≤ kj4) ∧ Aside0 (Kd.R Kd.string 9 w' w.heap.size (fun k_ => some k_ ≠ ((.slice Ao25 t176.length co25) : Value).ownBlock) (.slice Ao22 t173.length co22) t173) ∧ Aside0 (Kd.R Kd.string 9 w' w.heap.size (fun k_ => some k_ ≠ ((.slice Ao22 t173.length co22) : Value).ownBlock) (.slice Ao25 t176.length co25) t176) ∧ Aside0 (Kd.S (Kd.slice 3 (Kd.int .i64)) 22 w' w.heap.size (fun _ => True) (.slice (some ⟨go21, 0, none⟩) y179.length co21) x7_2) ∧ Aside0 (Below w.heap.size w w'))
    case atStart => exact ⟨(y185), (wrap64 ((t173.length : Int) - 1)), (by first | rfl | (simp; done) | (simp [*]; done)), H', ⟨Nat.le_refl _⟩, ⟨by (with_reducible repeat (first | apply Kd.R_alloc | apply Kd.R_drewN | apply Kd.R_drew)); exact HO_5.out⟩, ⟨by (with_reducible repeat (first | apply Kd.R_alloc | apply Kd.R_drewN | apply Kd.R_drew)); exact HO_6.out⟩, ⟨by (with_reducible repeat (first | apply Kd.S_alloc | apply Kd.S_drewN | apply Kd.S_drew)); exact HO181.out⟩, ⟨by repeat (first | (with_reducible first | exact HB.out | apply below_alloc | apply pw_below_drewN | apply below_drew1) | exact HB.out)⟩⟩
    case round =>
     clear H'
     try clear c1
     try clear c2
     try clear p2
     try clear q2
     try clear hx2
     try clear hf2
     try clear p6
     try clear c8
     try clear c8b0
     try clear c8b1
     try clear c11
     try clear c12
     try clear c14
     try clear c14b0
     try clear c14b1
     try clear c15
     try clear c15b0
     try clear c15b1
     try clear c16
     try clear c17
     try clear c17b0
     try clear c17b1
     try clear c18
     try clear c18b0
     try clear c18b1
     try clear c19
     try clear c19b0
     try clear c19b1
     try clear c20
     try clear c20b0
     try clear c20b1
     try clear c21
     try clear p21
     try clear q21
     try clear hx21
     try clear hf21
     try clear c28
     try clear hx28
     try clear hf28
     try clear hx21_0
     try clear hx28_0
     try clear p2
     try clear p21
     try clear q21
     obtain ⟨x7_2, x8_2, rfl, HA, HK2, HO_5, HO_6, HO_7, HB⟩ := hrel
     have hl7_2 := (Kd.S_reads' HO_7.out).1
     rw [hl7_2] at HO_7
     (try simp only [hl7_2])
     (try simp only [hl7_2] at HO_5)
     (try simp only [hl7_2] at HO_6)
     cases gk with
     | zero => exact absurd HA.out (by simp [debuggerref40_Move.l0])
     | succ k2 =>
      have H := HA.out
      clear HA
      simp only [debuggerref40_Move.l0] at H
      by_cases c30 : x8_2 ≥ 0
      ·rw [if_pos c30] at H
       have c30b0 : decide (0 ≤ x8_2) = true := decide_eq_true c30
       clear c30
       obtain ⟨ji31, hji31⟩ : ∃ j_ : Int, (wrap64 ((t176.length : Int) + 1)) = j_ := ⟨_, rfl⟩
       replace H : (if 0 ≤ (ji31) then (if (ji31 : Int).toNat ≤ 35184372088832 then (if 0 ≤ x8_2 then (if x8_2 < (x7_2.length : Int) then (debuggerref40_Move.l1 k2 t173 t176 (x7_2.set (x8_2 : Int).toNat (List.replicate (ji31 : Int).toNat 0)) x8_2 (wrap64 ((t176.length : Int) - 1))) else (none)) else (none)) else (none)) else (none)) = some r := by first | (rw [hji31] at H; exact H) | (simp only [hji31] at H ⊢; exact H)
       have hji31w : (IntKind.i64.wrap ((t176.length : Int) + 1)) = ji31 := (i64_w _).trans hji31
       have e39_ : ji31 = ji16 := hji31.symm.trans hji16
       subst e39_
       by_cases c32 : 0 ≤ (ji31)
       rotate_left
       ·rw [if_neg c32] at H
        exact absurd H (by simp)
       rw [if_pos c32] at H
       have c32b0 := eq_true c32
       have c32b1 : decide (0 ≤ (ji31)) = true := decide_eq_true c32
       clear c32
       by_cases c33 : (ji31 : Int).toNat ≤ 35184372088832
       rotate_left
       ·rw [if_neg c33] at H
        exact absurd H (by simp)
       rw [if_pos c33] at H
       have c33b0 := eq_true c33
       have c33b1 : decide ((ji31 : Int).toNat ≤ 35184372088832) = true := decide_eq_true c33
       clear c33
       obtain ⟨y186, hy186⟩ : ∃ y_ : List Int, y_ = (List.replicate (ji31 : Int).toNat 0) := ⟨_, rfl⟩
       replace H : (if 0 ≤ x8_2 then (if x8_2 < (x7_2.length : Int) then (debuggerref40_Move.l1 k2 t173 t176 (x7_2.set (x8_2 : Int).toNat y186) x8_2 (wrap64 ((t176.length : Int) - 1))) else (none)) else (none)) = some r := by first | (rw [hy186]; with_reducible exact H) | (have H2_ := (Option.bind_some _ _).symm.trans H; rw [hy186]; with_reducible exact H2_) | (have H2_ := (Option.bind_some _ _).symm.trans H; with_reducible exact H2_) | with_reducible exact H | (rw [hy186]; exact H) | exact H
       have Ny186 := Aside0.mk hy186
       clear hy186
       by_cases c34 : 0 ≤ x8_2
       rotate_left
       ·rw [if_neg c34] at H
        exact absurd H (by simp)
       rw [if_pos c34] at H
       have c34b0 : decide (0 ≤ x8_2) = true := decide_eq_true c34
       clear c34
       by_cases c35 : x8_2 < (x7_2.length : Int)
       rotate_left
       ·rw [if_neg c35] at H
        exact absurd H (by simp)
       rw [if_pos c35] at H
       have c35b0 : decide (x8_2 < (x7_2.length : Int)) = true := decide_eq_true c35
       clear c35
       obtain ⟨y189, hy189⟩ : ∃ y_ : List (List Int), y_ = (x7_2.set (x8_2 : Int).toNat y186) := ⟨_, rfl⟩
       replace H : (debuggerref40_Move.l1 k2 t173 t176 y189 x8_2 (wrap64 ((t176.length : Int) - 1))) = some r := by first | (rw [hy189]; with_reducible exact H) | (have H2_ := (Option.bind_some _ _).symm.trans H; rw [hy189]; with_reducible exact H2_) | (have H2_ := (Option.bind_some _ _).symm.trans H; with_reducible exact H2_) | with_reducible exact H | (rw [hy189]; exact H) | exact H
       have Ny189 := Aside0.mk hy189
       clear hy189
       have H' := Aside0.mk H
       clear H
       go_wp2_with (first | ((with_reducible refine gate_dst (N := 49) rfl ?_); (try (refine gate_guard (by rfl) ?_; dsimp only)); refine Kd.R_make (Kd.int .i64) _ 3 rfl (N := 49) rfl 22 _ _ rfl ji31 rfl rfl Tryz.underlying22 (.int .i64 0) 8 info3 rfl (by decide) (by omega) 0 (ok := fun _ => True) (okp := fun _ => True) rfl (fun _ hk => hk) trivial (of_decide_eq_true (by first | (with_reducible assumption) | assumption)) (Nat.le_trans (Nat.mul_le_mul_right _ (of_decide_eq_true (by first | (with_reducible assumption) | assumption) : ji31.toNat ≤ 35184372088832)) (by omega)) (Below.refl _ _) (Nat.le_refl _) ?_; intro v187 w37 ho38 hb hg_ hnew_; clear hg_ hnew_; (first | rw [← Ny186.out] at ho38 | (simp only [Int.reduceToNat] at ho38; rw [← Ny186.out] at ho38)); have n0_ := Aside0.mk (Kd.R_below (by (with_reducible repeat (first | apply Kd.R_alloc | apply Kd.R_drewN | apply Kd.R_drew)); exact HO_5.out) hb); have n1_ := Aside0.mk (Kd.R_below (by (with_reducible repeat (first | apply Kd.R_alloc | apply Kd.R_drewN | apply Kd.R_drew)); exact HO_6.out) hb); have n2_ := Aside0.mk (Kd.S_elder' (by (with_reducible repeat (first | apply Kd.S_alloc | apply Kd.S_drewN | apply Kd.S_drew)); exact HO_7.out) (Kd.R_base ho38) hb); have n3_ := Aside0.mk (Kd.R_lower ho38 (below_size (by repeat (first | (with_reducible first | exact HB.out | apply below_alloc | apply pw_below_drewN | apply below_drew1) | exact HB.out)))); have n4_ := Aside0.mk (below_step (by repeat (first | (with_reducible first | exact HB.out | apply below_alloc | apply pw_below_drewN | apply below_drew1) | exact HB.out)) hb); clear HO_5; clear HO_6; clear HO_7; clear HB; have HO_5 := n0_; have HO_6 := n1_; have HO_7 := n2_; have HO188 := n3_; have HB := n4_; clear n0_ n1_ n2_ n3_ n4_; clear hb ho38; have p36 : 0 ≤ (x8_2 : Int) := of_decide_eq_true (by first | (with_reducible assumption) | assumption); have q36 : (x8_2 : Int) < ((x7_2.length : Int) : Int) := of_decide_eq_true (by first | (with_reducible assumption) | assumption); obtain ⟨_, ce36, hcl36, hM36, hcc36, hfr36, _, _⟩ := Kd.S_elem HO_7.out [] (x8_2 : Int) p36 q36; obtain ⟨ve36_0, rfl, ge36_0⟩ := hM36; have hx36_0 := hcc36 0 _ rfl; have hf36_0 := hfr36 0; (try simp only [show ((Kd.slice 3 (Kd.int .i64))).sz = 1 from rfl, Nat.mul_one, Nat.add_zero] at hx36_0); (try simp only [show ((Kd.slice 3 (Kd.int .i64))).sz = 1 from rfl, Nat.mul_one, Nat.add_zero] at hf36_0); (try clear hcl36); (try clear hcc36); (try clear hfr36); (try clear hM36); replace p36 := eq_true p36; replace q36 := eq_true q36; have n_ := Aside0.mk (Kd.S_mono (ok' := (fun k_ => some k_ ≠ (v187 : Value).ownBlock)) HO_7.out (fun k_ hk => hk.2)); clear HO_7; have HO_7 := n_; clear n_; have HX39 := Aside0.mk (show Kd.S (Kd.slice 3 (Kd.int .i64)) 22 w37 w.heap.size (fun k_ => ((fun _ => True)) k_ ∧ ¬ ((fun k_ => some k_ = (v187 : Value).ownBlock)) k_) (.slice (some ⟨go21, 0, none⟩) x7_2.length co21) x7_2 from (by (with_reducible repeat (first | apply Kd.S_alloc | apply Kd.S_drewN | apply Kd.S_drew)); exact Kd.S_mono HO_7.out (fun k_ hk => ⟨trivial, fun e_ => hk e_⟩))); obtain ⟨oki39, ce39, hcl39, hM39, hcc39, hfr39, hoki39, hH39⟩ := Kd.S_elem HX39.out [] (x8_2 : Int) (of_decide_eq_true (by first | (with_reducible assumption) | assumption)) (by have h_ : (x8_2 : Int) < ((x7_2.length : Int) : Int) := of_decide_eq_true (by first | (with_reducible assumption) | assumption); first | exact h_ | (have e_ := (Kd.S_reads' HO_7.out).1; omega) | simpa using h_); obtain ⟨ve39_0, rfl, ge39_0⟩ := hM39; have HP39 := Kd.S_seg hH39 (of_decide_eq_true (by first | (with_reducible assumption) | assumption)) (by have h_ : (x8_2 : Int) < ((x7_2.length : Int) : Int) := of_decide_eq_true (by first | (with_reducible assumption) | assumption); first | exact h_ | (have e_ := (Kd.S_reads' HO_7.out).1; omega) | simpa using h_) (seg := [v187]) (j := 0) (show 1 ≤ 1 from by decide) (x' := y186) (Kd.M_row (Kd.R_mono (Kd.R_tight rfl (Kd.R_mono (ok' := fun k_ => ((fun _ => True)) k_ ∧ k_ ≠ go21) (Kd.R_apart' (HO188.out) (Kd.S_typed HO_7.out) (by decide)) (fun k_ hk => ⟨trivial, fun e_ => (hk.2) (by rw [e_]; rfl)⟩))) (fun _ h_ => Or.inr (h_)))) (fun _ hk => hk) (fun k_ hk_ => ((Kd.R_mono (ok' := fun k_ => ((fun _ => True)) k_ ∧ k_ ≠ go21) (Kd.R_apart' (HO188.out) (Kd.S_typed HO_7.out) (by decide)) (fun k_ hk => ⟨trivial, fun e_ => (hk.2) (by rw [e_]; rfl)⟩))).1 k_ hk_.symm); have hx39_0 := hcc39 0 _ rfl; (try simp only [show ((Kd.slice 3 (Kd.int .i64))).sz = 1 from rfl, Nat.mul_one, Nat.add_zero] at hx39_0); have hf39_0 := hfr39 0; (try simp only [show ((Kd.slice 3 (Kd.int .i64))).sz = 1 from rfl, Nat.mul_one, Nat.add_zero] at hf39_0); (try clear hcl39); (try clear hcc39); (try clear hfr39); (try clear hM39); (try clear hoki39); (try clear hH39); (try simp only [show ((Kd.slice 3 (Kd.int .i64))).sz = 1 from rfl, Nat.mul_one, Nat.add_zero] at HP39)) | ((with_reducible refine gate_store (t := 22) (p := 50) rfl ?_); refine store_event (t := 22) (p := 50) (v := ?vo_w40) (w1 := (w37.setCell ⟨go21, (x8_2 : Int).toNat, none⟩ (v187))) ?hg ?ho ?hn ?hr ?_; (case ho => rfl); (case hg => rfl); (case hn => rfl); (case hr => (obtain ⟨Ax_, cx_, ex_⟩ := Kd.R_slice HO188.out); subst ex_; first | (go_simp; done) | (go_simp; rfl)); intro w40 hw; have hg : w37.grownBy w40 (some go21) := (by rw [hw]; exact HP39.2); have hp_ : Kd.S (Kd.slice 3 (Kd.int .i64)) 22 w40 w.heap.size (fun _ => True) (.slice (some ⟨go21, 0, none⟩) x7_2.length co21) y189 := (by rw [hw, Ny189.out]; exact HP39.1); clear HP39; have n0_ := Aside0.mk (Kd.R_over' (v := (.slice (some ⟨go21, 0, none⟩) x7_2.length co21)) (by (with_reducible repeat (first | apply Kd.R_alloc | apply Kd.R_drewN | apply Kd.R_drew)); exact HO_5.out) (Kd.S_typed HO_7.out) (by decide) hg); have n1_ := Aside0.mk (Kd.R_over' (v := (.slice (some ⟨go21, 0, none⟩) x7_2.length co21)) (by (with_reducible repeat (first | apply Kd.R_alloc | apply Kd.R_drewN | apply Kd.R_drew)); exact HO_6.out) (Kd.S_typed HO_7.out) (by decide) hg); have n2_ := Aside0.mk (hp_); have n3_ := Aside0.mk ((by rw [hw]; exact below_set (HB.out) GB21.out : Below w.heap.size w w40)); clear HO_5; clear HO_6; clear HO_7; clear HB; clear HO188; have HO_5 := n0_; have HO_6 := n1_; have HO_7 := n2_; have HB := n3_; clear n0_ n1_ n2_ n3_; clear hg hw hp_))
       go_loopg [9] k2 (fun kq v9 w' => ∃ (x7_3 : List (List Int)) (x9_3 : Int), v9 = .int .i64 x9_3 ∧ Aside0 (debuggerref40_Move.l1 kq t173 t176 x7_3 x8_2 x9_3 = some r) ∧ Aside0 (kq ≤ k2) ∧ Aside0 (Kd.R Kd.string 9 w' w.heap.size (fun k_ => some k_ ≠ ((.slice Ao25 t176.length co25) : Value).ownBlock) (.slice Ao22 t173.length co22) t173) ∧ Aside0 (Kd.R Kd.string 9 w' w.heap.size (fun k_ => some k_ ≠ ((.slice Ao22 t173.length co22) : Value).ownBlock) (.slice Ao25 t176.length co25) t176) ∧ Aside0 (Kd.S (Kd.slice 3 (Kd.int .i64)) 22 w' w.heap.size (fun _ => True) (.slice (some ⟨go21, 0, none⟩) x7_2.length co21) x7_3) ∧ Aside0 (Below w.heap.size w w'))
       case atStart => exact ⟨(y189), (wrap64 ((t176.length : Int) - 1)), (by first | rfl | (simp; done) | (simp [*]; done)), H', ⟨Nat.le_refl _⟩, ⟨by (try simp only [hl7_2]); (with_reducible repeat (first | apply Kd.R_alloc | apply Kd.R_drewN | apply Kd.R_drew)); exact HO_5.out⟩, ⟨by (try simp only [hl7_2]); (with_reducible repeat (first | apply Kd.R_alloc | apply Kd.R_drewN | apply Kd.R_drew)); exact HO_6.out⟩, ⟨by (try simp only [hl7_2]); (with_reducible repeat (first | apply Kd.S_alloc | apply Kd.S_drewN | apply Kd.S_drew)); exact HO_7.out⟩, ⟨by repeat (first | (with_reducible first | exact HB.out | apply below_alloc | apply pw_below_drewN | apply below_drew1) | exact HB.out)⟩⟩
       case round =>
        clear H'
        try clear c1
        try clear c2
        try clear p2
        try clear q2
        try clear hx2
        try clear hf2
        try clear c3
        try clear p3
        try clear q3
        try clear hx3
        try clear hf3
        try clear p6
        try clear c8
        try clear c8b0
        try clear c8b1
        try clear c11
        try clear c12
        try clear c14
        try clear c14b0
        try clear c14b1
        try clear c15
        try clear c15b0
        try clear c15b1
        try clear c16
        try clear c17
        try clear c17b0
        try clear c17b1
        try clear c18
        try clear c18b0
        try clear c18b1
        try clear c19
        try clear c19b0
        try clear c19b1
        try clear c20
        try clear c20b0
        try clear c20b1
        try clear c21
        try clear p21
        try clear q21
        try clear hx21
        try clear hf21
        try clear c28
        try clear hx28
        try clear hf28
        try clear c30
        try clear c30b0
        try clear c32
        try clear c32b0
        try clear c32b1
        try clear c33
        try clear c33b0
        try clear c33b1
        try clear c34
        try clear c34b0
        try clear c35
        try clear c35b0
        try clear c36
        try clear p36
        try clear q36
        try clear hx36
        try clear hf36
        try clear c39
        try clear hx39
        try clear hf39
        try clear hx21_0
        try clear hx28_0
        try clear hx36_0
        try clear hx39_0
        try clear p2
        try clear p21
        try clear p36
        try clear p6
        try clear q2
        try clear q21
        try clear q36
        obtain ⟨x7_3, x9_3, rfl, HA, HK3, HO_5, HO_6, HO_7, HB⟩ := hrel
        have hl7_3 := (Kd.S_reads' HO_7.out).1
        rw [hl7_3] at HO_7
        (try simp only [hl7_3])
        (try simp only [hl7_3] at HO_5)
        (try simp only [hl7_3] at HO_6)
        cases gk with
        | zero => exact absurd HA.out (by simp [debuggerref40_Move.l1])
        | succ k3 =>
         have H := HA.out
         clear HA
         simp only [debuggerref40_Move.l1] at H
         by_cases c41 : x9_3 ≥ 0
         ·rw [if_pos c41] at H
          have c41b0 : decide (0 ≤ x9_3) = true := decide_eq_true c41
          clear c41
          by_cases c42 : 0 ≤ x8_2
          rotate_left
          ·rw [if_neg c42] at H
           exact absurd H (by simp)
          rw [if_pos c42] at H
          have c42b0 : decide (0 ≤ x8_2) = true := decide_eq_true c42
          clear c42
          by_cases c43 : x8_2 < (x7_3.length : Int)
          rotate_left
          ·rw [if_neg c43] at H
           exact absurd H (by simp)
          rw [if_pos c43] at H
          have c43b0 : decide (x8_2 < (x7_3.length : Int)) = true := decide_eq_true c43
          clear c43
          obtain ⟨ji44, hji44⟩ : ∃ j_ : Int, (wrap64 (x8_2 + 1)) = j_ := ⟨_, rfl⟩
          replace H : (if 0 ≤ (ji44) then (if (ji44) < (x7_3.length : Int) then (if 0 ≤ x9_3 then (if x9_3 < ((rd_L3 x7_3 (ji44)).length : Int) then (if 0 ≤ (wrap64 (x9_3 + 1)) then (if (wrap64 (x9_3 + 1)) < ((rd_L3 x7_3 x8_2).length : Int) then (if x9_3 < ((rd_L3 x7_3 x8_2).length : Int) then ((some (x7_3.set (x8_2 : Int).toNat ((rd_L3 x7_3 x8_2).set (x9_3 : Int).toNat (mx (rd (rd_L3 x7_3 (ji44)) x9_3) (rd (rd_L3 x7_3 x8_2) (wrap64 (x9_3 + 1))))) : List (List Int))).bind fun y197 => (if x8_2 < (t173.length : Int) then (if x9_3 < (t176.length : Int) then (if (rdOf ByteArray.empty t173 x8_2).toList = (rdOf ByteArray.empty t176 x9_3).toList then (if x9_3 < ((rd_L3 y197 x8_2).length : Int) then (if (wrap64 (x9_3 + 1)) < ((rd_L3 y197 (ji44)).length : Int) then (debuggerref40_Move.l1 k3 t173 t176 (y197.set (x8_2 : Int).toNat ((rd_L3 y197 x8_2).set (x9_3 : Int).toNat (mx (rd (rd_L3 y197 x8_2) x9_3) (wrap64 ((rd (rd_L3 y197 (ji44)) (wrap64 (x9_3 + 1))) + 1))))) x8_2 (wrap64 (x9_3 - 1))) else (none)) else (none)) else (debuggerref40_Move.l1 k3 t173 t176 y197 x8_2 (wrap64 (x9_3 - 1)))) else (none)) else (none))) else (none)) else (none)) else (none)) else (none)) else (none)) else (none)) else (none)) = some r := by first | (rw [hji44] at H; exact H) | (simp only [hji44] at H ⊢; exact H)
          have hji44w : (IntKind.i64.wrap (x8_2 + 1)) = ji44 := (i64_w _).trans hji44
          by_cases c45 : 0 ≤ (ji44)
          rotate_left
          ·rw [if_neg c45] at H
           exact absurd H (by simp)
          rw [if_pos c45] at H
          have c45b0 : decide (0 ≤ (ji44)) = true := decide_eq_true c45
          clear c45
          by_cases c46 : (ji44) < (x7_3.length : Int)
          rotate_left
          ·rw [if_neg c46] at H
           exact absurd H (by simp)
          rw [if_pos c46] at H
          have c46b0 : decide ((ji44) < (x7_3.length : Int)) = true := decide_eq_true c46
          clear c46
          by_cases c47 : 0 ≤ x9_3
          rotate_left
          ·rw [if_neg c47] at H
           exact absurd H (by simp)
          rw [if_pos c47] at H
          have c47b0 : decide (0 ≤ x9_3) = true := decide_eq_true c47
          clear c47
          by_cases c48 : x9_3 < ((rd_L3 x7_3 (ji44)).length : Int)
          rotate_left
          ·rw [if_neg c48] at H
           exact absurd H (by simp)
          rw [if_pos c48] at H
          have c48b0 : decide (x9_3 < ((rd_L3 x7_3 (ji44)).length : Int)) = true := decide_eq_true c48
          clear c48
          obtain ⟨ji49, hji49⟩ : ∃ j_ : Int, (wrap64 (x9_3 + 1)) = j_ := ⟨_, rfl⟩
          replace H : (if 0 ≤ (ji49) then (if (ji49) < ((rd_L3 x7_3 x8_2).length : Int) then (if x9_3 < ((rd_L3 x7_3 x8_2).length : Int) then ((some (x7_3.set (x8_2 : Int).toNat ((rd_L3 x7_3 x8_2).set (x9_3 : Int).toNat (mx (rd (rd_L3 x7_3 (ji44)) x9_3) (rd (rd_L3 x7_3 x8_2) (ji49)))) : List (List Int))).bind fun y197 => (if x8_2 < (t173.length : Int) then (if x9_3 < (t176.length : Int) then (if (rdOf ByteArray.empty t173 x8_2).toList = (rdOf ByteArray.empty t176 x9_3).toList then (if x9_3 < ((rd_L3 y197 x8_2).length : Int) then (if (ji49) < ((rd_L3 y197 (ji44)).length : Int) then (debuggerref40_Move.l1 k3 t173 t176 (y197.set (x8_2 : Int).toNat ((rd_L3 y197 x8_2).set (x9_3 : Int).toNat (mx (rd (rd_L3 y197 x8_2) x9_3) (wrap64 ((rd (rd_L3 y197 (ji44)) (ji49)) + 1))))) x8_2 (wrap64 (x9_3 - 1))) else (none)) else (none)) else (debuggerref40_Move.l1 k3 t173 t176 y197 x8_2 (wrap64 (x9_3 - 1)))) else (none)) else (none))) else (none)) else (none)) else (none)) = some r := by first | (rw [hji49] at H; exact H) | (simp only [hji49] at H ⊢; exact H)
          have hji49w : (IntKind.i64.wrap (x9_3 + 1)) = ji49 := (i64_w _).trans hji49
          by_cases c50 : 0 ≤ (ji49)
          rotate_left
          ·rw [if_neg c50] at H
           exact absurd H (by simp)
          rw [if_pos c50] at H
          have c50b0 : decide (0 ≤ (ji49)) = true := decide_eq_true c50
          clear c50
          by_cases c51 : (ji49) < ((rd_L3 x7_3 x8_2).length : Int)
          rotate_left
          ·rw [if_neg c51] at H
           exact absurd H (by simp)
          rw [if_pos c51] at H
          have c51b0 : decide ((ji49) < ((rd_L3 x7_3 x8_2).length : Int)) = true := decide_eq_true c51
          clear c51
          obtain ⟨ji52, hji52⟩ : ∃ j_ : Int, (mx (rd (rd_L3 x7_3 (ji44)) x9_3) (rd (rd_L3 x7_3 x8_2) (ji49))) = j_ := ⟨_, rfl⟩
          replace H : (if x9_3 < ((rd_L3 x7_3 x8_2).length : Int) then ((some (x7_3.set (x8_2 : Int).toNat ((rd_L3 x7_3 x8_2).set (x9_3 : Int).toNat (ji52)) : List (List Int))).bind fun y197 => (if x8_2 < (t173.length : Int) then (if x9_3 < (t176.length : Int) then (if (rdOf ByteArray.empty t173 x8_2).toList = (rdOf ByteArray.empty t176 x9_3).toList then (if x9_3 < ((rd_L3 y197 x8_2).length : Int) then (if (ji49) < ((rd_L3 y197 (ji44)).length : Int) then (debuggerref40_Move.l1 k3 t173 t176 (y197.set (x8_2 : Int).toNat ((rd_L3 y197 x8_2).set (x9_3 : Int).toNat (mx (rd (rd_L3 y197 x8_2) x9_3) (wrap64 ((rd (rd_L3 y197 (ji44)) (ji49)) + 1))))) x8_2 (wrap64 (x9_3 - 1))) else (none)) else (none)) else (debuggerref40_Move.l1 k3 t173 t176 y197 x8_2 (wrap64 (x9_3 - 1)))) else (none)) else (none))) else (none)) = some r := by first | (rw [hji52] at H; exact H) | (simp only [hji52] at H ⊢; exact H)
          have hji52_ : (if (rd (rd_L3 x7_3 (ji44)) x9_3) < (rd (rd_L3 x7_3 x8_2) (ji49)) then (rd (rd_L3 x7_3 x8_2) (ji49)) else (rd (rd_L3 x7_3 (ji44)) x9_3)) = ji52 := hji52
          by_cases c53 : x9_3 < ((rd_L3 x7_3 x8_2).length : Int)
          rotate_left
          ·rw [if_neg c53] at H
           exact absurd H (by simp)
          rw [if_pos c53] at H
          have c53b0 : decide (x9_3 < ((rd_L3 x7_3 x8_2).length : Int)) = true := decide_eq_true c53
          clear c53
          obtain ⟨y195, hy195⟩ : ∃ y_ : List Int, y_ = ((rd_L3 x7_3 x8_2).set (x9_3 : Int).toNat (ji52)) := ⟨_, rfl⟩
          replace H : ((some (x7_3.set (x8_2 : Int).toNat y195 : List (List Int))).bind fun y197 => (if x8_2 < (t173.length : Int) then (if x9_3 < (t176.length : Int) then (if (rdOf ByteArray.empty t173 x8_2).toList = (rdOf ByteArray.empty t176 x9_3).toList then (if x9_3 < ((rd_L3 y197 x8_2).length : Int) then (if (ji49) < ((rd_L3 y197 (ji44)).length : Int) then (debuggerref40_Move.l1 k3 t173 t176 (y197.set (x8_2 : Int).toNat ((rd_L3 y197 x8_2).set (x9_3 : Int).toNat (mx (rd (rd_L3 y197 x8_2) x9_3) (wrap64 ((rd (rd_L3 y197 (ji44)) (ji49)) + 1))))) x8_2 (wrap64 (x9_3 - 1))) else (none)) else (none)) else (debuggerref40_Move.l1 k3 t173 t176 y197 x8_2 (wrap64 (x9_3 - 1)))) else (none)) else (none))) = some r := by first | (rw [hy195]; with_reducible exact H) | (have H2_ := (Option.bind_some _ _).symm.trans H; rw [hy195]; with_reducible exact H2_) | (have H2_ := (Option.bind_some _ _).symm.trans H; with_reducible exact H2_) | with_reducible exact H | (rw [hy195]; exact H) | exact H
          have Ny195 := Aside0.mk hy195
          clear hy195
          obtain ⟨y197, hy197⟩ : ∃ y_ : List (List Int), y_ = (x7_3.set (x8_2 : Int).toNat y195) := ⟨_, rfl⟩
          replace H : (if x8_2 < (t173.length : Int) then (if x9_3 < (t176.length : Int) then (if (rdOf ByteArray.empty t173 x8_2).toList = (rdOf ByteArray.empty t176 x9_3).toList then (if x9_3 < ((rd_L3 y197 x8_2).length : Int) then (if (ji49) < ((rd_L3 y197 (ji44)).length : Int) then (debuggerref40_Move.l1 k3 t173 t176 (y197.set (x8_2 : Int).toNat ((rd_L3 y197 x8_2).set (x9_3 : Int).toNat (mx (rd (rd_L3 y197 x8_2) x9_3) (wrap64 ((rd (rd_L3 y197 (ji44)) (ji49)) + 1))))) x8_2 (wrap64 (x9_3 - 1))) else (none)) else (none)) else (debuggerref40_Move.l1 k3 t173 t176 y197 x8_2 (wrap64 (x9_3 - 1)))) else (none)) else (none)) = some r := by first | (rw [hy197]; with_reducible exact H) | (have H2_ := (Option.bind_some _ _).symm.trans H; rw [hy197]; with_reducible exact H2_) | (have H2_ := (Option.bind_some _ _).symm.trans H; with_reducible exact H2_) | with_reducible exact H | (rw [hy197]; exact H) | exact H
          have Ny197 := Aside0.mk hy197
          clear hy197
          by_cases c55 : x8_2 < (t173.length : Int)
          rotate_left
          ·rw [if_neg c55] at H
           exact absurd H (by simp)
          rw [if_pos c55] at H
          have c55b0 : decide (x8_2 < (t173.length : Int)) = true := decide_eq_true c55
          clear c55
          by_cases c56 : x9_3 < (t176.length : Int)
          rotate_left
          ·rw [if_neg c56] at H
           exact absurd H (by simp)
          rw [if_pos c56] at H
          have c56b0 : decide (x9_3 < (t176.length : Int)) = true := decide_eq_true c56
          clear c56
          by_cases c57 : (rdOf ByteArray.empty t173 x8_2).toList = (rdOf ByteArray.empty t176 x9_3).toList
          ·rw [if_pos c57] at H
           have c57b0 : ((rdOf ByteArray.empty t173 x8_2).toList == (rdOf ByteArray.empty t176 x9_3).toList) = true := beq_iff_eq.mpr c57
           have c57b1 : ((rdOf ByteArray.empty t173 x8_2).toList != (rdOf ByteArray.empty t176 x9_3).toList) = false := bne_eq_false_iff_eq.mpr c57
           clear c57
           by_cases c58 : x9_3 < ((rd_L3 y197 x8_2).length : Int)
           rotate_left
           ·rw [if_neg c58] at H
            exact absurd H (by simp)
           rw [if_pos c58] at H
           have c58b0 : decide (x9_3 < ((rd_L3 y197 x8_2).length : Int)) = true := decide_eq_true c58
           clear c58
           by_cases c59 : (ji49) < ((rd_L3 y197 (ji44)).length : Int)
           rotate_left
           ·rw [if_neg c59] at H
            exact absurd H (by simp)
           rw [if_pos c59] at H
           have c59b0 : decide ((ji49) < ((rd_L3 y197 (ji44)).length : Int)) = true := decide_eq_true c59
           clear c59
           obtain ⟨ji60, hji60⟩ : ∃ j_ : Int, (mx (rd (rd_L3 y197 x8_2) x9_3) (wrap64 ((rd (rd_L3 y197 (ji44)) (ji49)) + 1))) = j_ := ⟨_, rfl⟩
           replace H : (debuggerref40_Move.l1 k3 t173 t176 (y197.set (x8_2 : Int).toNat ((rd_L3 y197 x8_2).set (x9_3 : Int).toNat (ji60))) x8_2 (wrap64 (x9_3 - 1))) = some r := by first | (rw [hji60] at H; exact H) | (simp only [hji60] at H ⊢; exact H)
           have hji60_ : (if (rd (rd_L3 y197 x8_2) x9_3) < (wrap64 ((rd (rd_L3 y197 (ji44)) (ji49)) + 1)) then (wrap64 ((rd (rd_L3 y197 (ji44)) (ji49)) + 1)) else (rd (rd_L3 y197 x8_2) x9_3)) = ji60 := hji60
           obtain ⟨y205, hy205⟩ : ∃ y_ : List Int, y_ = ((rd_L3 y197 x8_2).set (x9_3 : Int).toNat (ji60)) := ⟨_, rfl⟩
           replace H : (debuggerref40_Move.l1 k3 t173 t176 (y197.set (x8_2 : Int).toNat y205) x8_2 (wrap64 (x9_3 - 1))) = some r := by first | (rw [hy205]; with_reducible exact H) | (have H2_ := (Option.bind_some _ _).symm.trans H; rw [hy205]; with_reducible exact H2_) | (have H2_ := (Option.bind_some _ _).symm.trans H; with_reducible exact H2_) | with_reducible exact H | (rw [hy205]; exact H) | exact H
           have Ny205 := Aside0.mk hy205
           clear hy205
           obtain ⟨y207, hy207⟩ : ∃ y_ : List (List Int), y_ = (y197.set (x8_2 : Int).toNat y205) := ⟨_, rfl⟩
           replace H : (debuggerref40_Move.l1 k3 t173 t176 y207 x8_2 (wrap64 (x9_3 - 1))) = some r := by first | (rw [hy207]; with_reducible exact H) | (have H2_ := (Option.bind_some _ _).symm.trans H; rw [hy207]; with_reducible exact H2_) | (have H2_ := (Option.bind_some _ _).symm.trans H; with_reducible exact H2_) | with_reducible exact H | (rw [hy207]; exact H) | exact H
           have Ny207 := Aside0.mk hy207
           clear hy207
           have H' := Aside0.mk H
           clear H
           try go_wp2
           have n0_ := Aside0.mk (Kd.R_drew HO_5.out)
           have n1_ := Aside0.mk (Kd.R_drew HO_6.out)
           have n2_ := Aside0.mk (Kd.S_drew HO_7.out)
           have n3_ := Aside0.mk (below_drew1 HB.out)
           clear HO_5
           clear HO_6
           clear HO_7
           clear HB
           have HO_5 := n0_
           have HO_6 := n1_
           have HO_7 := n2_
           have HB := n3_
           clear n0_ n1_ n2_ n3_
           have p190 : 0 ≤ (x8_2 : Int) := of_decide_eq_true (by first | (with_reducible assumption) | assumption)
           have q190 : x8_2 < (x7_3.length : Int) := of_decide_eq_true (by first | (with_reducible assumption) | assumption)
           obtain ⟨ad190, A190_0, c190_0, e190, hx190_0, hl190_0, hi190_0⟩ := at_L3 (Kd.S_reads' HO_7.out).2.2 x8_2 p190 q190
           obtain rfl : (⟨go21, 0, none⟩ : Addr) = ad190 := (by injection e190)
           obtain ⟨ce190, hce190, hMe190, hcc190⟩ := Kd.S_get HO_7.out [] x8_2 p190 (by first | exact q190 | exact of_decide_eq_true (by first | (with_reducible assumption) | assumption) | (have e_ := (Kd.S_reads' HO_7.out).1; omega))
           obtain ⟨ve190_0, rfl, ge190_0⟩ := hMe190
           have hv190_0 := hcc190 0 _ rfl
           rw [Nat.add_zero, show ((Kd.slice 3 (Kd.int .i64))).sz = 1 from rfl, Nat.mul_one] at hv190_0
           replace hv190_0 := Option.some.inj (hv190_0.symm.trans hx190_0)
           rw [hv190_0] at ge190_0
           have HL190_0 := Aside0.mk (show Kd.R (Kd.int .i64) 3 _ _ _ _ (rd_L3 x7_3 x8_2) from ge190_0)
           clear hv190_0 ge190_0
           have HX190_0 := Aside0.mk hx190_0
           clear hcc190 hce190
           (first | simp only [add_plain] at hx190_0 | simp only [add_at] at hx190_0 | simp only [Addr.add, Nat.zero_add] at hx190_0 | skip)
           have HR190_0 := Aside0.mk hi190_0
           have HC190_0 := Aside0.mk hl190_0
           clear hi190_0 hl190_0
           replace p190 := eq_true p190
           replace q190 := eq_true q190
           have p191 : 0 ≤ ((ji44) : Int) := of_decide_eq_true (by first | (with_reducible assumption) | assumption)
           have q191 : (ji44) < (x7_3.length : Int) := of_decide_eq_true (by first | (with_reducible assumption) | assumption)
           obtain ⟨ad191, A191_0, c191_0, e191, hx191_0, hl191_0, hi191_0⟩ := at_L3 (Kd.S_reads' HO_7.out).2.2 (ji44) p191 q191
           obtain rfl : (⟨go21, 0, none⟩ : Addr) = ad191 := (by injection e191)
           obtain ⟨ce191, hce191, hMe191, hcc191⟩ := Kd.S_get HO_7.out [] (ji44) p191 (by first | exact q191 | exact of_decide_eq_true (by first | (with_reducible assumption) | assumption) | (have e_ := (Kd.S_reads' HO_7.out).1; omega))
           obtain ⟨ve191_0, rfl, ge191_0⟩ := hMe191
           have hv191_0 := hcc191 0 _ rfl
           rw [Nat.add_zero, show ((Kd.slice 3 (Kd.int .i64))).sz = 1 from rfl, Nat.mul_one] at hv191_0
           replace hv191_0 := Option.some.inj (hv191_0.symm.trans hx191_0)
           rw [hv191_0] at ge191_0
           have HL191_0 := Aside0.mk (show Kd.R (Kd.int .i64) 3 _ _ _ _ (rd_L3 x7_3 (ji44)) from ge191_0)
           clear hv191_0 ge191_0
           have HX191_0 := Aside0.mk hx191_0
           clear hcc191 hce191
           (first | simp only [add_plain] at hx191_0 | simp only [add_at] at hx191_0 | simp only [Addr.add, Nat.zero_add] at hx191_0 | skip)
           have HR191_0 := Aside0.mk hi191_0
           have HC191_0 := Aside0.mk hl191_0
           clear hi191_0 hl191_0
           replace p191 := eq_true p191
           replace q191 := eq_true q191
           have p192 : 0 ≤ (x9_3 : Int) := of_decide_eq_true (by first | (with_reducible assumption) | assumption)
           have q192 : x9_3 < ((rd_L3 x7_3 (ji44)).length : Int) := of_decide_eq_true (by first | (with_reducible assumption) | assumption)
           obtain ⟨ad192, e192, hx192_0⟩ := Kd.at_int (by repeat (first | (with_reducible exact HR191_0.out) | (with_reducible refine Kd.C_alloc ?_ _) | (with_reducible refine Kd.C_drewN ?_ _) | (with_reducible refine Kd.C_drew ?_) | exact HR191_0.out)) x9_3 p192 q192
           cases e192
           replace p192 := eq_true p192
           replace q192 := eq_true q192
           have p193 : 0 ≤ (x8_2 : Int) := of_decide_eq_true (by first | (with_reducible assumption) | assumption)
           have q193 : x8_2 < (x7_3.length : Int) := of_decide_eq_true (by first | (with_reducible assumption) | assumption)
           obtain ⟨ad193, A193_0, c193_0, e193, hx193_0, hl193_0, hi193_0⟩ := at_L3 (Kd.S_reads' HO_7.out).2.2 x8_2 p193 q193
           obtain rfl : (⟨go21, 0, none⟩ : Addr) = ad193 := (by injection e193)
           obtain ⟨ce193, hce193, hMe193, hcc193⟩ := Kd.S_get HO_7.out [] x8_2 p193 (by first | exact q193 | exact of_decide_eq_true (by first | (with_reducible assumption) | assumption) | (have e_ := (Kd.S_reads' HO_7.out).1; omega))
           obtain ⟨ve193_0, rfl, ge193_0⟩ := hMe193
           have hv193_0 := hcc193 0 _ rfl
           rw [Nat.add_zero, show ((Kd.slice 3 (Kd.int .i64))).sz = 1 from rfl, Nat.mul_one] at hv193_0
           replace hv193_0 := Option.some.inj (hv193_0.symm.trans hx193_0)
           rw [hv193_0] at ge193_0
           have HL193_0 := Aside0.mk (show Kd.R (Kd.int .i64) 3 _ _ _ _ (rd_L3 x7_3 x8_2) from ge193_0)
           clear hv193_0 ge193_0
           have HX193_0 := Aside0.mk hx193_0
           clear hcc193 hce193
           (first | simp only [add_plain] at hx193_0 | simp only [add_at] at hx193_0 | simp only [Addr.add, Nat.zero_add] at hx193_0 | skip)
           have HR193_0 := Aside0.mk hi193_0
           have HC193_0 := Aside0.mk hl193_0
           clear hi193_0 hl193_0
           replace p193 := eq_true p193
           replace q193 := eq_true q193
           have ea_ := Option.some.inj (hx190_0.symm.trans hx193_0)
           injection ea_ with ea_ en_ ec_
           subst ea_
           subst ec_
           clear en_
           have p194 : 0 ≤ ((ji49) : Int) := of_decide_eq_true (by first | (with_reducible assumption) | assumption)
           have q194 : (ji49) < ((rd_L3 x7_3 x8_2).length : Int) := of_decide_eq_true (by first | (with_reducible assumption) | assumption)
           obtain ⟨ad194, e194, hx194_0⟩ := Kd.at_int (by repeat (first | (with_reducible exact HR193_0.out) | (with_reducible refine Kd.C_alloc ?_ _) | (with_reducible refine Kd.C_drewN ?_ _) | (with_reducible refine Kd.C_drew ?_) | exact HR193_0.out)) (ji49) p194 q194
           cases e194
           replace p194 := eq_true p194
           replace q194 := eq_true q194
           have p54 : 0 ≤ (x9_3 : Int) := of_decide_eq_true (by first | (with_reducible assumption) | assumption)
           have q54 : (x9_3 : Int) < (((rd_L3 x7_3 x8_2).length : Int) : Int) := of_decide_eq_true (by first | (with_reducible assumption) | assumption)
           obtain ⟨go54, co54, eo54, gb54, gl54, cl54, HG54⟩ := Kd.R_form HL190_0.out (by omega)
           (first | cases eo54 | (injection eo54 with ea_ en_ ec_; (first | subst ea_ | (injection ea_ with ea_; subst ea_)); subst ec_; clear en_))
           have GB54 := Aside0.mk gb54
           have GG54 := Aside0.mk HG54
           clear gb54 gl54 HG54
           (first | simp only [add_plain] at hx194_0 | skip)
           obtain ⟨hx54_0, hf54_0⟩ := Kd.R_celln 0 HL190_0.out (x9_3 : Int) p54 q54
           replace p54 := eq_true p54
           replace q54 := eq_true q54
           have hq63 : (x8_2 : Int) < (x7_3.length : Int) := (by have h_ : (x8_2 : Int) < ((x7_3.length : Int) : Int) := of_decide_eq_true (by first | (with_reducible assumption) | assumption); first | exact h_ | (have e_ := (Kd.S_reads' HO_7.out).1; omega) | simpa only [List.length_set, List.length_set] using h_)
           obtain ⟨oki63, ce63, hcl63, hM63, hcc63, hok63, hbk63⟩ := Kd.S_borrow HO_7.out [] (x8_2 : Int) (of_decide_eq_true (by first | (with_reducible assumption) | assumption)) hq63
           obtain ⟨ve63_0, rfl, ge63_0⟩ := hM63
           have hv63 := hcc63 0 _ rfl
           rw [Nat.add_zero, show ((Kd.slice 3 (Kd.int .i64))).sz = 1 from rfl, Nat.mul_one] at hv63
           replace hv63 := Option.some.inj (hv63.symm.trans HX190_0.out)
           subst hv63
           clear hcc63 hcl63
           replace ge63_0 := (show Kd.R (Kd.int .i64) 3 _ _ _ _ (rd_L3 x7_3 x8_2) from ge63_0)
           have HP63 := Kd.R_putg ge63_0 (x9_3 : Int) ji52
           rw [← Ny195.out] at HP63
           have HS63 := hbk63 HP63.2 (fun k_ e_ => by injection e_ with e_; subst e_; exact ge63_0.1 _ rfl) (x' := y195) (Kd.M_row HP63.1)
           rw [← Ny197.out] at HS63
           have HQ63 := Aside0.mk HS63
           clear HP63 HS63 hbk63 hok63
           refine start_ (n := 24) (S := fun w' => w'.cell? ⟨go21, (x8_2).toNat, none⟩ = some (.slice (some ⟨go54, 0, none⟩) (rd_L3 x7_3 x8_2).length c190_0) ∧ w'.cell? ⟨go21, ((ji44)).toNat, none⟩ = some (.slice (some ad192) (rd_L3 x7_3 (ji44)).length c191_0) ∧ w'.cell? (ad192.add (x9_3).toNat) = some (.int .i64 (rd (rd_L3 x7_3 (ji44)) x9_3)) ∧ w'.cell? ⟨go21, (x8_2).toNat, none⟩ = some (.slice (some ⟨go54, 0, none⟩) (rd_L3 x7_3 x8_2).length c190_0) ∧ w'.cell? ⟨go54, ((ji49)).toNat, none⟩ = some (.int .i64 (rd (rd_L3 x7_3 x8_2) (ji49)))) (ds := [23]) #[false,false,false,false,false,false,false,false,false,false,false,false,false,false,false,false,false,false,false,false,false,false,false,false] (by kernel_rfl) rfl rfl ⟨hx190_0, hx191_0, hx192_0, hx193_0, hx194_0⟩ (fun hHeld => ?_); refine with_tabW debuggerref40_Move.tab13 debuggerref40_Move.bits13 (fun HT_ HW_ => ?_)
           generalize wr.drew = w62 at HO_5 HO_6 HO_7 HB GG54 HL190_0 HL191_0 HL193_0 HQ63 HR190_0 HR191_0 HR193_0 HX190_0 HX191_0 HX193_0 hf54_0 hx190_0 hx191_0 hx192_0 hx193_0 hx194_0 hx54_0 hHeld ⊢
           refine pure_ (i := 0) (N := some 58) (v := ?_) (a' := ?_) #[true,false,false,false,false,false,false,false,false,false,false,false,false,false,false,false,false,false,false,false,false,false,false,false] rfl rfl (any_of HT_.out (by kernel_rfl)) (fun _ _ _ h => h) (Or.inl ⟨by rfl, ?_⟩) ?_ ?_
           rotate_left
           ·intro w'
            go_simp
            with_reducible rfl
           rotate_left
           ·simp only [Act.put, List.setIfInBounds_toArray, List.set_cons_zero, List.set_cons_succ, i64_w, i32_w]
            rfl
           refine pure_ (i := 1) (N := some 59) (v := ?_) (a' := ?_) #[true,true,false,false,false,false,false,false,false,false,false,false,false,false,false,false,false,false,false,false,false,false,false,false] rfl rfl (any_of HT_.out (by kernel_rfl)) (fun _ _ _ h => h) (Or.inl ⟨by rfl, ?_⟩) ?_ ?_
           rotate_left
           ·intro w'
            go_simp
            with_reducible rfl
           rotate_left
           ·simp only [Act.put, List.setIfInBounds_toArray, List.set_cons_zero, List.set_cons_succ, i64_w, i32_w]
            rfl
           refine pure_ (i := 2) (N := some 60) (v := ?_) (a' := ?_) #[true,true,true,false,false,false,false,false,false,false,false,false,false,false,false,false,false,false,false,false,false,false,false,false] rfl rfl (any_of HT_.out (by kernel_rfl)) (fun _ _ _ h => h) (Or.inl ⟨by rfl, ?_⟩) ?_ ?_
           rotate_left
           ·intro w'
            go_simp
            with_reducible rfl
           rotate_left
           ·simp only [Act.put, List.setIfInBounds_toArray, List.set_cons_zero, List.set_cons_succ, i64_w, i32_w]
            rfl
           refine pure_ (i := 4) (N := some 62) (v := ?_) (a' := ?_) #[true,true,true,false,true,false,false,false,false,false,false,false,false,false,false,false,false,false,false,false,false,false,false,false] rfl rfl (any_of HT_.out (by kernel_rfl)) (fun _ _ _ h => h) (Or.inl ⟨by rfl, ?_⟩) ?_ ?_
           rotate_left
           ·intro w'
            go_simp
            with_reducible rfl
           rotate_left
           ·simp only [Act.put, List.setIfInBounds_toArray, List.set_cons_zero, List.set_cons_succ, i64_w, i32_w]
            rfl
           refine pure_ (i := 5) (N := some 63) (v := ?_) (a' := ?_) #[true,true,true,false,true,true,false,false,false,false,false,false,false,false,false,false,false,false,false,false,false,false,false,false] rfl rfl (any_of HT_.out (by kernel_rfl)) (fun _ _ _ h => h) (Or.inl ⟨by rfl, ?_⟩) ?_ ?_
           rotate_left
           ·intro w'
            go_simp
            with_reducible rfl
           rotate_left
           ·simp only [Act.put, List.setIfInBounds_toArray, List.set_cons_zero, List.set_cons_succ, i64_w, i32_w]
            rfl
           refine pure_ (i := 6) (N := some 64) (v := ?_) (a' := ?_) #[true,true,true,false,true,true,true,false,false,false,false,false,false,false,false,false,false,false,false,false,false,false,false,false] rfl rfl (any_of HT_.out (by kernel_rfl)) (fun _ _ _ h => h) (Or.inl ⟨by rfl, ?_⟩) ?_ ?_
           rotate_left
           ·intro w'
            go_simp
            with_reducible rfl
           rotate_left
           ·simp only [Act.put, List.setIfInBounds_toArray, List.set_cons_zero, List.set_cons_succ, i64_w, i32_w]
            rfl
           refine pure_ (i := 7) (N := some 65) (v := ?_) (a' := ?_) #[true,true,true,false,true,true,true,true,false,false,false,false,false,false,false,false,false,false,false,false,false,false,false,false] rfl rfl (any_of HT_.out (by kernel_rfl)) (fun _ _ _ h => h) (Or.inl ⟨by rfl, ?_⟩) ?_ ?_
           rotate_left
           ·intro w'
            go_simp
            with_reducible rfl
           rotate_left
           ·simp only [Act.put, List.setIfInBounds_toArray, List.set_cons_zero, List.set_cons_succ, i64_w, i32_w]
            rfl
           refine pure_ (i := 8) (N := some 66) (v := ?_) (a' := ?_) #[true,true,true,false,true,true,true,true,true,false,false,false,false,false,false,false,false,false,false,false,false,false,false,false] rfl rfl (any_of HT_.out (by kernel_rfl)) (fun _ _ _ h => h) (Or.inl ⟨by rfl, ?_⟩) ?_ ?_
           rotate_left
           ·intro w'
            go_simp
            with_reducible rfl
           rotate_left
           ·simp only [Act.put, List.setIfInBounds_toArray, List.set_cons_zero, List.set_cons_succ, i64_w, i32_w]
            rfl
           refine pure_ (i := 10) (N := some 68) (v := ?_) (a' := ?_) #[true,true,true,false,true,true,true,true,true,false,true,false,false,false,false,false,false,false,false,false,false,false,false,false] rfl rfl (any_of HT_.out (by kernel_rfl)) (fun _ _ _ h => h) (Or.inl ⟨by rfl, ?_⟩) ?_ ?_
           rotate_left
           ·intro w'
            go_simp
            with_reducible rfl
           rotate_left
           ·simp only [Act.put, List.setIfInBounds_toArray, List.set_cons_zero, List.set_cons_succ, i64_w, i32_w]
            rfl
           refine pure_ (i := 13) (N := some 71) (v := ?_) (a' := ?_) #[true,true,true,false,true,true,true,true,true,false,true,false,false,true,false,false,false,false,false,false,false,false,false,false] rfl rfl (any_of HT_.out (by kernel_rfl)) (fun _ _ _ h => h) (Or.inl ⟨by rfl, ?_⟩) ?_ ?_
           rotate_left
           ·intro w'
            go_simp
            with_reducible rfl
           rotate_left
           ·simp only [Act.put, List.setIfInBounds_toArray, List.set_cons_zero, List.set_cons_succ, i64_w, i32_w]
            rfl
           refine pure_ (i := 14) (N := some 72) (v := ?_) (a' := ?_) #[true,true,true,false,true,true,true,true,true,false,true,false,false,true,true,false,false,false,false,false,false,false,false,false] rfl rfl (any_of HT_.out (by kernel_rfl)) (fun _ _ _ h => h) (Or.inl ⟨by rfl, ?_⟩) ?_ ?_
           rotate_left
           ·intro w'
            go_simp
            with_reducible rfl
           rotate_left
           ·simp only [Act.put, List.setIfInBounds_toArray, List.set_cons_zero, List.set_cons_succ, i64_w, i32_w]
            rfl
           refine pure_ (i := 15) (N := some 73) (v := ?_) (a' := ?_) #[true,true,true,false,true,true,true,true,true,false,true,false,false,true,true,true,false,false,false,false,false,false,false,false] rfl rfl (any_of HT_.out (by kernel_rfl)) (fun _ _ _ h => h) (Or.inl ⟨by rfl, ?_⟩) ?_ ?_
           rotate_left
           ·intro w'
            go_simp
            with_reducible rfl
           rotate_left
           ·simp only [Act.put, List.setIfInBounds_toArray, List.set_cons_zero, List.set_cons_succ, i64_w, i32_w]
            rfl
           refine pure_ (i := 17) (N := some 75) (v := ?_) (a' := ?_) #[true,true,true,false,true,true,true,true,true,false,true,false,false,true,true,true,false,true,false,false,false,false,false,false] rfl rfl (any_of HT_.out (by kernel_rfl)) (fun _ _ _ h => h) (Or.inl ⟨by rfl, ?_⟩) ?_ ?_
           rotate_left
           ·intro w'
            go_simp
            with_reducible rfl
           rotate_left
           ·simp only [Act.put, List.setIfInBounds_toArray, List.set_cons_zero, List.set_cons_succ, i64_w, i32_w]
            rfl
           refine pure_ (i := 18) (N := some 76) (v := ?_) (a' := ?_) #[true,true,true,false,true,true,true,true,true,false,true,false,false,true,true,true,false,true,true,false,false,false,false,false] rfl rfl (any_of HT_.out (by kernel_rfl)) (fun _ _ _ h => h) (Or.inl ⟨by rfl, ?_⟩) ?_ ?_
           rotate_left
           ·intro w'
            go_simp
            with_reducible rfl
           rotate_left
           ·simp only [Act.put, List.setIfInBounds_toArray, List.set_cons_zero, List.set_cons_succ, i64_w, i32_w]
            rfl
           refine take_ (i := 3) (N := some 61) (v := ?_) (a' := ?_) #[true,true,true,true,true,true,true,true,true,false,true,false,false,true,true,true,false,true,true,false,false,false,false,false] rfl rfl (take_ofW HT_.out HW_.out (by kernel_rfl)) (fun _ _ _ h => h) (Or.inl ⟨by rfl, ?_⟩) hHeld ?_ ?_
           rotate_left
           ·rintro w' ⟨s0, s1, s2, s3, s4⟩
            go_simp
            with_reducible rfl
           rotate_left
           ·simp only [Act.put, List.setIfInBounds_toArray, List.set_cons_zero, List.set_cons_succ, i64_w, i32_w]
            rfl
           refine take_ (i := 9) (N := some 67) (v := ?_) (a' := ?_) #[true,true,true,true,true,true,true,true,true,true,true,false,false,true,true,true,false,true,true,false,false,false,false,false] rfl rfl (take_ofW HT_.out HW_.out (by kernel_rfl)) (fun _ _ _ h => h) (Or.inl ⟨by rfl, ?_⟩) hHeld ?_ ?_
           rotate_left
           ·rintro w' ⟨s0, s1, s2, s3, s4⟩
            go_simp
            with_reducible rfl
           rotate_left
           ·simp only [Act.put, List.setIfInBounds_toArray, List.set_cons_zero, List.set_cons_succ, i64_w, i32_w]
            rfl
           refine pure_ (i := 11) (N := some 69) (v := ?_) (a' := ?_) #[true,true,true,true,true,true,true,true,true,true,true,true,false,true,true,true,false,true,true,false,false,false,false,false] rfl rfl (any_of HT_.out (by kernel_rfl)) (fun _ _ _ h => h) (Or.inl ⟨by rfl, ?_⟩) ?_ ?_
           rotate_left
           ·intro w'
            go_simp
            with_reducible rfl
           rotate_left
           ·simp only [Act.put, List.setIfInBounds_toArray, List.set_cons_zero, List.set_cons_succ, i64_w, i32_w]
            rfl
           refine take_ (i := 12) (N := some 70) (v := ?_) (a' := ?_) #[true,true,true,true,true,true,true,true,true,true,true,true,true,true,true,true,false,true,true,false,false,false,false,false] rfl rfl (take_ofW HT_.out HW_.out (by kernel_rfl)) (fun _ _ _ h => h) (Or.inl ⟨by rfl, ?_⟩) hHeld ?_ ?_
           rotate_left
           ·rintro w' ⟨s0, s1, s2, s3, s4⟩
            go_simp
            with_reducible rfl
           rotate_left
           ·simp only [Act.put, List.setIfInBounds_toArray, List.set_cons_zero, List.set_cons_succ, i64_w, i32_w]
            rfl
           refine take_ (i := 16) (N := some 74) (v := ?_) (a' := ?_) #[true,true,true,true,true,true,true,true,true,true,true,true,true,true,true,true,true,true,true,false,false,false,false,false] rfl rfl (take_ofW HT_.out HW_.out (by kernel_rfl)) (fun _ _ _ h => h) (Or.inl ⟨by rfl, ?_⟩) hHeld ?_ ?_
           rotate_left
           ·rintro w' ⟨s0, s1, s2, s3, s4⟩
            go_simp
            with_reducible rfl
           rotate_left
           ·simp only [Act.put, List.setIfInBounds_toArray, List.set_cons_zero, List.set_cons_succ, i64_w, i32_w]
            rfl
           refine pure_ (i := 19) (N := some 77) (v := ?_) (a' := ?_) #[true,true,true,true,true,true,true,true,true,true,true,true,true,true,true,true,true,true,true,true,false,false,false,false] rfl rfl (any_of HT_.out (by kernel_rfl)) (fun _ _ _ h => h) (Or.inl ⟨by rfl, ?_⟩) ?_ ?_
           rotate_left
           ·intro w'
            go_simp
            with_reducible rfl
           rotate_left
           ·simp only [Act.put, List.setIfInBounds_toArray, List.set_cons_zero, List.set_cons_succ, i64_w, i32_w]
            rfl
           refine take_ (i := 20) (N := some 78) (v := ?_) (a' := ?_) #[true,true,true,true,true,true,true,true,true,true,true,true,true,true,true,true,true,true,true,true,true,false,false,false] rfl rfl (take_ofW HT_.out HW_.out (by kernel_rfl)) (fun _ _ _ h => h) (Or.inl ⟨by rfl, ?_⟩) hHeld ?_ ?_
           rotate_left
           ·rintro w' ⟨s0, s1, s2, s3, s4⟩
            go_simp
            with_reducible rfl
           rotate_left
           ·simp only [Act.put, List.setIfInBounds_toArray, List.set_cons_zero, List.set_cons_succ, i64_w, i32_w]
            rfl
           refine pure_ (i := 21) (N := some 79) (v := ?_) (a' := ?_) #[true,true,true,true,true,true,true,true,true,true,true,true,true,true,true,true,true,true,true,true,true,true,false,false] rfl rfl (any_of HT_.out (by kernel_rfl)) (fun _ _ _ h => h) (Or.inl ⟨by rfl, ?_⟩) ?_ ?_
           rotate_left
           ·intro w'
            go_simp
            with_reducible rfl
           rotate_left
           ·simp only [Act.put, List.setIfInBounds_toArray, List.set_cons_zero, List.set_cons_succ, i64_w, i32_w]
            rfl
           refine pure_ (i := 22) (N := some 80) (v := ?_) (a' := ?_) #[true,true,true,true,true,true,true,true,true,true,true,true,true,true,true,true,true,true,true,true,true,true,true,false] rfl rfl (any_of HT_.out (by kernel_rfl)) (fun _ _ _ h => h) (Or.inl ⟨by rfl, ?_⟩) ?_ ?_
           rotate_left
           ·intro w'
            go_simp
            with_reducible rfl
           rotate_left
           ·simp only [Act.put, List.setIfInBounds_toArray, List.set_cons_zero, List.set_cons_succ, i64_w, i32_w]
            rfl
           refine last_ (i := 23) (N := none) #[true,true,true,true,true,true,true,true,true,true,true,true,true,true,true,true,true,true,true,true,true,true,true,true] rfl rfl (one_of HT_.out (by kernel_rfl)) (by decide) (fun K hK => ?_)
           refine skip_ (w1 := ?_) (by rfl) rfl ?_ ?_
           rotate_left
           ·go_simp
            rfl
           refine hK.out _ _ ?_
           clear hK K
           refine done_ (done_of HT_.out (by kernel_rfl)) ?_
           try go_wp2
           have n0_ : Aside0 (Kd.R Kd.string 9 (w62.setCell ⟨go54, (x9_3 : Int).toNat, none⟩ (.int .i64 ji52)) w.heap.size (fun k_ => some k_ ≠ (.slice Ao25 t176.length co25 : Value).ownBlock) (.slice Ao22 t173.length co22) t173) := ⟨by (with_reducible repeat (first | apply Kd.R_alloc | apply Kd.R_drewN | apply Kd.R_drew)); exact Kd.R_mono (Kd.R_far (p := ⟨go54, (x9_3 : Int).toNat, none⟩) (Kd.R_types HO_5.out GG54.out (by decide)) (fun _ hk => hk.2) (.int .i64 ji52)) (fun _ hk => hk.1)⟩
           have n1_ : Aside0 (Kd.R Kd.string 9 (w62.setCell ⟨go54, (x9_3 : Int).toNat, none⟩ (.int .i64 ji52)) w.heap.size (fun k_ => some k_ ≠ (.slice Ao22 t173.length co22 : Value).ownBlock) (.slice Ao25 t176.length co25) t176) := ⟨by (with_reducible repeat (first | apply Kd.R_alloc | apply Kd.R_drewN | apply Kd.R_drew)); exact Kd.R_mono (Kd.R_far (p := ⟨go54, (x9_3 : Int).toNat, none⟩) (Kd.R_types HO_6.out GG54.out (by decide)) (fun _ hk => hk.2) (.int .i64 ji52)) (fun _ hk => hk.1)⟩
           have n2_ : Aside0 (Kd.S (Kd.slice 3 (Kd.int .i64)) 22 (w62.setCell ⟨go54, (x9_3 : Int).toNat, none⟩ (.int .i64 ji52)) w.heap.size (fun _ => True) (.slice (some ⟨go21, 0, none⟩) x7_3.length co21) y197) := ⟨by (with_reducible repeat (first | apply Kd.S_alloc | apply Kd.S_drewN | apply Kd.S_drew)); exact HQ63.out⟩
           have n3_ : Aside0 (Below w.heap.size w (w62.setCell ⟨go54, (x9_3 : Int).toNat, none⟩ (.int .i64 ji52))) := ⟨by repeat (first | (with_reducible first | exact HB.out | apply below_alloc | apply pw_below_drewN | apply below_drew1 | refine below_set ?_ GB54.out) | exact HB.out)⟩
           (try clear HO_5)
           (try clear HO_6)
           (try clear HO_7)
           (try clear HB)
           generalize (w62.setCell ⟨go54, (x9_3 : Int).toNat, none⟩ (.int .i64 ji52)) = w65 at n0_ n1_ n2_ n3_ ⊢
           have HO_5 := n0_
           have HO_6 := n1_
           have HO_7 := n2_
           have HB := n3_
           clear n0_ n1_ n2_ n3_
           have n0_ := Aside0.mk (Kd.R_drew HO_5.out)
           have n1_ := Aside0.mk (Kd.R_drew HO_6.out)
           have n2_ := Aside0.mk (Kd.S_drew HO_7.out)
           have n3_ := Aside0.mk (below_drew1 HB.out)
           clear HO_5
           clear HO_6
           clear HO_7
           clear HB
           have HO_5 := n0_
           have HO_6 := n1_
           have HO_7 := n2_
           have HB := n3_
           clear n0_ n1_ n2_ n3_
           have p198 : 0 ≤ (x8_2 : Int) := of_decide_eq_true (by first | (with_reducible assumption) | assumption)
           have q198 : x8_2 < (t173.length : Int) := of_decide_eq_true (by first | (with_reducible assumption) | assumption)
           obtain ⟨ad198, e198, hx198_0⟩ := Kd.at_string (Kd.R_reads' HO_5.out).2.2 x8_2 p198 q198
           cases e198
           replace p198 := eq_true p198
           replace q198 := eq_true q198
           have p199 : 0 ≤ (x9_3 : Int) := of_decide_eq_true (by first | (with_reducible assumption) | assumption)
           have q199 : x9_3 < (t176.length : Int) := of_decide_eq_true (by first | (with_reducible assumption) | assumption)
           obtain ⟨ad199, e199, hx199_0⟩ := Kd.at_string (Kd.R_reads' HO_6.out).2.2 x9_3 p199 q199
           cases e199
           replace p199 := eq_true p199
           replace q199 := eq_true q199
           refine start_ (n := 9) (S := fun w' => w'.cell? (ad198.add (x8_2).toNat) = some (.string (rdOf ByteArray.empty t173 x8_2)) ∧ w'.cell? (ad199.add (x9_3).toNat) = some (.string (rdOf ByteArray.empty t176 x9_3))) (ds := []) #[false,false,false,false,false,false,false,false,false] (by kernel_rfl) rfl rfl ⟨hx198_0, hx199_0⟩ (fun hHeld => ?_); refine with_tabW debuggerref40_Move.tab14 debuggerref40_Move.bits14 (fun HT_ HW_ => ?_)
           generalize w65.drew = w66 at HO_5 HO_6 HO_7 HB HQ63 hx198_0 hx199_0 hHeld ⊢
           refine pure_ (i := 0) (N := some 81) (v := ?_) (a' := ?_) #[true,false,false,false,false,false,false,false,false] rfl rfl (any_of HT_.out (by kernel_rfl)) (fun _ _ _ h => h) (Or.inl ⟨by rfl, ?_⟩) ?_ ?_
           rotate_left
           ·intro w'
            go_simp
            with_reducible rfl
           rotate_left
           ·simp only [Act.put, List.setIfInBounds_toArray, List.set_cons_zero, List.set_cons_succ, i64_w, i32_w]
            rfl
           refine pure_ (i := 1) (N := some 82) (v := ?_) (a' := ?_) #[true,true,false,false,false,false,false,false,false] rfl rfl (any_of HT_.out (by kernel_rfl)) (fun _ _ _ h => h) (Or.inl ⟨by rfl, ?_⟩) ?_ ?_
           rotate_left
           ·intro w'
            go_simp
            with_reducible rfl
           rotate_left
           ·simp only [Act.put, List.setIfInBounds_toArray, List.set_cons_zero, List.set_cons_succ, i64_w, i32_w]
            rfl
           refine pure_ (i := 2) (N := some 83) (v := ?_) (a' := ?_) #[true,true,true,false,false,false,false,false,false] rfl rfl (any_of HT_.out (by kernel_rfl)) (fun _ _ _ h => h) (Or.inl ⟨by rfl, ?_⟩) ?_ ?_
           rotate_left
           ·intro w'
            go_simp
            with_reducible rfl
           rotate_left
           ·simp only [Act.put, List.setIfInBounds_toArray, List.set_cons_zero, List.set_cons_succ, i64_w, i32_w]
            rfl
           refine pure_ (i := 4) (N := some 85) (v := ?_) (a' := ?_) #[true,true,true,false,true,false,false,false,false] rfl rfl (any_of HT_.out (by kernel_rfl)) (fun _ _ _ h => h) (Or.inl ⟨by rfl, ?_⟩) ?_ ?_
           rotate_left
           ·intro w'
            go_simp
            with_reducible rfl
           rotate_left
           ·simp only [Act.put, List.setIfInBounds_toArray, List.set_cons_zero, List.set_cons_succ, i64_w, i32_w]
            rfl
           refine pure_ (i := 5) (N := some 86) (v := ?_) (a' := ?_) #[true,true,true,false,true,true,false,false,false] rfl rfl (any_of HT_.out (by kernel_rfl)) (fun _ _ _ h => h) (Or.inl ⟨by rfl, ?_⟩) ?_ ?_
           rotate_left
           ·intro w'
            go_simp
            with_reducible rfl
           rotate_left
           ·simp only [Act.put, List.setIfInBounds_toArray, List.set_cons_zero, List.set_cons_succ, i64_w, i32_w]
            rfl
           refine pure_ (i := 6) (N := some 87) (v := ?_) (a' := ?_) #[true,true,true,false,true,true,true,false,false] rfl rfl (any_of HT_.out (by kernel_rfl)) (fun _ _ _ h => h) (Or.inl ⟨by rfl, ?_⟩) ?_ ?_
           rotate_left
           ·intro w'
            go_simp
            with_reducible rfl
           rotate_left
           ·simp only [Act.put, List.setIfInBounds_toArray, List.set_cons_zero, List.set_cons_succ, i64_w, i32_w]
            rfl
           refine take_ (i := 3) (N := some 84) (v := ?_) (a' := ?_) #[true,true,true,true,true,true,true,false,false] rfl rfl (take_ofW HT_.out HW_.out (by kernel_rfl)) (fun _ _ _ h => h) (Or.inl ⟨by rfl, ?_⟩) hHeld ?_ ?_
           rotate_left
           ·rintro w' ⟨s0, s1⟩
            go_simp
            with_reducible rfl
           rotate_left
           ·simp only [Act.put, List.setIfInBounds_toArray, List.set_cons_zero, List.set_cons_succ, i64_w, i32_w]
            rfl
           refine take_ (i := 7) (N := some 88) (v := ?_) (a' := ?_) #[true,true,true,true,true,true,true,true,false] rfl rfl (take_ofW HT_.out HW_.out (by kernel_rfl)) (fun _ _ _ h => h) (Or.inl ⟨by rfl, ?_⟩) hHeld ?_ ?_
           rotate_left
           ·rintro w' ⟨s0, s1⟩
            go_simp
            with_reducible rfl
           rotate_left
           ·simp only [Act.put, List.setIfInBounds_toArray, List.set_cons_zero, List.set_cons_succ, i64_w, i32_w]
            rfl
           refine pure_ (i := 8) (N := some 89) (v := ?_) (a' := ?_) #[true,true,true,true,true,true,true,true,true] rfl rfl (any_of HT_.out (by kernel_rfl)) (fun _ _ _ h => h) (Or.inl ⟨by rfl, ?_⟩) ?_ ?_
           rotate_left
           ·intro w'
            go_simp
            with_reducible rfl
           rotate_left
           ·simp only [Act.put, List.setIfInBounds_toArray, List.set_cons_zero, List.set_cons_succ, i64_w, i32_w]
            rfl
           refine done_ (done_of HT_.out (by kernel_rfl)) ?_
           try go_wp2
           have n0_ := Aside0.mk (Kd.R_drew HO_5.out)
           have n1_ := Aside0.mk (Kd.R_drew HO_6.out)
           have n2_ := Aside0.mk (Kd.S_drew HO_7.out)
           have n3_ := Aside0.mk (below_drew1 HB.out)
           clear HO_5
           clear HO_6
           clear HO_7
           clear HB
           have HO_5 := n0_
           have HO_6 := n1_
           have HO_7 := n2_
           have HB := n3_
           clear n0_ n1_ n2_ n3_
           have p200 : 0 ≤ (x8_2 : Int) := of_decide_eq_true (by first | (with_reducible assumption) | assumption)
           have q200 : x8_2 < (y197.length : Int) := (by have h_ : (x8_2 : Int) < ((x7_3.length : Int) : Int) := of_decide_eq_true (by first | (with_reducible assumption) | assumption); first | (have e_ := (Kd.S_reads' HO_7.out).1; omega) | simpa only [Ny197.out, List.length_set] using h_)
           have ql200 : ((x8_2 : Int) < ((x7_3.length : Int) : Int)) = True := eq_true (of_decide_eq_true (by first | (with_reducible assumption) | assumption))
           obtain ⟨ad200, A200_0, c200_0, e200, hx200_0, hl200_0, hi200_0⟩ := at_L3 (Kd.S_reads' HO_7.out).2.2 x8_2 p200 q200
           obtain rfl : (⟨go21, 0, none⟩ : Addr) = ad200 := (by injection e200)
           obtain ⟨ce200, hce200, hMe200, hcc200⟩ := Kd.S_get HO_7.out [] x8_2 p200 (by first | exact q200 | exact of_decide_eq_true (by first | (with_reducible assumption) | assumption) | (have e_ := (Kd.S_reads' HO_7.out).1; omega))
           obtain ⟨ve200_0, rfl, ge200_0⟩ := hMe200
           have hv200_0 := hcc200 0 _ rfl
           rw [Nat.add_zero, show ((Kd.slice 3 (Kd.int .i64))).sz = 1 from rfl, Nat.mul_one] at hv200_0
           replace hv200_0 := Option.some.inj (hv200_0.symm.trans hx200_0)
           rw [hv200_0] at ge200_0
           have HL200_0 := Aside0.mk (show Kd.R (Kd.int .i64) 3 _ _ _ _ (rd_L3 y197 x8_2) from ge200_0)
           clear hv200_0 ge200_0
           have HX200_0 := Aside0.mk hx200_0
           clear hcc200 hce200
           (first | simp only [add_plain] at hx200_0 | simp only [add_at] at hx200_0 | simp only [Addr.add, Nat.zero_add] at hx200_0 | skip)
           have HR200_0 := Aside0.mk hi200_0
           have HC200_0 := Aside0.mk hl200_0
           clear hi200_0 hl200_0
           replace p200 := eq_true p200
           replace q200 := eq_true q200
           have p201 : 0 ≤ (x8_2 : Int) := of_decide_eq_true (by first | (with_reducible assumption) | assumption)
           have q201 : x8_2 < (y197.length : Int) := (by have h_ : (x8_2 : Int) < ((x7_3.length : Int) : Int) := of_decide_eq_true (by first | (with_reducible assumption) | assumption); first | (have e_ := (Kd.S_reads' HO_7.out).1; omega) | simpa only [Ny197.out, List.length_set] using h_)
           have ql201 : ((x8_2 : Int) < ((x7_3.length : Int) : Int)) = True := eq_true (of_decide_eq_true (by first | (with_reducible assumption) | assumption))
           obtain ⟨ad201, A201_0, c201_0, e201, hx201_0, hl201_0, hi201_0⟩ := at_L3 (Kd.S_reads' HO_7.out).2.2 x8_2 p201 q201
           obtain rfl : (⟨go21, 0, none⟩ : Addr) = ad201 := (by injection e201)
           obtain ⟨ce201, hce201, hMe201, hcc201⟩ := Kd.S_get HO_7.out [] x8_2 p201 (by first | exact q201 | exact of_decide_eq_true (by first | (with_reducible assumption) | assumption) | (have e_ := (Kd.S_reads' HO_7.out).1; omega))
           obtain ⟨ve201_0, rfl, ge201_0⟩ := hMe201
           have hv201_0 := hcc201 0 _ rfl
           rw [Nat.add_zero, show ((Kd.slice 3 (Kd.int .i64))).sz = 1 from rfl, Nat.mul_one] at hv201_0
           replace hv201_0 := Option.some.inj (hv201_0.symm.trans hx201_0)
           rw [hv201_0] at ge201_0
           have HL201_0 := Aside0.mk (show Kd.R (Kd.int .i64) 3 _ _ _ _ (rd_L3 y197 x8_2) from ge201_0)
           clear hv201_0 ge201_0
           have HX201_0 := Aside0.mk hx201_0
           clear hcc201 hce201
           (first | simp only [add_plain] at hx201_0 | simp only [add_at] at hx201_0 | simp only [Addr.add, Nat.zero_add] at hx201_0 | skip)
           have HR201_0 := Aside0.mk hi201_0
           have HC201_0 := Aside0.mk hl201_0
           clear hi201_0 hl201_0
           replace p201 := eq_true p201
           replace q201 := eq_true q201
           have ea_ := Option.some.inj (hx200_0.symm.trans hx201_0)
           injection ea_ with ea_ en_ ec_
           subst ea_
           subst ec_
           clear en_
           have p202 : 0 ≤ (x9_3 : Int) := of_decide_eq_true (by first | (with_reducible assumption) | assumption)
           have q202 : x9_3 < ((rd_L3 y197 x8_2).length : Int) := of_decide_eq_true (by first | (with_reducible assumption) | assumption)
           obtain ⟨ad202, e202, hx202_0⟩ := Kd.at_int (by repeat (first | (with_reducible exact HR201_0.out) | (with_reducible refine Kd.C_alloc ?_ _) | (with_reducible refine Kd.C_drewN ?_ _) | (with_reducible refine Kd.C_drew ?_) | exact HR201_0.out)) x9_3 p202 q202
           cases e202
           replace p202 := eq_true p202
           replace q202 := eq_true q202
           have p203 : 0 ≤ ((ji44) : Int) := of_decide_eq_true (by first | (with_reducible assumption) | assumption)
           have q203 : (ji44) < (y197.length : Int) := (by have h_ : ((ji44) : Int) < ((x7_3.length : Int) : Int) := of_decide_eq_true (by first | (with_reducible assumption) | assumption); first | (have e_ := (Kd.S_reads' HO_7.out).1; omega) | simpa only [Ny197.out, List.length_set] using h_)
           have ql203 : (((ji44) : Int) < ((x7_3.length : Int) : Int)) = True := eq_true (of_decide_eq_true (by first | (with_reducible assumption) | assumption))
           obtain ⟨ad203, A203_0, c203_0, e203, hx203_0, hl203_0, hi203_0⟩ := at_L3 (Kd.S_reads' HO_7.out).2.2 (ji44) p203 q203
           obtain rfl : (⟨go21, 0, none⟩ : Addr) = ad203 := (by injection e203)
           obtain ⟨ce203, hce203, hMe203, hcc203⟩ := Kd.S_get HO_7.out [] (ji44) p203 (by first | exact q203 | exact of_decide_eq_true (by first | (with_reducible assumption) | assumption) | (have e_ := (Kd.S_reads' HO_7.out).1; omega))
           obtain ⟨ve203_0, rfl, ge203_0⟩ := hMe203
           have hv203_0 := hcc203 0 _ rfl
           rw [Nat.add_zero, show ((Kd.slice 3 (Kd.int .i64))).sz = 1 from rfl, Nat.mul_one] at hv203_0
           replace hv203_0 := Option.some.inj (hv203_0.symm.trans hx203_0)
           rw [hv203_0] at ge203_0
           have HL203_0 := Aside0.mk (show Kd.R (Kd.int .i64) 3 _ _ _ _ (rd_L3 y197 (ji44)) from ge203_0)
           clear hv203_0 ge203_0
           have HX203_0 := Aside0.mk hx203_0
           clear hcc203 hce203
           (first | simp only [add_plain] at hx203_0 | simp only [add_at] at hx203_0 | simp only [Addr.add, Nat.zero_add] at hx203_0 | skip)
           have HR203_0 := Aside0.mk hi203_0
           have HC203_0 := Aside0.mk hl203_0
           clear hi203_0 hl203_0
           replace p203 := eq_true p203
           replace q203 := eq_true q203
           have p204 : 0 ≤ ((ji49) : Int) := of_decide_eq_true (by first | (with_reducible assumption) | assumption)
           have q204 : (ji49) < ((rd_L3 y197 (ji44)).length : Int) := of_decide_eq_true (by first | (with_reducible assumption) | assumption)
           obtain ⟨ad204, e204, hx204_0⟩ := Kd.at_int (by repeat (first | (with_reducible exact HR203_0.out) | (with_reducible refine Kd.C_alloc ?_ _) | (with_reducible refine Kd.C_drewN ?_ _) | (with_reducible refine Kd.C_drew ?_) | exact HR203_0.out)) (ji49) p204 q204
           cases e204
           replace p204 := eq_true p204
           replace q204 := eq_true q204
           have p61 : 0 ≤ (x9_3 : Int) := of_decide_eq_true (by first | (with_reducible assumption) | assumption)
           have q61 : (x9_3 : Int) < (((rd_L3 y197 x8_2).length : Int) : Int) := of_decide_eq_true (by first | (with_reducible assumption) | assumption)
           obtain ⟨go61, co61, eo61, gb61, gl61, cl61, HG61⟩ := Kd.R_form HL200_0.out (by omega)
           (first | cases eo61 | (injection eo61 with ea_ en_ ec_; (first | subst ea_ | (injection ea_ with ea_; subst ea_)); subst ec_; clear en_))
           have GB61 := Aside0.mk gb61
           have GG61 := Aside0.mk HG61
           clear gb61 gl61 HG61
           (first | simp only [add_plain] at hx202_0 | skip)
           obtain ⟨hx61_0, hf61_0⟩ := Kd.R_celln 0 HL200_0.out (x9_3 : Int) p61 q61
           replace p61 := eq_true p61
           replace q61 := eq_true q61
           have hq68 : (x8_2 : Int) < (y197.length : Int) := (by have h_ : (x8_2 : Int) < ((x7_3.length : Int) : Int) := of_decide_eq_true (by first | (with_reducible assumption) | assumption); first | exact h_ | (have e_ := (Kd.S_reads' HO_7.out).1; omega) | simpa only [Ny197.out, List.length_set] using h_)
           obtain ⟨oki68, ce68, hcl68, hM68, hcc68, hok68, hbk68⟩ := Kd.S_borrow HO_7.out [] (x8_2 : Int) (of_decide_eq_true (by first | (with_reducible assumption) | assumption)) (of_decide_eq_true (by first | (with_reducible assumption) | assumption))
           obtain ⟨ve68_0, rfl, ge68_0⟩ := hM68
           have hv68 := hcc68 0 _ rfl
           rw [Nat.add_zero, show ((Kd.slice 3 (Kd.int .i64))).sz = 1 from rfl, Nat.mul_one] at hv68
           replace hv68 := Option.some.inj (hv68.symm.trans HX200_0.out)
           subst hv68
           clear hcc68 hcl68
           replace ge68_0 := (show Kd.R (Kd.int .i64) 3 _ _ _ _ (rd_L3 y197 x8_2) from ge68_0)
           have HP68 := Kd.R_putg ge68_0 (x9_3 : Int) ji60
           rw [← Ny205.out] at HP68
           have HS68 := hbk68 HP68.2 (fun k_ e_ => by injection e_ with e_; subst e_; exact ge68_0.1 _ rfl) (x' := y205) (Kd.M_row HP68.1)
           rw [← Ny207.out] at HS68
           have HQ68 := Aside0.mk HS68
           clear HP68 HS68 hbk68 hok68
           refine start_ (n := 25) (S := fun w' => w'.cell? ⟨go21, (x8_2).toNat, none⟩ = some (.slice (some ⟨go61, 0, none⟩) (rd_L3 y197 x8_2).length c200_0) ∧ w'.cell? ⟨go21, (x8_2).toNat, none⟩ = some (.slice (some ⟨go61, 0, none⟩) (rd_L3 y197 x8_2).length c200_0) ∧ w'.cell? ⟨go61, (x9_3).toNat, none⟩ = some (.int .i64 (rd (rd_L3 y197 x8_2) x9_3)) ∧ w'.cell? ⟨go21, ((ji44)).toNat, none⟩ = some (.slice (some ad204) (rd_L3 y197 (ji44)).length c203_0) ∧ w'.cell? (ad204.add ((ji49)).toNat) = some (.int .i64 (rd (rd_L3 y197 (ji44)) (ji49)))) (ds := [24]) #[false,false,false,false,false,false,false,false,false,false,false,false,false,false,false,false,false,false,false,false,false,false,false,false,false] (by kernel_rfl) rfl rfl ⟨hx200_0, hx201_0, hx202_0, hx203_0, hx204_0⟩ (fun hHeld => ?_); refine with_tabW debuggerref40_Move.tab15 debuggerref40_Move.bits15 (fun HT_ HW_ => ?_)
           generalize w66.drew = w67 at HO_5 HO_6 HO_7 HB GG61 HL200_0 HL201_0 HL203_0 HQ68 HR200_0 HR201_0 HR203_0 HX200_0 HX201_0 HX203_0 hf61_0 hx200_0 hx201_0 hx202_0 hx203_0 hx204_0 hx61_0 hHeld ⊢
           refine pure_ (i := 0) (N := some 90) (v := ?_) (a' := ?_) #[true,false,false,false,false,false,false,false,false,false,false,false,false,false,false,false,false,false,false,false,false,false,false,false,false] rfl rfl (any_of HT_.out (by kernel_rfl)) (fun _ _ _ h => h) (Or.inl ⟨by rfl, ?_⟩) ?_ ?_
           rotate_left
           ·intro w'
            go_simp
            with_reducible rfl
           rotate_left
           ·simp only [Act.put, List.setIfInBounds_toArray, List.set_cons_zero, List.set_cons_succ, i64_w, i32_w]
            rfl
           refine pure_ (i := 1) (N := some 91) (v := ?_) (a' := ?_) #[true,true,false,false,false,false,false,false,false,false,false,false,false,false,false,false,false,false,false,false,false,false,false,false,false] rfl rfl (any_of HT_.out (by kernel_rfl)) (fun _ _ _ h => h) (Or.inl ⟨by rfl, ?_⟩) ?_ ?_
           rotate_left
           ·intro w'
            go_simp
            with_reducible rfl
           rotate_left
           ·simp only [Act.put, List.setIfInBounds_toArray, List.set_cons_zero, List.set_cons_succ, i64_w, i32_w]
            rfl
           refine pure_ (i := 2) (N := some 92) (v := ?_) (a' := ?_) #[true,true,true,false,false,false,false,false,false,false,false,false,false,false,false,false,false,false,false,false,false,false,false,false,false] rfl rfl (any_of HT_.out (by kernel_rfl)) (fun _ _ _ h => h) (Or.inl ⟨by rfl, ?_⟩) ?_ ?_
           rotate_left
           ·intro w'
            go_simp
            with_reducible rfl
           rotate_left
           ·simp only [Act.put, List.setIfInBounds_toArray, List.set_cons_zero, List.set_cons_succ, i64_w, i32_w]
            rfl
           refine pure_ (i := 4) (N := some 94) (v := ?_) (a' := ?_) #[true,true,true,false,true,false,false,false,false,false,false,false,false,false,false,false,false,false,false,false,false,false,false,false,false] rfl rfl (any_of HT_.out (by kernel_rfl)) (fun _ _ _ h => h) (Or.inl ⟨by rfl, ?_⟩) ?_ ?_
           rotate_left
           ·intro w'
            go_simp
            with_reducible rfl
           rotate_left
           ·simp only [Act.put, List.setIfInBounds_toArray, List.set_cons_zero, List.set_cons_succ, i64_w, i32_w]
            rfl
           refine pure_ (i := 5) (N := some 95) (v := ?_) (a' := ?_) #[true,true,true,false,true,true,false,false,false,false,false,false,false,false,false,false,false,false,false,false,false,false,false,false,false] rfl rfl (any_of HT_.out (by kernel_rfl)) (fun _ _ _ h => h) (Or.inl ⟨by rfl, ?_⟩) ?_ ?_
           rotate_left
           ·intro w'
            go_simp
            with_reducible rfl
           rotate_left
           ·simp only [Act.put, List.setIfInBounds_toArray, List.set_cons_zero, List.set_cons_succ, i64_w, i32_w]
            rfl
           refine pure_ (i := 6) (N := some 96) (v := ?_) (a' := ?_) #[true,true,true,false,true,true,true,false,false,false,false,false,false,false,false,false,false,false,false,false,false,false,false,false,false] rfl rfl (any_of HT_.out (by kernel_rfl)) (fun _ _ _ h => h) (Or.inl ⟨by rfl, ?_⟩) ?_ ?_
           rotate_left
           ·intro w'
            go_simp
            with_reducible rfl
           rotate_left
           ·simp only [Act.put, List.setIfInBounds_toArray, List.set_cons_zero, List.set_cons_succ, i64_w, i32_w]
            rfl
           refine pure_ (i := 7) (N := some 97) (v := ?_) (a' := ?_) #[true,true,true,false,true,true,true,true,false,false,false,false,false,false,false,false,false,false,false,false,false,false,false,false,false] rfl rfl (any_of HT_.out (by kernel_rfl)) (fun _ _ _ h => h) (Or.inl ⟨by rfl, ?_⟩) ?_ ?_
           rotate_left
           ·intro w'
            go_simp
            with_reducible rfl
           rotate_left
           ·simp only [Act.put, List.setIfInBounds_toArray, List.set_cons_zero, List.set_cons_succ, i64_w, i32_w]
            rfl
           refine pure_ (i := 9) (N := some 99) (v := ?_) (a' := ?_) #[true,true,true,false,true,true,true,true,false,true,false,false,false,false,false,false,false,false,false,false,false,false,false,false,false] rfl rfl (any_of HT_.out (by kernel_rfl)) (fun _ _ _ h => h) (Or.inl ⟨by rfl, ?_⟩) ?_ ?_
           rotate_left
           ·intro w'
            go_simp
            with_reducible rfl
           rotate_left
           ·simp only [Act.put, List.setIfInBounds_toArray, List.set_cons_zero, List.set_cons_succ, i64_w, i32_w]
            rfl
           refine pure_ (i := 12) (N := some 102) (v := ?_) (a' := ?_) #[true,true,true,false,true,true,true,true,false,true,false,false,true,false,false,false,false,false,false,false,false,false,false,false,false] rfl rfl (any_of HT_.out (by kernel_rfl)) (fun _ _ _ h => h) (Or.inl ⟨by rfl, ?_⟩) ?_ ?_
           rotate_left
           ·intro w'
            go_simp
            with_reducible rfl
           rotate_left
           ·simp only [Act.put, List.setIfInBounds_toArray, List.set_cons_zero, List.set_cons_succ, i64_w, i32_w]
            rfl
           refine pure_ (i := 13) (N := some 103) (v := ?_) (a' := ?_) #[true,true,true,false,true,true,true,true,false,true,false,false,true,true,false,false,false,false,false,false,false,false,false,false,false] rfl rfl (any_of HT_.out (by kernel_rfl)) (fun _ _ _ h => h) (Or.inl ⟨by rfl, ?_⟩) ?_ ?_
           rotate_left
           ·intro w'
            go_simp
            with_reducible rfl
           rotate_left
           ·simp only [Act.put, List.setIfInBounds_toArray, List.set_cons_zero, List.set_cons_succ, i64_w, i32_w]
            rfl
           refine pure_ (i := 14) (N := some 104) (v := ?_) (a' := ?_) #[true,true,true,false,true,true,true,true,false,true,false,false,true,true,true,false,false,false,false,false,false,false,false,false,false] rfl rfl (any_of HT_.out (by kernel_rfl)) (fun _ _ _ h => h) (Or.inl ⟨by rfl, ?_⟩) ?_ ?_
           rotate_left
           ·intro w'
            go_simp
            with_reducible rfl
           rotate_left
           ·simp only [Act.put, List.setIfInBounds_toArray, List.set_cons_zero, List.set_cons_succ, i64_w, i32_w]
            rfl
           refine pure_ (i := 15) (N := some 105) (v := ?_) (a' := ?_) #[true,true,true,false,true,true,true,true,false,true,false,false,true,true,true,true,false,false,false,false,false,false,false,false,false] rfl rfl (any_of HT_.out (by kernel_rfl)) (fun _ _ _ h => h) (Or.inl ⟨by rfl, ?_⟩) ?_ ?_
           rotate_left
           ·intro w'
            go_simp
            with_reducible rfl
           rotate_left
           ·simp only [Act.put, List.setIfInBounds_toArray, List.set_cons_zero, List.set_cons_succ, i64_w, i32_w]
            rfl
           refine pure_ (i := 17) (N := some 107) (v := ?_) (a' := ?_) #[true,true,true,false,true,true,true,true,false,true,false,false,true,true,true,true,false,true,false,false,false,false,false,false,false] rfl rfl (any_of HT_.out (by kernel_rfl)) (fun _ _ _ h => h) (Or.inl ⟨by rfl, ?_⟩) ?_ ?_
           rotate_left
           ·intro w'
            go_simp
            with_reducible rfl
           rotate_left
           ·simp only [Act.put, List.setIfInBounds_toArray, List.set_cons_zero, List.set_cons_succ, i64_w, i32_w]
            rfl
           refine pure_ (i := 18) (N := some 108) (v := ?_) (a' := ?_) #[true,true,true,false,true,true,true,true,false,true,false,false,true,true,true,true,false,true,true,false,false,false,false,false,false] rfl rfl (any_of HT_.out (by kernel_rfl)) (fun _ _ _ h => h) (Or.inl ⟨by rfl, ?_⟩) ?_ ?_
           rotate_left
           ·intro w'
            go_simp
            with_reducible rfl
           rotate_left
           ·simp only [Act.put, List.setIfInBounds_toArray, List.set_cons_zero, List.set_cons_succ, i64_w, i32_w]
            rfl
           refine take_ (i := 3) (N := some 93) (v := ?_) (a' := ?_) #[true,true,true,true,true,true,true,true,false,true,false,false,true,true,true,true,false,true,true,false,false,false,false,false,false] rfl rfl (take_ofW HT_.out HW_.out (by kernel_rfl)) (fun _ _ _ h => h) (Or.inl ⟨by rfl, ?_⟩) hHeld ?_ ?_
           rotate_left
           ·rintro w' ⟨s0, s1, s2, s3, s4⟩
            go_simp
            with_reducible rfl
           rotate_left
           ·simp only [Act.put, List.setIfInBounds_toArray, List.set_cons_zero, List.set_cons_succ, i64_w, i32_w]
            rfl
           refine take_ (i := 8) (N := some 98) (v := ?_) (a' := ?_) #[true,true,true,true,true,true,true,true,true,true,false,false,true,true,true,true,false,true,true,false,false,false,false,false,false] rfl rfl (take_ofW HT_.out HW_.out (by kernel_rfl)) (fun _ _ _ h => h) (Or.inl ⟨by rfl, ?_⟩) hHeld ?_ ?_
           rotate_left
           ·rintro w' ⟨s0, s1, s2, s3, s4⟩
            go_simp
            with_reducible rfl
           rotate_left
           ·simp only [Act.put, List.setIfInBounds_toArray, List.set_cons_zero, List.set_cons_succ, i64_w, i32_w]
            rfl
           refine pure_ (i := 10) (N := some 100) (v := ?_) (a' := ?_) #[true,true,true,true,true,true,true,true,true,true,true,false,true,true,true,true,false,true,true,false,false,false,false,false,false] rfl rfl (any_of HT_.out (by kernel_rfl)) (fun _ _ _ h => h) (Or.inl ⟨by rfl, ?_⟩) ?_ ?_
           rotate_left
           ·intro w'
            go_simp
            with_reducible rfl
           rotate_left
           ·simp only [Act.put, List.setIfInBounds_toArray, List.set_cons_zero, List.set_cons_succ, i64_w, i32_w]
            rfl
           refine take_ (i := 11) (N := some 101) (v := ?_) (a' := ?_) #[true,true,true,true,true,true,true,true,true,true,true,true,true,true,true,true,false,true,true,false,false,false,false,false,false] rfl rfl (take_ofW HT_.out HW_.out (by kernel_rfl)) (fun _ _ _ h => h) (Or.inl ⟨by rfl, ?_⟩) hHeld ?_ ?_
           rotate_left
           ·rintro w' ⟨s0, s1, s2, s3, s4⟩
            go_simp
            with_reducible rfl
           rotate_left
           ·simp only [Act.put, List.setIfInBounds_toArray, List.set_cons_zero, List.set_cons_succ, i64_w, i32_w]
            rfl
           refine take_ (i := 16) (N := some 106) (v := ?_) (a' := ?_) #[true,true,true,true,true,true,true,true,true,true,true,true,true,true,true,true,true,true,true,false,false,false,false,false,false] rfl rfl (take_ofW HT_.out HW_.out (by kernel_rfl)) (fun _ _ _ h => h) (Or.inl ⟨by rfl, ?_⟩) hHeld ?_ ?_
           rotate_left
           ·rintro w' ⟨s0, s1, s2, s3, s4⟩
            go_simp
            with_reducible rfl
           rotate_left
           ·simp only [Act.put, List.setIfInBounds_toArray, List.set_cons_zero, List.set_cons_succ, i64_w, i32_w]
            rfl
           refine pure_ (i := 19) (N := some 109) (v := ?_) (a' := ?_) #[true,true,true,true,true,true,true,true,true,true,true,true,true,true,true,true,true,true,true,true,false,false,false,false,false] rfl rfl (any_of HT_.out (by kernel_rfl)) (fun _ _ _ h => h) (Or.inl ⟨by rfl, ?_⟩) ?_ ?_
           rotate_left
           ·intro w'
            go_simp
            with_reducible rfl
           rotate_left
           ·simp only [Act.put, List.setIfInBounds_toArray, List.set_cons_zero, List.set_cons_succ, i64_w, i32_w]
            rfl
           refine take_ (i := 20) (N := some 110) (v := ?_) (a' := ?_) #[true,true,true,true,true,true,true,true,true,true,true,true,true,true,true,true,true,true,true,true,true,false,false,false,false] rfl rfl (take_ofW HT_.out HW_.out (by kernel_rfl)) (fun _ _ _ h => h) (Or.inl ⟨by rfl, ?_⟩) hHeld ?_ ?_
           rotate_left
           ·rintro w' ⟨s0, s1, s2, s3, s4⟩
            go_simp
            with_reducible rfl
           rotate_left
           ·simp only [Act.put, List.setIfInBounds_toArray, List.set_cons_zero, List.set_cons_succ, i64_w, i32_w]
            rfl
           refine pure_ (i := 21) (N := some 111) (v := ?_) (a' := ?_) #[true,true,true,true,true,true,true,true,true,true,true,true,true,true,true,true,true,true,true,true,true,true,false,false,false] rfl rfl (any_of HT_.out (by kernel_rfl)) (fun _ _ _ h => h) (Or.inl ⟨by rfl, ?_⟩) ?_ ?_
           rotate_left
           ·intro w'
            go_simp
            with_reducible rfl
           rotate_left
           ·simp only [Act.put, List.setIfInBounds_toArray, List.set_cons_zero, List.set_cons_succ, i64_w, i32_w]
            rfl
           refine pure_ (i := 22) (N := some 112) (v := ?_) (a' := ?_) #[true,true,true,true,true,true,true,true,true,true,true,true,true,true,true,true,true,true,true,true,true,true,true,false,false] rfl rfl (any_of HT_.out (by kernel_rfl)) (fun _ _ _ h => h) (Or.inl ⟨by rfl, ?_⟩) ?_ ?_
           rotate_left
           ·intro w'
            go_simp
            with_reducible rfl
           rotate_left
           ·simp only [Act.put, List.setIfInBounds_toArray, List.set_cons_zero, List.set_cons_succ, i64_w, i32_w]
            rfl
           refine pure_ (i := 23) (N := some 113) (v := ?_) (a' := ?_) #[true,true,true,true,true,true,true,true,true,true,true,true,true,true,true,true,true,true,true,true,true,true,true,true,false] rfl rfl (any_of HT_.out (by kernel_rfl)) (fun _ _ _ h => h) (Or.inl ⟨by rfl, ?_⟩) ?_ ?_
           rotate_left
           ·intro w'
            go_simp
            with_reducible rfl
           rotate_left
           ·simp only [Act.put, List.setIfInBounds_toArray, List.set_cons_zero, List.set_cons_succ, i64_w, i32_w]
            rfl
           refine last_ (i := 24) (N := none) #[true,true,true,true,true,true,true,true,true,true,true,true,true,true,true,true,true,true,true,true,true,true,true,true,true] rfl rfl (one_of HT_.out (by kernel_rfl)) (by decide) (fun K hK => ?_)
           refine skip_ (w1 := ?_) (by rfl) rfl ?_ ?_
           rotate_left
           ·go_simp
            rfl
           refine hK.out _ _ ?_
           clear hK K
           refine done_ (done_of HT_.out (by kernel_rfl)) ?_
           try go_wp2
           (try simp only [← hl7_3])
           go_roundg k3
           case measure => have := HJ4.out; have := HK2.out; have := HK3.out; omega
           case rel => exact ⟨(y207), (wrap64 (x9_3 - 1)), (by first | rfl | (simp; done) | (simp [*]; done)), H', ⟨by have := HJ4.out; have := HK2.out; have := HK3.out; omega⟩, ⟨by (try simp only [hl7_2]); (try simp only [hl7_3]); (with_reducible repeat (first | apply Kd.R_alloc | apply Kd.R_drewN | apply Kd.R_drew)); exact Kd.R_mono (Kd.R_far (p := ⟨go61, (x9_3 : Int).toNat, none⟩) (Kd.R_types HO_5.out GG61.out (by decide)) (fun _ hk => hk.2) (.int .i64 ji60)) (fun _ hk => hk.1)⟩, ⟨by (try simp only [hl7_2]); (try simp only [hl7_3]); (with_reducible repeat (first | apply Kd.R_alloc | apply Kd.R_drewN | apply Kd.R_drew)); exact Kd.R_mono (Kd.R_far (p := ⟨go61, (x9_3 : Int).toNat, none⟩) (Kd.R_types HO_6.out GG61.out (by decide)) (fun _ hk => hk.2) (.int .i64 ji60)) (fun _ hk => hk.1)⟩, ⟨by (try simp only [hl7_2]); (try simp only [hl7_3]); (with_reducible repeat (first | apply Kd.S_alloc | apply Kd.S_drewN | apply Kd.S_drew)); exact HQ68.out⟩, ⟨by repeat (first | (with_reducible first | exact HB.out | apply below_alloc | apply pw_below_drewN | apply below_drew1 | refine below_set ?_ GB61.out) | exact HB.out)⟩⟩
          ·rw [if_neg c57] at H
           have c57b0 : ((rdOf ByteArray.empty t173 x8_2).toList == (rdOf ByteArray.empty t176 x9_3).toList) = false := beq_eq_false_iff_ne.mpr c57
           have c57b1 : ((rdOf ByteArray.empty t173 x8_2).toList != (rdOf ByteArray.empty t176 x9_3).toList) = true := bne_iff_ne.mpr c57
           have H' := Aside0.mk H
           clear H
           try go_wp2
           have n0_ := Aside0.mk (Kd.R_drew HO_5.out)
           have n1_ := Aside0.mk (Kd.R_drew HO_6.out)
           have n2_ := Aside0.mk (Kd.S_drew HO_7.out)
           have n3_ := Aside0.mk (below_drew1 HB.out)
           clear HO_5
           clear HO_6
           clear HO_7
           clear HB
           have HO_5 := n0_
           have HO_6 := n1_
           have HO_7 := n2_
           have HB := n3_
           clear n0_ n1_ n2_ n3_
           have p190 : 0 ≤ (x8_2 : Int) := of_decide_eq_true (by first | (with_reducible assumption) | assumption)
           have q190 : x8_2 < (x7_3.length : Int) := of_decide_eq_true (by first | (with_reducible assumption) | assumption)
           obtain ⟨ad190, A190_0, c190_0, e190, hx190_0, hl190_0, hi190_0⟩ := at_L3 (Kd.S_reads' HO_7.out).2.2 x8_2 p190 q190
           obtain rfl : (⟨go21, 0, none⟩ : Addr) = ad190 := (by injection e190)
           obtain ⟨ce190, hce190, hMe190, hcc190⟩ := Kd.S_get HO_7.out [] x8_2 p190 (by first | exact q190 | exact of_decide_eq_true (by first | (with_reducible assumption) | assumption) | (have e_ := (Kd.S_reads' HO_7.out).1; omega))
           obtain ⟨ve190_0, rfl, ge190_0⟩ := hMe190
           have hv190_0 := hcc190 0 _ rfl
           rw [Nat.add_zero, show ((Kd.slice 3 (Kd.int .i64))).sz = 1 from rfl, Nat.mul_one] at hv190_0
           replace hv190_0 := Option.some.inj (hv190_0.symm.trans hx190_0)
           rw [hv190_0] at ge190_0
           have HL190_0 := Aside0.mk (show Kd.R (Kd.int .i64) 3 _ _ _ _ (rd_L3 x7_3 x8_2) from ge190_0)
           clear hv190_0 ge190_0
           have HX190_0 := Aside0.mk hx190_0
           clear hcc190 hce190
           (first | simp only [add_plain] at hx190_0 | simp only [add_at] at hx190_0 | simp only [Addr.add, Nat.zero_add] at hx190_0 | skip)
           have HR190_0 := Aside0.mk hi190_0
           have HC190_0 := Aside0.mk hl190_0
           clear hi190_0 hl190_0
           replace p190 := eq_true p190
           replace q190 := eq_true q190
           have p191 : 0 ≤ ((ji44) : Int) := of_decide_eq_true (by first | (with_reducible assumption) | assumption)
           have q191 : (ji44) < (x7_3.length : Int) := of_decide_eq_true (by first | (with_reducible assumption) | assumption)
           obtain ⟨ad191, A191_0, c191_0, e191, hx191_0, hl191_0, hi191_0⟩ := at_L3 (Kd.S_reads' HO_7.out).2.2 (ji44) p191 q191
           obtain rfl : (⟨go21, 0, none⟩ : Addr) = ad191 := (by injection e191)
           obtain ⟨ce191, hce191, hMe191, hcc191⟩ := Kd.S_get HO_7.out [] (ji44) p191 (by first | exact q191 | exact of_decide_eq_true (by first | (with_reducible assumption) | assumption) | (have e_ := (Kd.S_reads' HO_7.out).1; omega))
           obtain ⟨ve191_0, rfl, ge191_0⟩ := hMe191
           have hv191_0 := hcc191 0 _ rfl
           rw [Nat.add_zero, show ((Kd.slice 3 (Kd.int .i64))).sz = 1 from rfl, Nat.mul_one] at hv191_0
           replace hv191_0 := Option.some.inj (hv191_0.symm.trans hx191_0)
           rw [hv191_0] at ge191_0
           have HL191_0 := Aside0.mk (show Kd.R (Kd.int .i64) 3 _ _ _ _ (rd_L3 x7_3 (ji44)) from ge191_0)
           clear hv191_0 ge191_0
           have HX191_0 := Aside0.mk hx191_0
           clear hcc191 hce191
           (first | simp only [add_plain] at hx191_0 | simp only [add_at] at hx191_0 | simp only [Addr.add, Nat.zero_add] at hx191_0 | skip)
           have HR191_0 := Aside0.mk hi191_0
           have HC191_0 := Aside0.mk hl191_0
           clear hi191_0 hl191_0
           replace p191 := eq_true p191
           replace q191 := eq_true q191
           have p192 : 0 ≤ (x9_3 : Int) := of_decide_eq_true (by first | (with_reducible assumption) | assumption)
           have q192 : x9_3 < ((rd_L3 x7_3 (ji44)).length : Int) := of_decide_eq_true (by first | (with_reducible assumption) | assumption)
           obtain ⟨ad192, e192, hx192_0⟩ := Kd.at_int (by repeat (first | (with_reducible exact HR191_0.out) | (with_reducible refine Kd.C_alloc ?_ _) | (with_reducible refine Kd.C_drewN ?_ _) | (with_reducible refine Kd.C_drew ?_) | exact HR191_0.out)) x9_3 p192 q192
           cases e192
           replace p192 := eq_true p192
           replace q192 := eq_true q192
           have p193 : 0 ≤ (x8_2 : Int) := of_decide_eq_true (by first | (with_reducible assumption) | assumption)
           have q193 : x8_2 < (x7_3.length : Int) := of_decide_eq_true (by first | (with_reducible assumption) | assumption)
           obtain ⟨ad193, A193_0, c193_0, e193, hx193_0, hl193_0, hi193_0⟩ := at_L3 (Kd.S_reads' HO_7.out).2.2 x8_2 p193 q193
           obtain rfl : (⟨go21, 0, none⟩ : Addr) = ad193 := (by injection e193)
           obtain ⟨ce193, hce193, hMe193, hcc193⟩ := Kd.S_get HO_7.out [] x8_2 p193 (by first | exact q193 | exact of_decide_eq_true (by first | (with_reducible assumption) | assumption) | (have e_ := (Kd.S_reads' HO_7.out).1; omega))
           obtain ⟨ve193_0, rfl, ge193_0⟩ := hMe193
           have hv193_0 := hcc193 0 _ rfl
           rw [Nat.add_zero, show ((Kd.slice 3 (Kd.int .i64))).sz = 1 from rfl, Nat.mul_one] at hv193_0
           replace hv193_0 := Option.some.inj (hv193_0.symm.trans hx193_0)
           rw [hv193_0] at ge193_0
           have HL193_0 := Aside0.mk (show Kd.R (Kd.int .i64) 3 _ _ _ _ (rd_L3 x7_3 x8_2) from ge193_0)
           clear hv193_0 ge193_0
           have HX193_0 := Aside0.mk hx193_0
           clear hcc193 hce193
           (first | simp only [add_plain] at hx193_0 | simp only [add_at] at hx193_0 | simp only [Addr.add, Nat.zero_add] at hx193_0 | skip)
           have HR193_0 := Aside0.mk hi193_0
           have HC193_0 := Aside0.mk hl193_0
           clear hi193_0 hl193_0
           replace p193 := eq_true p193
           replace q193 := eq_true q193
           have ea_ := Option.some.inj (hx190_0.symm.trans hx193_0)
           injection ea_ with ea_ en_ ec_
           subst ea_
           subst ec_
           clear en_
           have p194 : 0 ≤ ((ji49) : Int) := of_decide_eq_true (by first | (with_reducible assumption) | assumption)
           have q194 : (ji49) < ((rd_L3 x7_3 x8_2).length : Int) := of_decide_eq_true (by first | (with_reducible assumption) | assumption)
           obtain ⟨ad194, e194, hx194_0⟩ := Kd.at_int (by repeat (first | (with_reducible exact HR193_0.out) | (with_reducible refine Kd.C_alloc ?_ _) | (with_reducible refine Kd.C_drewN ?_ _) | (with_reducible refine Kd.C_drew ?_) | exact HR193_0.out)) (ji49) p194 q194
           cases e194
           replace p194 := eq_true p194
           replace q194 := eq_true q194
           have p54 : 0 ≤ (x9_3 : Int) := of_decide_eq_true (by first | (with_reducible assumption) | assumption)
           have q54 : (x9_3 : Int) < (((rd_L3 x7_3 x8_2).length : Int) : Int) := of_decide_eq_true (by first | (with_reducible assumption) | assumption)
           obtain ⟨go54, co54, eo54, gb54, gl54, cl54, HG54⟩ := Kd.R_form HL190_0.out (by omega)
           (first | cases eo54 | (injection eo54 with ea_ en_ ec_; (first | subst ea_ | (injection ea_ with ea_; subst ea_)); subst ec_; clear en_))
           have GB54 := Aside0.mk gb54
           have GG54 := Aside0.mk HG54
           clear gb54 gl54 HG54
           (first | simp only [add_plain] at hx194_0 | skip)
           obtain ⟨hx54_0, hf54_0⟩ := Kd.R_celln 0 HL190_0.out (x9_3 : Int) p54 q54
           replace p54 := eq_true p54
           replace q54 := eq_true q54
           have hq71 : (x8_2 : Int) < (x7_3.length : Int) := (by have h_ : (x8_2 : Int) < ((x7_3.length : Int) : Int) := of_decide_eq_true (by first | (with_reducible assumption) | assumption); first | exact h_ | (have e_ := (Kd.S_reads' HO_7.out).1; omega) | simpa only [List.length_set, List.length_set] using h_)
           obtain ⟨oki71, ce71, hcl71, hM71, hcc71, hok71, hbk71⟩ := Kd.S_borrow HO_7.out [] (x8_2 : Int) (of_decide_eq_true (by first | (with_reducible assumption) | assumption)) hq71
           obtain ⟨ve71_0, rfl, ge71_0⟩ := hM71
           have hv71 := hcc71 0 _ rfl
           rw [Nat.add_zero, show ((Kd.slice 3 (Kd.int .i64))).sz = 1 from rfl, Nat.mul_one] at hv71
           replace hv71 := Option.some.inj (hv71.symm.trans HX190_0.out)
           subst hv71
           clear hcc71 hcl71
           replace ge71_0 := (show Kd.R (Kd.int .i64) 3 _ _ _ _ (rd_L3 x7_3 x8_2) from ge71_0)
           have HP71 := Kd.R_putg ge71_0 (x9_3 : Int) ji52
           rw [← Ny195.out] at HP71
           have HS71 := hbk71 HP71.2 (fun k_ e_ => by injection e_ with e_; subst e_; exact ge71_0.1 _ rfl) (x' := y195) (Kd.M_row HP71.1)
           rw [← Ny197.out] at HS71
           have HQ71 := Aside0.mk HS71
           clear HP71 HS71 hbk71 hok71
           refine start_ (n := 24) (S := fun w' => w'.cell? ⟨go21, (x8_2).toNat, none⟩ = some (.slice (some ⟨go54, 0, none⟩) (rd_L3 x7_3 x8_2).length c190_0) ∧ w'.cell? ⟨go21, ((ji44)).toNat, none⟩ = some (.slice (some ad192) (rd_L3 x7_3 (ji44)).length c191_0) ∧ w'.cell? (ad192.add (x9_3).toNat) = some (.int .i64 (rd (rd_L3 x7_3 (ji44)) x9_3)) ∧ w'.cell? ⟨go21, (x8_2).toNat, none⟩ = some (.slice (some ⟨go54, 0, none⟩) (rd_L3 x7_3 x8_2).length c190_0) ∧ w'.cell? ⟨go54, ((ji49)).toNat, none⟩ = some (.int .i64 (rd (rd_L3 x7_3 x8_2) (ji49)))) (ds := [23]) #[false,false,false,false,false,false,false,false,false,false,false,false,false,false,false,false,false,false,false,false,false,false,false,false] (by kernel_rfl) rfl rfl ⟨hx190_0, hx191_0, hx192_0, hx193_0, hx194_0⟩ (fun hHeld => ?_); refine with_tabW debuggerref40_Move.tab13 debuggerref40_Move.bits13 (fun HT_ HW_ => ?_)
           generalize wr.drew = w70 at HO_5 HO_6 HO_7 HB GG54 HL190_0 HL191_0 HL193_0 HQ71 HR190_0 HR191_0 HR193_0 HX190_0 HX191_0 HX193_0 hf54_0 hx190_0 hx191_0 hx192_0 hx193_0 hx194_0 hx54_0 hHeld ⊢
           refine pure_ (i := 0) (N := some 58) (v := ?_) (a' := ?_) #[true,false,false,false,false,false,false,false,false,false,false,false,false,false,false,false,false,false,false,false,false,false,false,false] rfl rfl (any_of HT_.out (by kernel_rfl)) (fun _ _ _ h => h) (Or.inl ⟨by rfl, ?_⟩) ?_ ?_
           rotate_left
           ·intro w'
            go_simp
            with_reducible rfl
           rotate_left
           ·simp only [Act.put, List.setIfInBounds_toArray, List.set_cons_zero, List.set_cons_succ, i64_w, i32_w]
            rfl
           refine pure_ (i := 1) (N := some 59) (v := ?_) (a' := ?_) #[true,true,false,false,false,false,false,false,false,false,false,false,false,false,false,false,false,false,false,false,false,false,false,false] rfl rfl (any_of HT_.out (by kernel_rfl)) (fun _ _ _ h => h) (Or.inl ⟨by rfl, ?_⟩) ?_ ?_
           rotate_left
           ·intro w'
            go_simp
            with_reducible rfl
           rotate_left
           ·simp only [Act.put, List.setIfInBounds_toArray, List.set_cons_zero, List.set_cons_succ, i64_w, i32_w]
            rfl
           refine pure_ (i := 2) (N := some 60) (v := ?_) (a' := ?_) #[true,true,true,false,false,false,false,false,false,false,false,false,false,false,false,false,false,false,false,false,false,false,false,false] rfl rfl (any_of HT_.out (by kernel_rfl)) (fun _ _ _ h => h) (Or.inl ⟨by rfl, ?_⟩) ?_ ?_
           rotate_left
           ·intro w'
            go_simp
            with_reducible rfl
           rotate_left
           ·simp only [Act.put, List.setIfInBounds_toArray, List.set_cons_zero, List.set_cons_succ, i64_w, i32_w]
            rfl
           refine pure_ (i := 4) (N := some 62) (v := ?_) (a' := ?_) #[true,true,true,false,true,false,false,false,false,false,false,false,false,false,false,false,false,false,false,false,false,false,false,false] rfl rfl (any_of HT_.out (by kernel_rfl)) (fun _ _ _ h => h) (Or.inl ⟨by rfl, ?_⟩) ?_ ?_
           rotate_left
           ·intro w'
            go_simp
            with_reducible rfl
           rotate_left
           ·simp only [Act.put, List.setIfInBounds_toArray, List.set_cons_zero, List.set_cons_succ, i64_w, i32_w]
            rfl
           refine pure_ (i := 5) (N := some 63) (v := ?_) (a' := ?_) #[true,true,true,false,true,true,false,false,false,false,false,false,false,false,false,false,false,false,false,false,false,false,false,false] rfl rfl (any_of HT_.out (by kernel_rfl)) (fun _ _ _ h => h) (Or.inl ⟨by rfl, ?_⟩) ?_ ?_
           rotate_left
           ·intro w'
            go_simp
            with_reducible rfl
           rotate_left
           ·simp only [Act.put, List.setIfInBounds_toArray, List.set_cons_zero, List.set_cons_succ, i64_w, i32_w]
            rfl
           refine pure_ (i := 6) (N := some 64) (v := ?_) (a' := ?_) #[true,true,true,false,true,true,true,false,false,false,false,false,false,false,false,false,false,false,false,false,false,false,false,false] rfl rfl (any_of HT_.out (by kernel_rfl)) (fun _ _ _ h => h) (Or.inl ⟨by rfl, ?_⟩) ?_ ?_
           rotate_left
           ·intro w'
            go_simp
            with_reducible rfl
           rotate_left
           ·simp only [Act.put, List.setIfInBounds_toArray, List.set_cons_zero, List.set_cons_succ, i64_w, i32_w]
            rfl
           refine pure_ (i := 7) (N := some 65) (v := ?_) (a' := ?_) #[true,true,true,false,true,true,true,true,false,false,false,false,false,false,false,false,false,false,false,false,false,false,false,false] rfl rfl (any_of HT_.out (by kernel_rfl)) (fun _ _ _ h => h) (Or.inl ⟨by rfl, ?_⟩) ?_ ?_
           rotate_left
           ·intro w'
            go_simp
            with_reducible rfl
           rotate_left
           ·simp only [Act.put, List.setIfInBounds_toArray, List.set_cons_zero, List.set_cons_succ, i64_w, i32_w]
            rfl
           refine pure_ (i := 8) (N := some 66) (v := ?_) (a' := ?_) #[true,true,true,false,true,true,true,true,true,false,false,false,false,false,false,false,false,false,false,false,false,false,false,false] rfl rfl (any_of HT_.out (by kernel_rfl)) (fun _ _ _ h => h) (Or.inl ⟨by rfl, ?_⟩) ?_ ?_
           rotate_left
           ·intro w'
            go_simp
            with_reducible rfl
           rotate_left
           ·simp only [Act.put, List.setIfInBounds_toArray, List.set_cons_zero, List.set_cons_succ, i64_w, i32_w]
            rfl
           refine pure_ (i := 10) (N := some 68) (v := ?_) (a' := ?_) #[true,true,true,false,true,true,true,true,true,false,true,false,false,false,false,false,false,false,false,false,false,false,false,false] rfl rfl (any_of HT_.out (by kernel_rfl)) (fun _ _ _ h => h) (Or.inl ⟨by rfl, ?_⟩) ?_ ?_
           rotate_left
           ·intro w'
            go_simp
            with_reducible rfl
           rotate_left
           ·simp only [Act.put, List.setIfInBounds_toArray, List.set_cons_zero, List.set_cons_succ, i64_w, i32_w]
            rfl
           refine pure_ (i := 13) (N := some 71) (v := ?_) (a' := ?_) #[true,true,true,false,true,true,true,true,true,false,true,false,false,true,false,false,false,false,false,false,false,false,false,false] rfl rfl (any_of HT_.out (by kernel_rfl)) (fun _ _ _ h => h) (Or.inl ⟨by rfl, ?_⟩) ?_ ?_
           rotate_left
           ·intro w'
            go_simp
            with_reducible rfl
           rotate_left
           ·simp only [Act.put, List.setIfInBounds_toArray, List.set_cons_zero, List.set_cons_succ, i64_w, i32_w]
            rfl
           refine pure_ (i := 14) (N := some 72) (v := ?_) (a' := ?_) #[true,true,true,false,true,true,true,true,true,false,true,false,false,true,true,false,false,false,false,false,false,false,false,false] rfl rfl (any_of HT_.out (by kernel_rfl)) (fun _ _ _ h => h) (Or.inl ⟨by rfl, ?_⟩) ?_ ?_
           rotate_left
           ·intro w'
            go_simp
            with_reducible rfl
           rotate_left
           ·simp only [Act.put, List.setIfInBounds_toArray, List.set_cons_zero, List.set_cons_succ, i64_w, i32_w]
            rfl
           refine pure_ (i := 15) (N := some 73) (v := ?_) (a' := ?_) #[true,true,true,false,true,true,true,true,true,false,true,false,false,true,true,true,false,false,false,false,false,false,false,false] rfl rfl (any_of HT_.out (by kernel_rfl)) (fun _ _ _ h => h) (Or.inl ⟨by rfl, ?_⟩) ?_ ?_
           rotate_left
           ·intro w'
            go_simp
            with_reducible rfl
           rotate_left
           ·simp only [Act.put, List.setIfInBounds_toArray, List.set_cons_zero, List.set_cons_succ, i64_w, i32_w]
            rfl
           refine pure_ (i := 17) (N := some 75) (v := ?_) (a' := ?_) #[true,true,true,false,true,true,true,true,true,false,true,false,false,true,true,true,false,true,false,false,false,false,false,false] rfl rfl (any_of HT_.out (by kernel_rfl)) (fun _ _ _ h => h) (Or.inl ⟨by rfl, ?_⟩) ?_ ?_
           rotate_left
           ·intro w'
            go_simp
            with_reducible rfl
           rotate_left
           ·simp only [Act.put, List.setIfInBounds_toArray, List.set_cons_zero, List.set_cons_succ, i64_w, i32_w]
            rfl
           refine pure_ (i := 18) (N := some 76) (v := ?_) (a' := ?_) #[true,true,true,false,true,true,true,true,true,false,true,false,false,true,true,true,false,true,true,false,false,false,false,false] rfl rfl (any_of HT_.out (by kernel_rfl)) (fun _ _ _ h => h) (Or.inl ⟨by rfl, ?_⟩) ?_ ?_
           rotate_left
           ·intro w'
            go_simp
            with_reducible rfl
           rotate_left
           ·simp only [Act.put, List.setIfInBounds_toArray, List.set_cons_zero, List.set_cons_succ, i64_w, i32_w]
            rfl
           refine take_ (i := 3) (N := some 61) (v := ?_) (a' := ?_) #[true,true,true,true,true,true,true,true,true,false,true,false,false,true,true,true,false,true,true,false,false,false,false,false] rfl rfl (take_ofW HT_.out HW_.out (by kernel_rfl)) (fun _ _ _ h => h) (Or.inl ⟨by rfl, ?_⟩) hHeld ?_ ?_
           rotate_left
           ·rintro w' ⟨s0, s1, s2, s3, s4⟩
            go_simp
            with_reducible rfl
           rotate_left
           ·simp only [Act.put, List.setIfInBounds_toArray, List.set_cons_zero, List.set_cons_succ, i64_w, i32_w]
            rfl
           refine take_ (i := 9) (N := some 67) (v := ?_) (a' := ?_) #[true,true,true,true,true,true,true,true,true,true,true,false,false,true,true,true,false,true,true,false,false,false,false,false] rfl rfl (take_ofW HT_.out HW_.out (by kernel_rfl)) (fun _ _ _ h => h) (Or.inl ⟨by rfl, ?_⟩) hHeld ?_ ?_
           rotate_left
           ·rintro w' ⟨s0, s1, s2, s3, s4⟩
            go_simp
            with_reducible rfl
           rotate_left
           ·simp only [Act.put, List.setIfInBounds_toArray, List.set_cons_zero, List.set_cons_succ, i64_w, i32_w]
            rfl
           refine pure_ (i := 11) (N := some 69) (v := ?_) (a' := ?_) #[true,true,true,true,true,true,true,true,true,true,true,true,false,true,true,true,false,true,true,false,false,false,false,false] rfl rfl (any_of HT_.out (by kernel_rfl)) (fun _ _ _ h => h) (Or.inl ⟨by rfl, ?_⟩) ?_ ?_
           rotate_left
           ·intro w'
            go_simp
            with_reducible rfl
           rotate_left
           ·simp only [Act.put, List.setIfInBounds_toArray, List.set_cons_zero, List.set_cons_succ, i64_w, i32_w]
            rfl
           refine take_ (i := 12) (N := some 70) (v := ?_) (a' := ?_) #[true,true,true,true,true,true,true,true,true,true,true,true,true,true,true,true,false,true,true,false,false,false,false,false] rfl rfl (take_ofW HT_.out HW_.out (by kernel_rfl)) (fun _ _ _ h => h) (Or.inl ⟨by rfl, ?_⟩) hHeld ?_ ?_
           rotate_left
           ·rintro w' ⟨s0, s1, s2, s3, s4⟩
            go_simp
            with_reducible rfl
           rotate_left
           ·simp only [Act.put, List.setIfInBounds_toArray, List.set_cons_zero, List.set_cons_succ, i64_w, i32_w]
            rfl
           refine take_ (i := 16) (N := some 74) (v := ?_) (a' := ?_) #[true,true,true,true,true,true,true,true,true,true,true,true,true,true,true,true,true,true,true,false,false,false,false,false] rfl rfl (take_ofW HT_.out HW_.out (by kernel_rfl)) (fun _ _ _ h => h) (Or.inl ⟨by rfl, ?_⟩) hHeld ?_ ?_
           rotate_left
           ·rintro w' ⟨s0, s1, s2, s3, s4⟩
            go_simp
            with_reducible rfl
           rotate_left
           ·simp only [Act.put, List.setIfInBounds_toArray, List.set_cons_zero, List.set_cons_succ, i64_w, i32_w]
            rfl
           refine pure_ (i := 19) (N := some 77) (v := ?_) (a' := ?_) #[true,true,true,true,true,true,true,true,true,true,true,true,true,true,true,true,true,true,true,true,false,false,false,false] rfl rfl (any_of HT_.out (by kernel_rfl)) (fun _ _ _ h => h) (Or.inl ⟨by rfl, ?_⟩) ?_ ?_
           rotate_left
           ·intro w'
            go_simp
            with_reducible rfl
           rotate_left
           ·simp only [Act.put, List.setIfInBounds_toArray, List.set_cons_zero, List.set_cons_succ, i64_w, i32_w]
            rfl
           refine take_ (i := 20) (N := some 78) (v := ?_) (a' := ?_) #[true,true,true,true,true,true,true,true,true,true,true,true,true,true,true,true,true,true,true,true,true,false,false,false] rfl rfl (take_ofW HT_.out HW_.out (by kernel_rfl)) (fun _ _ _ h => h) (Or.inl ⟨by rfl, ?_⟩) hHeld ?_ ?_
           rotate_left
           ·rintro w' ⟨s0, s1, s2, s3, s4⟩
            go_simp
            with_reducible rfl
           rotate_left
           ·simp only [Act.put, List.setIfInBounds_toArray, List.set_cons_zero, List.set_cons_succ, i64_w, i32_w]
            rfl
           refine pure_ (i := 21) (N := some 79) (v := ?_) (a' := ?_) #[true,true,true,true,true,true,true,true,true,true,true,true,true,true,true,true,true,true,true,true,true,true,false,false] rfl rfl (any_of HT_.out (by kernel_rfl)) (fun _ _ _ h => h) (Or.inl ⟨by rfl, ?_⟩) ?_ ?_
           rotate_left
           ·intro w'
            go_simp
            with_reducible rfl
           rotate_left
           ·simp only [Act.put, List.setIfInBounds_toArray, List.set_cons_zero, List.set_cons_succ, i64_w, i32_w]
            rfl
           refine pure_ (i := 22) (N := some 80) (v := ?_) (a' := ?_) #[true,true,true,true,true,true,true,true,true,true,true,true,true,true,true,true,true,true,true,true,true,true,true,false] rfl rfl (any_of HT_.out (by kernel_rfl)) (fun _ _ _ h => h) (Or.inl ⟨by rfl, ?_⟩) ?_ ?_
           rotate_left
           ·intro w'
            go_simp
            with_reducible rfl
           rotate_left
           ·simp only [Act.put, List.setIfInBounds_toArray, List.set_cons_zero, List.set_cons_succ, i64_w, i32_w]
            rfl
           refine last_ (i := 23) (N := none) #[true,true,true,true,true,true,true,true,true,true,true,true,true,true,true,true,true,true,true,true,true,true,true,true] rfl rfl (one_of HT_.out (by kernel_rfl)) (by decide) (fun K hK => ?_)
           refine skip_ (w1 := ?_) (by rfl) rfl ?_ ?_
           rotate_left
           ·go_simp
            rfl
           refine hK.out _ _ ?_
           clear hK K
           refine done_ (done_of HT_.out (by kernel_rfl)) ?_
           try go_wp2
           have n0_ : Aside0 (Kd.R Kd.string 9 (w70.setCell ⟨go54, (x9_3 : Int).toNat, none⟩ (.int .i64 ji52)) w.heap.size (fun k_ => some k_ ≠ (.slice Ao25 t176.length co25 : Value).ownBlock) (.slice Ao22 t173.length co22) t173) := ⟨by (with_reducible repeat (first | apply Kd.R_alloc | apply Kd.R_drewN | apply Kd.R_drew)); exact Kd.R_mono (Kd.R_far (p := ⟨go54, (x9_3 : Int).toNat, none⟩) (Kd.R_types HO_5.out GG54.out (by decide)) (fun _ hk => hk.2) (.int .i64 ji52)) (fun _ hk => hk.1)⟩
           have n1_ : Aside0 (Kd.R Kd.string 9 (w70.setCell ⟨go54, (x9_3 : Int).toNat, none⟩ (.int .i64 ji52)) w.heap.size (fun k_ => some k_ ≠ (.slice Ao22 t173.length co22 : Value).ownBlock) (.slice Ao25 t176.length co25) t176) := ⟨by (with_reducible repeat (first | apply Kd.R_alloc | apply Kd.R_drewN | apply Kd.R_drew)); exact Kd.R_mono (Kd.R_far (p := ⟨go54, (x9_3 : Int).toNat, none⟩) (Kd.R_types HO_6.out GG54.out (by decide)) (fun _ hk => hk.2) (.int .i64 ji52)) (fun _ hk => hk.1)⟩
           have n2_ : Aside0 (Kd.S (Kd.slice 3 (Kd.int .i64)) 22 (w70.setCell ⟨go54, (x9_3 : Int).toNat, none⟩ (.int .i64 ji52)) w.heap.size (fun _ => True) (.slice (some ⟨go21, 0, none⟩) x7_3.length co21) y197) := ⟨by (with_reducible repeat (first | apply Kd.S_alloc | apply Kd.S_drewN | apply Kd.S_drew)); exact HQ71.out⟩
           have n3_ : Aside0 (Below w.heap.size w (w70.setCell ⟨go54, (x9_3 : Int).toNat, none⟩ (.int .i64 ji52))) := ⟨by repeat (first | (with_reducible first | exact HB.out | apply below_alloc | apply pw_below_drewN | apply below_drew1 | refine below_set ?_ GB54.out) | exact HB.out)⟩
           (try clear HO_5)
           (try clear HO_6)
           (try clear HO_7)
           (try clear HB)
           generalize (w70.setCell ⟨go54, (x9_3 : Int).toNat, none⟩ (.int .i64 ji52)) = w73 at n0_ n1_ n2_ n3_ ⊢
           have HO_5 := n0_
           have HO_6 := n1_
           have HO_7 := n2_
           have HB := n3_
           clear n0_ n1_ n2_ n3_
           have n0_ := Aside0.mk (Kd.R_drew HO_5.out)
           have n1_ := Aside0.mk (Kd.R_drew HO_6.out)
           have n2_ := Aside0.mk (Kd.S_drew HO_7.out)
           have n3_ := Aside0.mk (below_drew1 HB.out)
           clear HO_5
           clear HO_6
           clear HO_7
           clear HB
           have HO_5 := n0_
           have HO_6 := n1_
           have HO_7 := n2_
           have HB := n3_
           clear n0_ n1_ n2_ n3_
           have p198 : 0 ≤ (x8_2 : Int) := of_decide_eq_true (by first | (with_reducible assumption) | assumption)
           have q198 : x8_2 < (t173.length : Int) := of_decide_eq_true (by first | (with_reducible assumption) | assumption)
           obtain ⟨ad198, e198, hx198_0⟩ := Kd.at_string (Kd.R_reads' HO_5.out).2.2 x8_2 p198 q198
           cases e198
           replace p198 := eq_true p198
           replace q198 := eq_true q198
           have p199 : 0 ≤ (x9_3 : Int) := of_decide_eq_true (by first | (with_reducible assumption) | assumption)
           have q199 : x9_3 < (t176.length : Int) := of_decide_eq_true (by first | (with_reducible assumption) | assumption)
           obtain ⟨ad199, e199, hx199_0⟩ := Kd.at_string (Kd.R_reads' HO_6.out).2.2 x9_3 p199 q199
           cases e199
           replace p199 := eq_true p199
           replace q199 := eq_true q199
           refine start_ (n := 9) (S := fun w' => w'.cell? (ad198.add (x8_2).toNat) = some (.string (rdOf ByteArray.empty t173 x8_2)) ∧ w'.cell? (ad199.add (x9_3).toNat) = some (.string (rdOf ByteArray.empty t176 x9_3))) (ds := []) #[false,false,false,false,false,false,false,false,false] (by kernel_rfl) rfl rfl ⟨hx198_0, hx199_0⟩ (fun hHeld => ?_); refine with_tabW debuggerref40_Move.tab14 debuggerref40_Move.bits14 (fun HT_ HW_ => ?_)
           generalize w73.drew = w74 at HO_5 HO_6 HO_7 HB HQ71 hx198_0 hx199_0 hHeld ⊢
           refine pure_ (i := 0) (N := some 81) (v := ?_) (a' := ?_) #[true,false,false,false,false,false,false,false,false] rfl rfl (any_of HT_.out (by kernel_rfl)) (fun _ _ _ h => h) (Or.inl ⟨by rfl, ?_⟩) ?_ ?_
           rotate_left
           ·intro w'
            go_simp
            with_reducible rfl
           rotate_left
           ·simp only [Act.put, List.setIfInBounds_toArray, List.set_cons_zero, List.set_cons_succ, i64_w, i32_w]
            rfl
           refine pure_ (i := 1) (N := some 82) (v := ?_) (a' := ?_) #[true,true,false,false,false,false,false,false,false] rfl rfl (any_of HT_.out (by kernel_rfl)) (fun _ _ _ h => h) (Or.inl ⟨by rfl, ?_⟩) ?_ ?_
           rotate_left
           ·intro w'
            go_simp
            with_reducible rfl
           rotate_left
           ·simp only [Act.put, List.setIfInBounds_toArray, List.set_cons_zero, List.set_cons_succ, i64_w, i32_w]
            rfl
           refine pure_ (i := 2) (N := some 83) (v := ?_) (a' := ?_) #[true,true,true,false,false,false,false,false,false] rfl rfl (any_of HT_.out (by kernel_rfl)) (fun _ _ _ h => h) (Or.inl ⟨by rfl, ?_⟩) ?_ ?_
           rotate_left
           ·intro w'
            go_simp
            with_reducible rfl
           rotate_left
           ·simp only [Act.put, List.setIfInBounds_toArray, List.set_cons_zero, List.set_cons_succ, i64_w, i32_w]
            rfl
           refine pure_ (i := 4) (N := some 85) (v := ?_) (a' := ?_) #[true,true,true,false,true,false,false,false,false] rfl rfl (any_of HT_.out (by kernel_rfl)) (fun _ _ _ h => h) (Or.inl ⟨by rfl, ?_⟩) ?_ ?_
           rotate_left
           ·intro w'
            go_simp
            with_reducible rfl
           rotate_left
           ·simp only [Act.put, List.setIfInBounds_toArray, List.set_cons_zero, List.set_cons_succ, i64_w, i32_w]
            rfl
           refine pure_ (i := 5) (N := some 86) (v := ?_) (a' := ?_) #[true,true,true,false,true,true,false,false,false] rfl rfl (any_of HT_.out (by kernel_rfl)) (fun _ _ _ h => h) (Or.inl ⟨by rfl, ?_⟩) ?_ ?_
           rotate_left
           ·intro w'
            go_simp
            with_reducible rfl
           rotate_left
           ·simp only [Act.put, List.setIfInBounds_toArray, List.set_cons_zero, List.set_cons_succ, i64_w, i32_w]
            rfl
           refine pure_ (i := 6) (N := some 87) (v := ?_) (a' := ?_) #[true,true,true,false,true,true,true,false,false] rfl rfl (any_of HT_.out (by kernel_rfl)) (fun _ _ _ h => h) (Or.inl ⟨by rfl, ?_⟩) ?_ ?_
           rotate_left
           ·intro w'
            go_simp
            with_reducible rfl
           rotate_left
           ·simp only [Act.put, List.setIfInBounds_toArray, List.set_cons_zero, List.set_cons_succ, i64_w, i32_w]
            rfl
           refine take_ (i := 3) (N := some 84) (v := ?_) (a' := ?_) #[true,true,true,true,true,true,true,false,false] rfl rfl (take_ofW HT_.out HW_.out (by kernel_rfl)) (fun _ _ _ h => h) (Or.inl ⟨by rfl, ?_⟩) hHeld ?_ ?_
           rotate_left
           ·rintro w' ⟨s0, s1⟩
            go_simp
            with_reducible rfl
           rotate_left
           ·simp only [Act.put, List.setIfInBounds_toArray, List.set_cons_zero, List.set_cons_succ, i64_w, i32_w]
            rfl
           refine take_ (i := 7) (N := some 88) (v := ?_) (a' := ?_) #[true,true,true,true,true,true,true,true,false] rfl rfl (take_ofW HT_.out HW_.out (by kernel_rfl)) (fun _ _ _ h => h) (Or.inl ⟨by rfl, ?_⟩) hHeld ?_ ?_
           rotate_left
           ·rintro w' ⟨s0, s1⟩
            go_simp
            with_reducible rfl
           rotate_left
           ·simp only [Act.put, List.setIfInBounds_toArray, List.set_cons_zero, List.set_cons_succ, i64_w, i32_w]
            rfl
           refine pure_ (i := 8) (N := some 89) (v := ?_) (a' := ?_) #[true,true,true,true,true,true,true,true,true] rfl rfl (any_of HT_.out (by kernel_rfl)) (fun _ _ _ h => h) (Or.inl ⟨by rfl, ?_⟩) ?_ ?_
           rotate_left
           ·intro w'
            go_simp
            with_reducible rfl
           rotate_left
           ·simp only [Act.put, List.setIfInBounds_toArray, List.set_cons_zero, List.set_cons_succ, i64_w, i32_w]
            rfl
           refine done_ (done_of HT_.out (by kernel_rfl)) ?_
           try go_wp2
           (try simp only [← hl7_3])
           go_roundg k3
           case measure => have := HJ4.out; have := HK2.out; have := HK3.out; omega
           case rel => exact ⟨(y197), (wrap64 (x9_3 - 1)), (by first | rfl | (simp; done) | (simp [*]; done)), H', ⟨by have := HJ4.out; have := HK2.out; have := HK3.out; omega⟩, ⟨by (try simp only [hl7_2]); (try simp only [hl7_3]); (with_reducible repeat (first | apply Kd.R_alloc | apply Kd.R_drewN | apply Kd.R_drew)); exact HO_5.out⟩, ⟨by (try simp only [hl7_2]); (try simp only [hl7_3]); (with_reducible repeat (first | apply Kd.R_alloc | apply Kd.R_drewN | apply Kd.R_drew)); exact HO_6.out⟩, ⟨by (try simp only [hl7_2]); (try simp only [hl7_3]); (with_reducible repeat (first | apply Kd.S_alloc | apply Kd.S_drewN | apply Kd.S_drew)); exact HO_7.out⟩, ⟨by repeat (first | (with_reducible first | exact HB.out | apply below_alloc | apply pw_below_drewN | apply below_drew1) | exact HB.out)⟩⟩
         ·rw [if_neg c41] at H
          have c41b0 : decide (0 ≤ x9_3) = false := decide_eq_false c41
          clear c41
          have H' := Aside0.mk H
          clear H
          go_wp2
          (try simp only [← hl7_2, ← hl7_3])
          go_roundg k3
          case measure => have := HJ4.out; have := HK2.out; have := HK3.out; omega
          case rel => exact ⟨(x7_3), (wrap64 (x8_2 - 1)), (by first | rfl | (simp; done) | (simp [*]; done)), H', ⟨by have := HJ4.out; have := HK2.out; have := HK3.out; omega⟩, ⟨by (try simp only [hl7_2]); (try simp only [hl7_3]); (with_reducible repeat (first | apply Kd.R_alloc | apply Kd.R_drewN | apply Kd.R_drew)); exact HO_5.out⟩, ⟨by (try simp only [hl7_2]); (try simp only [hl7_3]); (with_reducible repeat (first | apply Kd.R_alloc | apply Kd.R_drewN | apply Kd.R_drew)); exact HO_6.out⟩, ⟨by (try simp only [hl7_2]); (try simp only [hl7_3]); (with_reducible repeat (first | apply Kd.S_alloc | apply Kd.S_drewN | apply Kd.S_drew)); exact HO_7.out⟩, ⟨by repeat (first | (with_reducible first | exact HB.out | apply below_alloc | apply pw_below_drewN | apply below_drew1) | exact HB.out)⟩⟩
      ·rw [if_neg c30] at H
       have c30b0 : decide (0 ≤ x8_2) = false := decide_eq_false c30
       clear c30
       by_cases c75 : 0 ≤ (t173.length : Int)
       rotate_left
       ·rw [if_neg c75] at H
        exact absurd H (by simp)
       rw [if_pos c75] at H
       have c75b0 := eq_true c75
       have c75b1 : decide (0 ≤ (t173.length : Int)) = true := decide_eq_true c75
       clear c75
       by_cases c76 : ((t173.length : Int) : Int).toNat ≤ 35184372088832
       rotate_left
       ·rw [if_neg c76] at H
        exact absurd H (by simp)
       rw [if_pos c76] at H
       have c76b0 := eq_true c76
       have c76b1 : decide (((t173.length : Int) : Int).toNat ≤ 35184372088832) = true := decide_eq_true c76
       clear c76
       obtain ⟨y208, hy208⟩ : ∃ y_ : List Int, y_ = (List.replicate ((t173.length : Int) : Int).toNat 0) := ⟨_, rfl⟩
       replace H : (debuggerref40_Move.l2 k2 t173 t176 x7_2 y208 0 0) = some r := by first | (rw [hy208]; with_reducible exact H) | (have H2_ := (Option.bind_some _ _).symm.trans H; rw [hy208]; with_reducible exact H2_) | (have H2_ := (Option.bind_some _ _).symm.trans H; with_reducible exact H2_) | with_reducible exact H | (rw [hy208]; exact H) | exact H
       have Ny208 := Aside0.mk hy208
       clear hy208
       have H' := Aside0.mk H
       clear H
       go_wp2_with (first | ((with_reducible refine gate_dst (N := 116) rfl ?_); (try (refine gate_guard (by rfl) ?_; dsimp only)); refine Kd.R_make (Kd.int .i64) _ 3 rfl (N := 116) rfl 22 _ _ rfl (t173.length : Int) rfl rfl Tryz.underlying22 (.int .i64 0) 8 info3 rfl (by decide) (by omega) 0 (ok := fun _ => True) (okp := fun _ => True) rfl (fun _ hk => hk) trivial (of_decide_eq_true (by first | (with_reducible assumption) | assumption)) (Nat.le_trans (Nat.mul_le_mul_right _ (of_decide_eq_true (by first | (with_reducible assumption) | assumption) : (t173.length : Int).toNat ≤ 35184372088832)) (by omega)) (Below.refl _ _) (Nat.le_refl _) ?_; intro v209 w77 ho78 hb hg_ hnew_; clear hg_ hnew_; (first | rw [← Ny208.out] at ho78 | (simp only [Int.reduceToNat] at ho78; rw [← Ny208.out] at ho78)); have n0_ := Aside0.mk (Kd.R_below (by (with_reducible repeat (first | apply Kd.R_alloc | apply Kd.R_drewN | apply Kd.R_drew)); exact HO_5.out) hb); have n1_ := Aside0.mk (Kd.R_below (by (with_reducible repeat (first | apply Kd.R_alloc | apply Kd.R_drewN | apply Kd.R_drew)); exact HO_6.out) hb); have n2_ := Aside0.mk (Kd.S_elder' (by (with_reducible repeat (first | apply Kd.S_alloc | apply Kd.S_drewN | apply Kd.S_drew)); exact HO_7.out) (Kd.R_base ho78) hb); have n3_ := Aside0.mk (Kd.R_lower ho78 (below_size (by repeat (first | (with_reducible first | exact HB.out | apply below_alloc | apply pw_below_drewN | apply below_drew1) | exact HB.out)))); have n4_ := Aside0.mk (below_step (by repeat (first | (with_reducible first | exact HB.out | apply below_alloc | apply pw_below_drewN | apply below_drew1) | exact HB.out)) hb); clear HO_5; clear HO_6; clear HO_7; clear HB; have HO_5 := n0_; have HO_6 := n1_; have HO_7 := n2_; have HO210 := n3_; have HB := n4_; clear n0_ n1_ n2_ n3_ n4_; clear hb ho78))
       go_loopg [11, 12] k2 (fun kq v11 v12 w' => ∃ (x10_3 : List Int) (x11_3 : Int) (x12_3 : Int), v11 = .int .i64 x11_3 ∧ v12 = .int .i64 x12_3 ∧ Aside0 (debuggerref40_Move.l2 kq t173 t176 x7_2 x10_3 x11_3 x12_3 = some r) ∧ Aside0 (kq ≤ k2) ∧ Aside0 (Kd.R Kd.string 9 w' w.heap.size (fun k_ => some k_ ≠ ((.slice Ao25 t176.length co25) : Value).ownBlock) (.slice Ao22 t173.length co22) t173) ∧ Aside0 (Kd.R Kd.string 9 w' w.heap.size (fun k_ => some k_ ≠ ((.slice Ao22 t173.length co22) : Value).ownBlock) (.slice Ao25 t176.length co25) t176) ∧ Aside0 (Kd.S (Kd.slice 3 (Kd.int .i64)) 22 w' w.heap.size (fun k_ => some k_ ≠ (v209 : Value).ownBlock) (.slice (some ⟨go21, 0, none⟩) x7_2.length co21) x7_2) ∧ Aside0 (Kd.R (Kd.int .i64) 3 w' w.heap.size (fun _ => True) v209 x10_3) ∧ Aside0 (Below w.heap.size w w'))
       case atStart => exact ⟨(y208), (0), (0), (by first | rfl | (simp; done) | (simp [*]; done)), (by first | rfl | (simp; done) | (simp [*]; done)), H', ⟨Nat.le_refl _⟩, ⟨by (try simp only [hl7_2]); (with_reducible repeat (first | apply Kd.R_alloc | apply Kd.R_drewN | apply Kd.R_drew)); exact HO_5.out⟩, ⟨by (try simp only [hl7_2]); (with_reducible repeat (first | apply Kd.R_alloc | apply Kd.R_drewN | apply Kd.R_drew)); exact HO_6.out⟩, ⟨by (try simp only [hl7_2]); (with_reducible repeat (first | apply Kd.S_alloc | apply Kd.S_drewN | apply Kd.S_drew)); exact Kd.S_mono HO_7.out (fun _ hk => hk.2)⟩, ⟨by (try simp only [hl7_2]); (with_reducible repeat (first | apply Kd.R_alloc | apply Kd.R_drewN | apply Kd.R_drew)); exact HO210.out⟩, ⟨by repeat (first | (with_reducible first | exact HB.out | apply below_alloc | apply pw_below_drewN | apply below_drew1) | exact HB.out)⟩⟩
       case round =>
        clear H'
        try clear c1
        try clear p1
        try clear q1
        try clear hx1
        try clear p2
        try clear c3
        try clear c4
        try clear c5
        try clear p5
        try clear q5
        try clear hx5
        try clear hf5
        try clear p6
        try clear c7
        try clear q7
        try clear c19
        try clear p19
        try clear q19
        try clear hx19
        try clear c30
        try clear c30b0
        try clear c32
        try clear c33
        try clear c34
        try clear c35
        try clear c41
        try clear c41b0
        try clear c42
        try clear c43
        try clear c45
        try clear c46
        try clear c47
        try clear c48
        try clear c50
        try clear c51
        try clear c53
        try clear p54
        try clear q54
        try clear hx54
        try clear hf54
        try clear c55
        try clear c56
        try clear c57
        try clear c57b0
        try clear c57b1
        try clear c58
        try clear c59
        try clear p64
        try clear c71
        try clear q71
        try clear c75
        try clear c75b0
        try clear c75b1
        try clear c76
        try clear c76b0
        try clear c76b1
        try clear hx190_0
        try clear hx191_0
        try clear hx192_0
        try clear hx193_0
        try clear hx194_0
        try clear hx198_0
        try clear hx199_0
        try clear hx54_0
        try clear p190
        try clear p191
        try clear p192
        try clear p193
        try clear p194
        try clear p198
        try clear p199
        try clear p54
        try clear q190
        try clear q191
        try clear q192
        try clear q193
        try clear q194
        try clear q198
        try clear q199
        try clear q54
        obtain ⟨x10_3, x11_3, x12_3, rfl, rfl, HA, HK3, HO_5, HO_6, HO_7, HO_10, HB⟩ := hrel
        cases gk with
        | zero => exact absurd HA.out (by simp [debuggerref40_Move.l2])
        | succ k3 =>
         have H := HA.out
         clear HA
         simp only [debuggerref40_Move.l2] at H
         have HC79 := Aside0.mk H
         clear H
         go_upto_region 18 with (fail)
         go_cut [126] (fun v126 wc => ∃ (kq : Nat) (x126_78 : Bool), v126 = .bool x126_78 ∧ Aside0 (debuggerref40_Move.j4 kq t173 t176 x7_2 x10_3 x11_3 x12_3 x126_78 = some r) ∧ Aside0 (kq ≤ k3) ∧ Aside0 (Kd.R Kd.string 9 wc w.heap.size (fun k_ => some k_ ≠ ((.slice Ao25 t176.length co25) : Value).ownBlock) (.slice Ao22 t173.length co22) t173) ∧ Aside0 (Kd.R Kd.string 9 wc w.heap.size (fun k_ => some k_ ≠ ((.slice Ao22 t173.length co22) : Value).ownBlock) (.slice Ao25 t176.length co25) t176) ∧ Aside0 (Kd.S (Kd.slice 3 (Kd.int .i64)) 22 wc w.heap.size (fun k_ => some k_ ≠ (v209 : Value).ownBlock) (.slice (some ⟨go21, 0, none⟩) x7_2.length co21) x7_2) ∧ Aside0 (Kd.R (Kd.int .i64) 3 wc w.heap.size (fun _ => True) v209 x10_3) ∧ Aside0 (Below w.heap.size w wc))
         case first =>
          have H := HC79.out
          clear HC79
          by_cases c80 : x11_3 < (t173.length : Int)
          ·rw [if_pos c80] at H
           have c80b0 : decide (x11_3 < (t173.length : Int)) = true := decide_eq_true c80
           clear c80
           (first | rw [c80b0] | (simp only [i64_w, i32_w]; rw [c80b0]) | skip)
           have H' := Aside0.mk H
           clear H
           go_wp2
           go_meet
           case rel => exact ⟨_, (decide (x12_3 < (t176.length : Int))), (by first | rfl | (simp; done) | (simp [*]; done)), H', ⟨by have := HJ4.out; have := HK2.out; have := HK3.out; first | omega | exact Nat.le_refl _⟩, ⟨by (try simp only [hl7_2]); (with_reducible repeat (first | apply Kd.R_alloc | apply Kd.R_drewN | apply Kd.R_drew)); exact HO_5.out⟩, ⟨by (try simp only [hl7_2]); (with_reducible repeat (first | apply Kd.R_alloc | apply Kd.R_drewN | apply Kd.R_drew)); exact HO_6.out⟩, ⟨by (try simp only [hl7_2]); (with_reducible repeat (first | apply Kd.S_alloc | apply Kd.S_drewN | apply Kd.S_drew)); exact HO_7.out⟩, ⟨by (try simp only [hl7_2]); (with_reducible repeat (first | apply Kd.R_alloc | apply Kd.R_drewN | apply Kd.R_drew)); exact HO_10.out⟩, ⟨by repeat (first | (with_reducible first | exact HB.out | apply below_alloc | apply pw_below_drewN | apply below_drew1) | exact HB.out)⟩⟩
          ·rw [if_neg c80] at H
           have c80b0 : decide (x11_3 < (t173.length : Int)) = false := decide_eq_false c80
           clear c80
           (first | rw [c80b0] | (simp only [i64_w, i32_w]; rw [c80b0]) | skip)
           have H' := Aside0.mk H
           clear H
           go_wp2
           go_meet
           case rel => exact ⟨_, (false), (by first | rfl | (simp; done) | (simp [*]; done)), H', ⟨by have := HJ4.out; have := HK2.out; have := HK3.out; first | omega | exact Nat.le_refl _⟩, ⟨by (try simp only [hl7_2]); (with_reducible repeat (first | apply Kd.R_alloc | apply Kd.R_drewN | apply Kd.R_drew)); exact HO_5.out⟩, ⟨by (try simp only [hl7_2]); (with_reducible repeat (first | apply Kd.R_alloc | apply Kd.R_drewN | apply Kd.R_drew)); exact HO_6.out⟩, ⟨by (try simp only [hl7_2]); (with_reducible repeat (first | apply Kd.S_alloc | apply Kd.S_drewN | apply Kd.S_drew)); exact HO_7.out⟩, ⟨by (try simp only [hl7_2]); (with_reducible repeat (first | apply Kd.R_alloc | apply Kd.R_drewN | apply Kd.R_drew)); exact HO_10.out⟩, ⟨by repeat (first | (with_reducible first | exact HB.out | apply below_alloc | apply pw_below_drewN | apply below_drew1) | exact HB.out)⟩⟩
         case rest =>
          clear HC79
          try clear c1
          try clear p1
          try clear q1
          try clear hx1
          try clear p2
          try clear c3
          try clear c4
          try clear c5
          try clear p5
          try clear q5
          try clear hx5
          try clear hf5
          try clear p6
          try clear c7
          try clear q7
          try clear c8
          try clear c19
          try clear p19
          try clear q19
          try clear hx19
          try clear c30
          try clear c30b0
          try clear c32
          try clear c33
          try clear c34
          try clear c35
          try clear c41
          try clear c41b0
          try clear c42
          try clear c43
          try clear c45
          try clear c46
          try clear c47
          try clear c48
          try clear c50
          try clear c51
          try clear c53
          try clear p54
          try clear q54
          try clear hx54
          try clear hf54
          try clear c55
          try clear c56
          try clear c57
          try clear c57b0
          try clear c57b1
          try clear c58
          try clear c59
          try clear p64
          try clear c71
          try clear q71
          try clear c75
          try clear c75b0
          try clear c75b1
          try clear c76
          try clear c76b0
          try clear c76b1
          try clear c80
          try clear c80b0
          try clear hx190_0
          try clear hx191_0
          try clear hx192_0
          try clear hx193_0
          try clear hx194_0
          try clear hx198_0
          try clear hx199_0
          try clear hx54_0
          try clear p1
          try clear p19
          try clear p190
          try clear p191
          try clear p192
          try clear p193
          try clear p194
          try clear p198
          try clear p199
          try clear p2
          try clear p5
          try clear p54
          try clear p6
          try clear p64
          try clear q1
          try clear q19
          try clear q190
          try clear q191
          try clear q192
          try clear q193
          try clear q194
          try clear q198
          try clear q199
          try clear q5
          try clear q54
          try clear q7
          try clear q71
          obtain ⟨kq, x126_78, rfl, HA, HJ78, HO_5, HO_6, HO_7, HO_10, HB⟩ := hcut
          cases kq with
          | zero => exact absurd HA.out (by simp [debuggerref40_Move.j4])
          | succ kj78 =>
           have H := HA.out
           clear HA
           simp only [debuggerref40_Move.j4] at H
           by_cases c81 : x126_78 = true
           ·subst c81
            have H1 : (if 0 ≤ x11_3 then (if x11_3 < (t173.length : Int) then (if 0 ≤ x12_3 then (if x12_3 < (t176.length : Int) then (if (rdOf ByteArray.empty t173 x11_3).toList = (rdOf ByteArray.empty t176 x12_3).toList then (if x11_3 < (x7_2.length : Int) then (if x12_3 < ((rd_L3 x7_2 x11_3).length : Int) then (if 0 ≤ (wrap64 (x11_3 + 1)) then (if (wrap64 (x11_3 + 1)) < (x7_2.length : Int) then (if 0 ≤ (wrap64 (x12_3 + 1)) then (if (wrap64 (x12_3 + 1)) < ((rd_L3 x7_2 (wrap64 (x11_3 + 1))).length : Int) then (debuggerref40_Move.j5 kj78 t173 t176 x7_2 x10_3 x11_3 x12_3 ((rd (rd_L3 x7_2 x11_3) x12_3) == (wrap64 ((rd (rd_L3 x7_2 (wrap64 (x11_3 + 1))) (wrap64 (x12_3 + 1))) + 1)))) else (none)) else (none)) else (none)) else (none)) else (none)) else (none)) else (debuggerref40_Move.j5 kj78 t173 t176 x7_2 x10_3 x11_3 x12_3 false)) else (none)) else (none)) else (none)) else (none)) = some r := by rw [if_pos rfl] at H; exact H
            clear H
            have H := H1
            clear H1
            have HC82 := Aside0.mk H
            clear H
            go_upto_region 20 with (fail)
            go_cut [129] (fun v129 wc => ∃ (kq : Nat) (x129_81 : Bool), v129 = .bool x129_81 ∧ Aside0 (debuggerref40_Move.j5 kq t173 t176 x7_2 x10_3 x11_3 x12_3 x129_81 = some r) ∧ Aside0 (kq ≤ kj78) ∧ Aside0 (Kd.R Kd.string 9 wc w.heap.size (fun k_ => some k_ ≠ ((.slice Ao25 t176.length co25) : Value).ownBlock) (.slice Ao22 t173.length co22) t173) ∧ Aside0 (Kd.R Kd.string 9 wc w.heap.size (fun k_ => some k_ ≠ ((.slice Ao22 t173.length co22) : Value).ownBlock) (.slice Ao25 t176.length co25) t176) ∧ Aside0 (Kd.S (Kd.slice 3 (Kd.int .i64)) 22 wc w.heap.size (fun k_ => some k_ ≠ (v209 : Value).ownBlock) (.slice (some ⟨go21, 0, none⟩) x7_2.length co21) x7_2) ∧ Aside0 (Kd.R (Kd.int .i64) 3 wc w.heap.size (fun _ => True) v209 x10_3) ∧ Aside0 (Below w.heap.size w wc))
            case first =>
             have H := HC82.out
             clear HC82
             by_cases c83 : 0 ≤ x11_3
             rotate_left
             ·rw [if_neg c83] at H
              exact absurd H (by simp)
             rw [if_pos c83] at H
             have c83b0 : decide (0 ≤ x11_3) = true := decide_eq_true c83
             clear c83
             (first | rw [c83b0] | (simp only [i64_w, i32_w]; rw [c83b0]) | skip)
             by_cases c84 : x11_3 < (t173.length : Int)
             rotate_left
             ·rw [if_neg c84] at H
              exact absurd H (by simp)
             rw [if_pos c84] at H
             have c84b0 : decide (x11_3 < (t173.length : Int)) = true := decide_eq_true c84
             clear c84
             by_cases c85 : 0 ≤ x12_3
             rotate_left
             ·rw [if_neg c85] at H
              exact absurd H (by simp)
             rw [if_pos c85] at H
             have c85b0 : decide (0 ≤ x12_3) = true := decide_eq_true c85
             clear c85
             by_cases c86 : x12_3 < (t176.length : Int)
             rotate_left
             ·rw [if_neg c86] at H
              exact absurd H (by simp)
             rw [if_pos c86] at H
             have c86b0 : decide (x12_3 < (t176.length : Int)) = true := decide_eq_true c86
             clear c86
             by_cases c87 : (rdOf ByteArray.empty t173 x11_3).toList = (rdOf ByteArray.empty t176 x12_3).toList
             ·rw [if_pos c87] at H
              have c87b0 : ((rdOf ByteArray.empty t173 x11_3).toList == (rdOf ByteArray.empty t176 x12_3).toList) = true := beq_iff_eq.mpr c87
              have c87b1 : ((rdOf ByteArray.empty t173 x11_3).toList != (rdOf ByteArray.empty t176 x12_3).toList) = false := bne_eq_false_iff_eq.mpr c87
              clear c87
              by_cases c88 : x11_3 < (x7_2.length : Int)
              rotate_left
              ·rw [if_neg c88] at H
               exact absurd H (by simp)
              rw [if_pos c88] at H
              have c88b0 : decide (x11_3 < (x7_2.length : Int)) = true := decide_eq_true c88
              clear c88
              by_cases c89 : x12_3 < ((rd_L3 x7_2 x11_3).length : Int)
              rotate_left
              ·rw [if_neg c89] at H
               exact absurd H (by simp)
              rw [if_pos c89] at H
              have c89b0 : decide (x12_3 < ((rd_L3 x7_2 x11_3).length : Int)) = true := decide_eq_true c89
              clear c89
              obtain ⟨ji90, hji90⟩ : ∃ j_ : Int, (wrap64 (x11_3 + 1)) = j_ := ⟨_, rfl⟩
              replace H : (if 0 ≤ (ji90) then (if (ji90) < (x7_2.length : Int) then (if 0 ≤ (wrap64 (x12_3 + 1)) then (if (wrap64 (x12_3 + 1)) < ((rd_L3 x7_2 (ji90)).length : Int) then (debuggerref40_Move.j5 kj78 t173 t176 x7_2 x10_3 x11_3 x12_3 ((rd (rd_L3 x7_2 x11_3) x12_3) == (wrap64 ((rd (rd_L3 x7_2 (ji90)) (wrap64 (x12_3 + 1))) + 1)))) else (none)) else (none)) else (none)) else (none)) = some r := by first | (rw [hji90] at H; exact H) | (simp only [hji90] at H ⊢; exact H)
              have hji90w : (IntKind.i64.wrap (x11_3 + 1)) = ji90 := (i64_w _).trans hji90
              by_cases c91 : 0 ≤ (ji90)
              rotate_left
              ·rw [if_neg c91] at H
               exact absurd H (by simp)
              rw [if_pos c91] at H
              have c91b0 : decide (0 ≤ (ji90)) = true := decide_eq_true c91
              clear c91
              by_cases c92 : (ji90) < (x7_2.length : Int)
              rotate_left
              ·rw [if_neg c92] at H
               exact absurd H (by simp)
              rw [if_pos c92] at H
              have c92b0 : decide ((ji90) < (x7_2.length : Int)) = true := decide_eq_true c92
              clear c92
              obtain ⟨ji93, hji93⟩ : ∃ j_ : Int, (wrap64 (x12_3 + 1)) = j_ := ⟨_, rfl⟩
              replace H : (if 0 ≤ (ji93) then (if (ji93) < ((rd_L3 x7_2 (ji90)).length : Int) then (debuggerref40_Move.j5 kj78 t173 t176 x7_2 x10_3 x11_3 x12_3 ((rd (rd_L3 x7_2 x11_3) x12_3) == (wrap64 ((rd (rd_L3 x7_2 (ji90)) (ji93)) + 1)))) else (none)) else (none)) = some r := by first | (rw [hji93] at H; exact H) | (simp only [hji93] at H ⊢; exact H)
              have hji93w : (IntKind.i64.wrap (x12_3 + 1)) = ji93 := (i64_w _).trans hji93
              by_cases c94 : 0 ≤ (ji93)
              rotate_left
              ·rw [if_neg c94] at H
               exact absurd H (by simp)
              rw [if_pos c94] at H
              have c94b0 : decide (0 ≤ (ji93)) = true := decide_eq_true c94
              clear c94
              by_cases c95 : (ji93) < ((rd_L3 x7_2 (ji90)).length : Int)
              rotate_left
              ·rw [if_neg c95] at H
               exact absurd H (by simp)
              rw [if_pos c95] at H
              have c95b0 : decide ((ji93) < ((rd_L3 x7_2 (ji90)).length : Int)) = true := decide_eq_true c95
              clear c95
              have H' := Aside0.mk H
              clear H
              try go_wp2
              have n0_ := Aside0.mk (Kd.R_drew HO_5.out)
              have n1_ := Aside0.mk (Kd.R_drew HO_6.out)
              have n2_ := Aside0.mk (Kd.S_drew HO_7.out)
              have n3_ := Aside0.mk (Kd.R_drew HO_10.out)
              have n4_ := Aside0.mk (below_drew1 HB.out)
              clear HO_5
              clear HO_6
              clear HO_7
              clear HO_10
              clear HB
              have HO_5 := n0_
              have HO_6 := n1_
              have HO_7 := n2_
              have HO_10 := n3_
              have HB := n4_
              clear n0_ n1_ n2_ n3_ n4_
              have p211 : 0 ≤ (x11_3 : Int) := of_decide_eq_true (by first | (with_reducible assumption) | assumption)
              have q211 : x11_3 < (t173.length : Int) := of_decide_eq_true (by first | (with_reducible assumption) | assumption)
              obtain ⟨ad211, e211, hx211_0⟩ := Kd.at_string (Kd.R_reads' HO_5.out).2.2 x11_3 p211 q211
              cases e211
              replace p211 := eq_true p211
              replace q211 := eq_true q211
              have p212 : 0 ≤ (x12_3 : Int) := of_decide_eq_true (by first | (with_reducible assumption) | assumption)
              have q212 : x12_3 < (t176.length : Int) := of_decide_eq_true (by first | (with_reducible assumption) | assumption)
              obtain ⟨ad212, e212, hx212_0⟩ := Kd.at_string (Kd.R_reads' HO_6.out).2.2 x12_3 p212 q212
              cases e212
              replace p212 := eq_true p212
              replace q212 := eq_true q212
              have p213 : 0 ≤ (x11_3 : Int) := of_decide_eq_true (by first | (with_reducible assumption) | assumption)
              have q213 : x11_3 < (x7_2.length : Int) := of_decide_eq_true (by first | (with_reducible assumption) | assumption)
              obtain ⟨ad213, A213_0, c213_0, e213, hx213_0, hl213_0, hi213_0⟩ := at_L3 (Kd.S_reads' HO_7.out).2.2 x11_3 p213 q213
              obtain rfl : (⟨go21, 0, none⟩ : Addr) = ad213 := (by injection e213)
              obtain ⟨ce213, hce213, hMe213, hcc213⟩ := Kd.S_get HO_7.out [] x11_3 p213 (by first | exact q213 | exact of_decide_eq_true (by first | (with_reducible assumption) | assumption) | (have e_ := (Kd.S_reads' HO_7.out).1; omega))
              obtain ⟨ve213_0, rfl, ge213_0⟩ := hMe213
              have hv213_0 := hcc213 0 _ rfl
              rw [Nat.add_zero, show ((Kd.slice 3 (Kd.int .i64))).sz = 1 from rfl, Nat.mul_one] at hv213_0
              replace hv213_0 := Option.some.inj (hv213_0.symm.trans hx213_0)
              rw [hv213_0] at ge213_0
              have HL213_0 := Aside0.mk (show Kd.R (Kd.int .i64) 3 _ _ _ _ (rd_L3 x7_2 x11_3) from ge213_0)
              clear hv213_0 ge213_0
              have HX213_0 := Aside0.mk hx213_0
              clear hcc213 hce213
              (first | simp only [add_plain] at hx213_0 | simp only [add_at] at hx213_0 | simp only [Addr.add, Nat.zero_add] at hx213_0 | skip)
              have HR213_0 := Aside0.mk hi213_0
              have HC213_0 := Aside0.mk hl213_0
              clear hi213_0 hl213_0
              replace p213 := eq_true p213
              replace q213 := eq_true q213
              have p214 : 0 ≤ (x12_3 : Int) := of_decide_eq_true (by first | (with_reducible assumption) | assumption)
              have q214 : x12_3 < ((rd_L3 x7_2 x11_3).length : Int) := of_decide_eq_true (by first | (with_reducible assumption) | assumption)
              obtain ⟨ad214, e214, hx214_0⟩ := Kd.at_int (by repeat (first | (with_reducible exact HR213_0.out) | (with_reducible refine Kd.C_alloc ?_ _) | (with_reducible refine Kd.C_drewN ?_ _) | (with_reducible refine Kd.C_drew ?_) | exact HR213_0.out)) x12_3 p214 q214
              cases e214
              replace p214 := eq_true p214
              replace q214 := eq_true q214
              have p215 : 0 ≤ ((ji90) : Int) := of_decide_eq_true (by first | (with_reducible assumption) | assumption)
              have q215 : (ji90) < (x7_2.length : Int) := of_decide_eq_true (by first | (with_reducible assumption) | assumption)
              obtain ⟨ad215, A215_0, c215_0, e215, hx215_0, hl215_0, hi215_0⟩ := at_L3 (Kd.S_reads' HO_7.out).2.2 (ji90) p215 q215
              obtain rfl : (⟨go21, 0, none⟩ : Addr) = ad215 := (by injection e215)
              obtain ⟨ce215, hce215, hMe215, hcc215⟩ := Kd.S_get HO_7.out [] (ji90) p215 (by first | exact q215 | exact of_decide_eq_true (by first | (with_reducible assumption) | assumption) | (have e_ := (Kd.S_reads' HO_7.out).1; omega))
              obtain ⟨ve215_0, rfl, ge215_0⟩ := hMe215
              have hv215_0 := hcc215 0 _ rfl
              rw [Nat.add_zero, show ((Kd.slice 3 (Kd.int .i64))).sz = 1 from rfl, Nat.mul_one] at hv215_0
              replace hv215_0 := Option.some.inj (hv215_0.symm.trans hx215_0)
              rw [hv215_0] at ge215_0
              have HL215_0 := Aside0.mk (show Kd.R (Kd.int .i64) 3 _ _ _ _ (rd_L3 x7_2 (ji90)) from ge215_0)
              clear hv215_0 ge215_0
              have HX215_0 := Aside0.mk hx215_0
              clear hcc215 hce215
              (first | simp only [add_plain] at hx215_0 | simp only [add_at] at hx215_0 | simp only [Addr.add, Nat.zero_add] at hx215_0 | skip)
              have HR215_0 := Aside0.mk hi215_0
              have HC215_0 := Aside0.mk hl215_0
              clear hi215_0 hl215_0
              replace p215 := eq_true p215
              replace q215 := eq_true q215
              have p216 : 0 ≤ ((ji93) : Int) := of_decide_eq_true (by first | (with_reducible assumption) | assumption)
              have q216 : (ji93) < ((rd_L3 x7_2 (ji90)).length : Int) := of_decide_eq_true (by first | (with_reducible assumption) | assumption)
              obtain ⟨ad216, e216, hx216_0⟩ := Kd.at_int (by repeat (first | (with_reducible exact HR215_0.out) | (with_reducible refine Kd.C_alloc ?_ _) | (with_reducible refine Kd.C_drewN ?_ _) | (with_reducible refine Kd.C_drew ?_) | exact HR215_0.out)) (ji93) p216 q216
              cases e216
              replace p216 := eq_true p216
              replace q216 := eq_true q216
              refine start_ (n := 30) (S := fun w' => w'.cell? (ad211.add (x11_3).toNat) = some (.string (rdOf ByteArray.empty t173 x11_3)) ∧ w'.cell? (ad212.add (x12_3).toNat) = some (.string (rdOf ByteArray.empty t176 x12_3)) ∧ w'.cell? ⟨go21, (x11_3).toNat, none⟩ = some (.slice (some ad214) (rd_L3 x7_2 x11_3).length c213_0) ∧ w'.cell? (ad214.add (x12_3).toNat) = some (.int .i64 (rd (rd_L3 x7_2 x11_3) x12_3)) ∧ w'.cell? ⟨go21, ((ji90)).toNat, none⟩ = some (.slice (some ad216) (rd_L3 x7_2 (ji90)).length c215_0) ∧ w'.cell? (ad216.add ((ji93)).toNat) = some (.int .i64 (rd (rd_L3 x7_2 (ji90)) (ji93)))) (ds := []) #[false,false,false,false,false,false,false,false,false,false,false,false,false,false,false,false,false,false,false,false,false,false,false,false,false,false,false,false,false,false] (by kernel_rfl) rfl rfl ⟨hx211_0, hx212_0, hx213_0, hx214_0, hx215_0, hx216_0⟩ (fun hHeld => ?_); refine with_tabW debuggerref40_Move.tab20 debuggerref40_Move.bits20 (fun HT_ HW_ => ?_)
              generalize wc.drew = w96 at HO_5 HO_6 HO_7 HO_10 HB HL213_0 HL215_0 HR213_0 HR215_0 HX213_0 HX215_0 hx211_0 hx212_0 hx213_0 hx214_0 hx215_0 hx216_0 hHeld ⊢
              refine pure_ (i := 0) (N := some 130) (v := ?_) (a' := ?_) #[true,false,false,false,false,false,false,false,false,false,false,false,false,false,false,false,false,false,false,false,false,false,false,false,false,false,false,false,false,false] rfl rfl (any_of HT_.out (by kernel_rfl)) (fun _ _ _ h => h) (Or.inl ⟨by rfl, ?_⟩) ?_ ?_
              rotate_left
              ·intro w'
               go_simp
               with_reducible rfl
              rotate_left
              ·simp only [Act.put, List.setIfInBounds_toArray, List.set_cons_zero, List.set_cons_succ, i64_w, i32_w]
               rfl
              refine pure_ (i := 1) (N := some 131) (v := ?_) (a' := ?_) #[true,true,false,false,false,false,false,false,false,false,false,false,false,false,false,false,false,false,false,false,false,false,false,false,false,false,false,false,false,false] rfl rfl (any_of HT_.out (by kernel_rfl)) (fun _ _ _ h => h) (Or.inl ⟨by rfl, ?_⟩) ?_ ?_
              rotate_left
              ·intro w'
               go_simp
               with_reducible rfl
              rotate_left
              ·simp only [Act.put, List.setIfInBounds_toArray, List.set_cons_zero, List.set_cons_succ, i64_w, i32_w]
               rfl
              refine pure_ (i := 2) (N := some 132) (v := ?_) (a' := ?_) #[true,true,true,false,false,false,false,false,false,false,false,false,false,false,false,false,false,false,false,false,false,false,false,false,false,false,false,false,false,false] rfl rfl (any_of HT_.out (by kernel_rfl)) (fun _ _ _ h => h) (Or.inl ⟨by rfl, ?_⟩) ?_ ?_
              rotate_left
              ·intro w'
               go_simp
               with_reducible rfl
              rotate_left
              ·simp only [Act.put, List.setIfInBounds_toArray, List.set_cons_zero, List.set_cons_succ, i64_w, i32_w]
               rfl
              refine pure_ (i := 4) (N := some 134) (v := ?_) (a' := ?_) #[true,true,true,false,true,false,false,false,false,false,false,false,false,false,false,false,false,false,false,false,false,false,false,false,false,false,false,false,false,false] rfl rfl (any_of HT_.out (by kernel_rfl)) (fun _ _ _ h => h) (Or.inl ⟨by rfl, ?_⟩) ?_ ?_
              rotate_left
              ·intro w'
               go_simp
               with_reducible rfl
              rotate_left
              ·simp only [Act.put, List.setIfInBounds_toArray, List.set_cons_zero, List.set_cons_succ, i64_w, i32_w]
               rfl
              refine pure_ (i := 5) (N := some 135) (v := ?_) (a' := ?_) #[true,true,true,false,true,true,false,false,false,false,false,false,false,false,false,false,false,false,false,false,false,false,false,false,false,false,false,false,false,false] rfl rfl (any_of HT_.out (by kernel_rfl)) (fun _ _ _ h => h) (Or.inl ⟨by rfl, ?_⟩) ?_ ?_
              rotate_left
              ·intro w'
               go_simp
               with_reducible rfl
              rotate_left
              ·simp only [Act.put, List.setIfInBounds_toArray, List.set_cons_zero, List.set_cons_succ, i64_w, i32_w]
               rfl
              refine pure_ (i := 6) (N := some 136) (v := ?_) (a' := ?_) #[true,true,true,false,true,true,true,false,false,false,false,false,false,false,false,false,false,false,false,false,false,false,false,false,false,false,false,false,false,false] rfl rfl (any_of HT_.out (by kernel_rfl)) (fun _ _ _ h => h) (Or.inl ⟨by rfl, ?_⟩) ?_ ?_
              rotate_left
              ·intro w'
               go_simp
               with_reducible rfl
              rotate_left
              ·simp only [Act.put, List.setIfInBounds_toArray, List.set_cons_zero, List.set_cons_succ, i64_w, i32_w]
               rfl
              refine take_ (i := 3) (N := some 133) (v := ?_) (a' := ?_) #[true,true,true,true,true,true,true,false,false,false,false,false,false,false,false,false,false,false,false,false,false,false,false,false,false,false,false,false,false,false] rfl rfl (take_ofW HT_.out HW_.out (by kernel_rfl)) (fun _ _ _ h => h) (Or.inl ⟨by rfl, ?_⟩) hHeld ?_ ?_
              rotate_left
              ·rintro w' ⟨s0, s1, s2, s3, s4, s5⟩
               go_simp
               with_reducible rfl
              rotate_left
              ·simp only [Act.put, List.setIfInBounds_toArray, List.set_cons_zero, List.set_cons_succ, i64_w, i32_w]
               rfl
              refine take_ (i := 7) (N := some 137) (v := ?_) (a' := ?_) #[true,true,true,true,true,true,true,true,false,false,false,false,false,false,false,false,false,false,false,false,false,false,false,false,false,false,false,false,false,false] rfl rfl (take_ofW HT_.out HW_.out (by kernel_rfl)) (fun _ _ _ h => h) (Or.inl ⟨by rfl, ?_⟩) hHeld ?_ ?_
              rotate_left
              ·rintro w' ⟨s0, s1, s2, s3, s4, s5⟩
               go_simp
               with_reducible rfl
              rotate_left
              ·simp only [Act.put, List.setIfInBounds_toArray, List.set_cons_zero, List.set_cons_succ, i64_w, i32_w]
               rfl
              refine pure_ (i := 8) (N := some 138) (v := ?_) (a' := ?_) #[true,true,true,true,true,true,true,true,true,false,false,false,false,false,false,false,false,false,false,false,false,false,false,false,false,false,false,false,false,false] rfl rfl (any_of HT_.out (by kernel_rfl)) (fun _ _ _ h => h) (Or.inl ⟨by rfl, ?_⟩) ?_ ?_
              rotate_left
              ·intro w'
               go_simp
               with_reducible rfl
              rotate_left
              ·simp only [Act.put, List.setIfInBounds_toArray, List.set_cons_zero, List.set_cons_succ, i64_w, i32_w]
               rfl
              refine pure_ (i := 9) (N := some 139) (v := ?_) (a' := ?_) #[true,true,true,true,true,true,true,true,true,true,false,false,false,false,false,false,false,false,false,false,false,false,false,false,false,false,false,false,false,false] rfl rfl (any_of HT_.out (by kernel_rfl)) (fun _ _ _ h => h) (Or.inl ⟨by rfl, ?_⟩) ?_ ?_
              rotate_left
              ·intro w'
               go_simp
               with_reducible rfl
              rotate_left
              ·simp only [Act.put, List.setIfInBounds_toArray, List.set_cons_zero, List.set_cons_succ, i64_w, i32_w]
               rfl
              refine pure_ (i := 10) (N := some 140) (v := ?_) (a' := ?_) #[true,true,true,true,true,true,true,true,true,true,true,false,false,false,false,false,false,false,false,false,false,false,false,false,false,false,false,false,false,false] rfl rfl (any_of HT_.out (by kernel_rfl)) (fun _ _ _ h => h) (Or.inl ⟨by rfl, ?_⟩) ?_ ?_
              rotate_left
              ·intro w'
               go_simp
               with_reducible rfl
              rotate_left
              ·simp only [Act.put, List.setIfInBounds_toArray, List.set_cons_zero, List.set_cons_succ, i64_w, i32_w]
               rfl
              refine pure_ (i := 11) (N := some 141) (v := ?_) (a' := ?_) #[true,true,true,true,true,true,true,true,true,true,true,true,false,false,false,false,false,false,false,false,false,false,false,false,false,false,false,false,false,false] rfl rfl (any_of HT_.out (by kernel_rfl)) (fun _ _ _ h => h) (Or.inl ⟨by rfl, ?_⟩) ?_ ?_
              rotate_left
              ·intro w'
               go_simp
               with_reducible rfl
              rotate_left
              ·simp only [Act.put, List.setIfInBounds_toArray, List.set_cons_zero, List.set_cons_succ, i64_w, i32_w]
               rfl
              refine pure_ (i := 12) (N := some 142) (v := ?_) (a' := ?_) #[true,true,true,true,true,true,true,true,true,true,true,true,true,false,false,false,false,false,false,false,false,false,false,false,false,false,false,false,false,false] rfl rfl (any_of HT_.out (by kernel_rfl)) (fun _ _ _ h => h) (Or.inl ⟨by rfl, ?_⟩) ?_ ?_
              rotate_left
              ·intro w'
               go_simp
               with_reducible rfl
              rotate_left
              ·simp only [Act.put, List.setIfInBounds_toArray, List.set_cons_zero, List.set_cons_succ, i64_w, i32_w]
               rfl
              refine pure_ (i := 14) (N := some 144) (v := ?_) (a' := ?_) #[true,true,true,true,true,true,true,true,true,true,true,true,true,false,true,false,false,false,false,false,false,false,false,false,false,false,false,false,false,false] rfl rfl (any_of HT_.out (by kernel_rfl)) (fun _ _ _ h => h) (Or.inl ⟨by rfl, ?_⟩) ?_ ?_
              rotate_left
              ·intro w'
               go_simp
               with_reducible rfl
              rotate_left
              ·simp only [Act.put, List.setIfInBounds_toArray, List.set_cons_zero, List.set_cons_succ, i64_w, i32_w]
               rfl
              refine pure_ (i := 17) (N := some 147) (v := ?_) (a' := ?_) #[true,true,true,true,true,true,true,true,true,true,true,true,true,false,true,false,false,true,false,false,false,false,false,false,false,false,false,false,false,false] rfl rfl (any_of HT_.out (by kernel_rfl)) (fun _ _ _ h => h) (Or.inl ⟨by rfl, ?_⟩) ?_ ?_
              rotate_left
              ·intro w'
               go_simp
               with_reducible rfl
              rotate_left
              ·simp only [Act.put, List.setIfInBounds_toArray, List.set_cons_zero, List.set_cons_succ, i64_w, i32_w]
               rfl
              refine pure_ (i := 18) (N := some 148) (v := ?_) (a' := ?_) #[true,true,true,true,true,true,true,true,true,true,true,true,true,false,true,false,false,true,true,false,false,false,false,false,false,false,false,false,false,false] rfl rfl (any_of HT_.out (by kernel_rfl)) (fun _ _ _ h => h) (Or.inl ⟨by rfl, ?_⟩) ?_ ?_
              rotate_left
              ·intro w'
               go_simp
               with_reducible rfl
              rotate_left
              ·simp only [Act.put, List.setIfInBounds_toArray, List.set_cons_zero, List.set_cons_succ, i64_w, i32_w]
               rfl
              refine pure_ (i := 19) (N := some 149) (v := ?_) (a' := ?_) #[true,true,true,true,true,true,true,true,true,true,true,true,true,false,true,false,false,true,true,true,false,false,false,false,false,false,false,false,false,false] rfl rfl (any_of HT_.out (by kernel_rfl)) (fun _ _ _ h => h) (Or.inl ⟨by rfl, ?_⟩) ?_ ?_
              rotate_left
              ·intro w'
               go_simp
               with_reducible rfl
              rotate_left
              ·simp only [Act.put, List.setIfInBounds_toArray, List.set_cons_zero, List.set_cons_succ, i64_w, i32_w]
               rfl
              refine pure_ (i := 20) (N := some 150) (v := ?_) (a' := ?_) #[true,true,true,true,true,true,true,true,true,true,true,true,true,false,true,false,false,true,true,true,true,false,false,false,false,false,false,false,false,false] rfl rfl (any_of HT_.out (by kernel_rfl)) (fun _ _ _ h => h) (Or.inl ⟨by rfl, ?_⟩) ?_ ?_
              rotate_left
              ·intro w'
               go_simp
               with_reducible rfl
              rotate_left
              ·simp only [Act.put, List.setIfInBounds_toArray, List.set_cons_zero, List.set_cons_succ, i64_w, i32_w]
               rfl
              refine pure_ (i := 22) (N := some 152) (v := ?_) (a' := ?_) #[true,true,true,true,true,true,true,true,true,true,true,true,true,false,true,false,false,true,true,true,true,false,true,false,false,false,false,false,false,false] rfl rfl (any_of HT_.out (by kernel_rfl)) (fun _ _ _ h => h) (Or.inl ⟨by rfl, ?_⟩) ?_ ?_
              rotate_left
              ·intro w'
               go_simp
               with_reducible rfl
              rotate_left
              ·simp only [Act.put, List.setIfInBounds_toArray, List.set_cons_zero, List.set_cons_succ, i64_w, i32_w]
               rfl
              refine pure_ (i := 23) (N := some 153) (v := ?_) (a' := ?_) #[true,true,true,true,true,true,true,true,true,true,true,true,true,false,true,false,false,true,true,true,true,false,true,true,false,false,false,false,false,false] rfl rfl (any_of HT_.out (by kernel_rfl)) (fun _ _ _ h => h) (Or.inl ⟨by rfl, ?_⟩) ?_ ?_
              rotate_left
              ·intro w'
               go_simp
               with_reducible rfl
              rotate_left
              ·simp only [Act.put, List.setIfInBounds_toArray, List.set_cons_zero, List.set_cons_succ, i64_w, i32_w]
               rfl
              refine take_ (i := 13) (N := some 143) (v := ?_) (a' := ?_) #[true,true,true,true,true,true,true,true,true,true,true,true,true,true,true,false,false,true,true,true,true,false,true,true,false,false,false,false,false,false] rfl rfl (take_ofW HT_.out HW_.out (by kernel_rfl)) (fun _ _ _ h => h) (Or.inl ⟨by rfl, ?_⟩) hHeld ?_ ?_
              rotate_left
              ·rintro w' ⟨s0, s1, s2, s3, s4, s5⟩
               go_simp
               with_reducible rfl
              rotate_left
              ·simp only [Act.put, List.setIfInBounds_toArray, List.set_cons_zero, List.set_cons_succ, i64_w, i32_w]
               rfl
              refine pure_ (i := 15) (N := some 145) (v := ?_) (a' := ?_) #[true,true,true,true,true,true,true,true,true,true,true,true,true,true,true,true,false,true,true,true,true,false,true,true,false,false,false,false,false,false] rfl rfl (any_of HT_.out (by kernel_rfl)) (fun _ _ _ h => h) (Or.inl ⟨by rfl, ?_⟩) ?_ ?_
              rotate_left
              ·intro w'
               go_simp
               with_reducible rfl
              rotate_left
              ·simp only [Act.put, List.setIfInBounds_toArray, List.set_cons_zero, List.set_cons_succ, i64_w, i32_w]
               rfl
              refine take_ (i := 16) (N := some 146) (v := ?_) (a' := ?_) #[true,true,true,true,true,true,true,true,true,true,true,true,true,true,true,true,true,true,true,true,true,false,true,true,false,false,false,false,false,false] rfl rfl (take_ofW HT_.out HW_.out (by kernel_rfl)) (fun _ _ _ h => h) (Or.inl ⟨by rfl, ?_⟩) hHeld ?_ ?_
              rotate_left
              ·rintro w' ⟨s0, s1, s2, s3, s4, s5⟩
               go_simp
               with_reducible rfl
              rotate_left
              ·simp only [Act.put, List.setIfInBounds_toArray, List.set_cons_zero, List.set_cons_succ, i64_w, i32_w]
               rfl
              refine take_ (i := 21) (N := some 151) (v := ?_) (a' := ?_) #[true,true,true,true,true,true,true,true,true,true,true,true,true,true,true,true,true,true,true,true,true,true,true,true,false,false,false,false,false,false] rfl rfl (take_ofW HT_.out HW_.out (by kernel_rfl)) (fun _ _ _ h => h) (Or.inl ⟨by rfl, ?_⟩) hHeld ?_ ?_
              rotate_left
              ·rintro w' ⟨s0, s1, s2, s3, s4, s5⟩
               go_simp
               with_reducible rfl
              rotate_left
              ·simp only [Act.put, List.setIfInBounds_toArray, List.set_cons_zero, List.set_cons_succ, i64_w, i32_w]
               rfl
              refine pure_ (i := 24) (N := some 154) (v := ?_) (a' := ?_) #[true,true,true,true,true,true,true,true,true,true,true,true,true,true,true,true,true,true,true,true,true,true,true,true,true,false,false,false,false,false] rfl rfl (any_of HT_.out (by kernel_rfl)) (fun _ _ _ h => h) (Or.inl ⟨by rfl, ?_⟩) ?_ ?_
              rotate_left
              ·intro w'
               go_simp
               with_reducible rfl
              rotate_left
              ·simp only [Act.put, List.setIfInBounds_toArray, List.set_cons_zero, List.set_cons_succ, i64_w, i32_w]
               rfl
              refine take_ (i := 25) (N := some 155) (v := ?_) (a' := ?_) #[true,true,true,true,true,true,true,true,true,true,true,true,true,true,true,true,true,true,true,true,true,true,true,true,true,true,false,false,false,false] rfl rfl (take_ofW HT_.out HW_.out (by kernel_rfl)) (fun _ _ _ h => h) (Or.inl ⟨by rfl, ?_⟩) hHeld ?_ ?_
              rotate_left
              ·rintro w' ⟨s0, s1, s2, s3, s4, s5⟩
               go_simp
               with_reducible rfl
              rotate_left
              ·simp only [Act.put, List.setIfInBounds_toArray, List.set_cons_zero, List.set_cons_succ, i64_w, i32_w]
               rfl
              refine pure_ (i := 26) (N := some 156) (v := ?_) (a' := ?_) #[true,true,true,true,true,true,true,true,true,true,true,true,true,true,true,true,true,true,true,true,true,true,true,true,true,true,true,false,false,false] rfl rfl (any_of HT_.out (by kernel_rfl)) (fun _ _ _ h => h) (Or.inl ⟨by rfl, ?_⟩) ?_ ?_
              rotate_left
              ·intro w'
               go_simp
               with_reducible rfl
              rotate_left
              ·simp only [Act.put, List.setIfInBounds_toArray, List.set_cons_zero, List.set_cons_succ, i64_w, i32_w]
               rfl
              refine pure_ (i := 27) (N := some 157) (v := ?_) (a' := ?_) #[true,true,true,true,true,true,true,true,true,true,true,true,true,true,true,true,true,true,true,true,true,true,true,true,true,true,true,true,false,false] rfl rfl (any_of HT_.out (by kernel_rfl)) (fun _ _ _ h => h) (Or.inl ⟨by rfl, ?_⟩) ?_ ?_
              rotate_left
              ·intro w'
               go_simp
               with_reducible rfl
              rotate_left
              ·simp only [Act.put, List.setIfInBounds_toArray, List.set_cons_zero, List.set_cons_succ, i64_w, i32_w]
               rfl
              refine pure_ (i := 28) (N := some 158) (v := ?_) (a' := ?_) #[true,true,true,true,true,true,true,true,true,true,true,true,true,true,true,true,true,true,true,true,true,true,true,true,true,true,true,true,true,false] rfl rfl (any_of HT_.out (by kernel_rfl)) (fun _ _ _ h => h) (Or.inl ⟨by rfl, ?_⟩) ?_ ?_
              rotate_left
              ·intro w'
               go_simp
               with_reducible rfl
              rotate_left
              ·simp only [Act.put, List.setIfInBounds_toArray, List.set_cons_zero, List.set_cons_succ, i64_w, i32_w]
               rfl
              refine pure_ (i := 29) (N := some 129) (v := ?_) (a' := ?_) #[true,true,true,true,true,true,true,true,true,true,true,true,true,true,true,true,true,true,true,true,true,true,true,true,true,true,true,true,true,true] rfl rfl (any_of HT_.out (by kernel_rfl)) (fun _ _ _ h => h) (Or.inl ⟨by rfl, ?_⟩) ?_ ?_
              rotate_left
              ·intro w'
               go_simp
               with_reducible rfl
              rotate_left
              ·simp only [Act.put, List.setIfInBounds_toArray, List.set_cons_zero, List.set_cons_succ, i64_w, i32_w]
               rfl
              refine done_ (done_of HT_.out (by kernel_rfl)) ?_
              try go_wp2
              go_meet
              case rel => exact ⟨_, (((rd (rd_L3 x7_2 x11_3) x12_3) == (wrap64 ((rd (rd_L3 x7_2 (ji90)) (ji93)) + 1)))), (by first | rfl | (simp; done) | (simp only [← hji90, ← hji93] <;> (first | rfl | simp)) | (simp [*]; done)), H', ⟨by have := HJ4.out; have := HK2.out; have := HK3.out; have := HJ78.out; first | omega | exact Nat.le_refl _⟩, ⟨by (try simp only [hl7_2]); (with_reducible repeat (first | apply Kd.R_alloc | apply Kd.R_drewN | apply Kd.R_drew)); exact HO_5.out⟩, ⟨by (try simp only [hl7_2]); (with_reducible repeat (first | apply Kd.R_alloc | apply Kd.R_drewN | apply Kd.R_drew)); exact HO_6.out⟩, ⟨by (try simp only [hl7_2]); (with_reducible repeat (first | apply Kd.S_alloc | apply Kd.S_drewN | apply Kd.S_drew)); exact HO_7.out⟩, ⟨by (try simp only [hl7_2]); (with_reducible repeat (first | apply Kd.R_alloc | apply Kd.R_drewN | apply Kd.R_drew)); exact HO_10.out⟩, ⟨by repeat (first | (with_reducible first | exact HB.out | apply below_alloc | apply pw_below_drewN | apply below_drew1) | exact HB.out)⟩⟩
             ·rw [if_neg c87] at H
              have c87b0 : ((rdOf ByteArray.empty t173 x11_3).toList == (rdOf ByteArray.empty t176 x12_3).toList) = false := beq_eq_false_iff_ne.mpr c87
              have c87b1 : ((rdOf ByteArray.empty t173 x11_3).toList != (rdOf ByteArray.empty t176 x12_3).toList) = true := bne_iff_ne.mpr c87
              have H' := Aside0.mk H
              clear H
              try go_wp2
              have n0_ := Aside0.mk (Kd.R_drew HO_5.out)
              have n1_ := Aside0.mk (Kd.R_drew HO_6.out)
              have n2_ := Aside0.mk (Kd.S_drew HO_7.out)
              have n3_ := Aside0.mk (Kd.R_drew HO_10.out)
              have n4_ := Aside0.mk (below_drew1 HB.out)
              clear HO_5
              clear HO_6
              clear HO_7
              clear HO_10
              clear HB
              have HO_5 := n0_
              have HO_6 := n1_
              have HO_7 := n2_
              have HO_10 := n3_
              have HB := n4_
              clear n0_ n1_ n2_ n3_ n4_
              have p211 : 0 ≤ (x11_3 : Int) := of_decide_eq_true (by first | (with_reducible assumption) | assumption)
              have q211 : x11_3 < (t173.length : Int) := of_decide_eq_true (by first | (with_reducible assumption) | assumption)
              obtain ⟨ad211, e211, hx211_0⟩ := Kd.at_string (Kd.R_reads' HO_5.out).2.2 x11_3 p211 q211
              cases e211
              replace p211 := eq_true p211
              replace q211 := eq_true q211
              have p212 : 0 ≤ (x12_3 : Int) := of_decide_eq_true (by first | (with_reducible assumption) | assumption)
              have q212 : x12_3 < (t176.length : Int) := of_decide_eq_true (by first | (with_reducible assumption) | assumption)
              obtain ⟨ad212, e212, hx212_0⟩ := Kd.at_string (Kd.R_reads' HO_6.out).2.2 x12_3 p212 q212
              cases e212
              replace p212 := eq_true p212
              replace q212 := eq_true q212
              refine start_ (n := 30) (S := fun w' => w'.cell? (ad211.add (x11_3).toNat) = some (.string (rdOf ByteArray.empty t173 x11_3)) ∧ w'.cell? (ad212.add (x12_3).toNat) = some (.string (rdOf ByteArray.empty t176 x12_3))) (ds := []) #[false,false,false,false,false,false,false,false,false,false,false,false,false,false,false,false,false,false,false,false,false,false,false,false,false,false,false,false,false,false] (by kernel_rfl) rfl rfl ⟨hx211_0, hx212_0⟩ (fun hHeld => ?_); refine with_tabW debuggerref40_Move.tab20 debuggerref40_Move.bits20 (fun HT_ HW_ => ?_)
              generalize wc.drew = w97 at HO_5 HO_6 HO_7 HO_10 HB hx211_0 hx212_0 hHeld ⊢
              refine pure_ (i := 0) (N := some 130) (v := ?_) (a' := ?_) #[true,false,false,false,false,false,false,false,false,false,false,false,false,false,false,false,false,false,false,false,false,false,false,false,false,false,false,false,false,false] rfl rfl (any_of HT_.out (by kernel_rfl)) (fun _ _ _ h => h) (Or.inl ⟨by rfl, ?_⟩) ?_ ?_
              rotate_left
              ·intro w'
               go_simp
               with_reducible rfl
              rotate_left
              ·simp only [Act.put, List.setIfInBounds_toArray, List.set_cons_zero, List.set_cons_succ, i64_w, i32_w]
               rfl
              refine pure_ (i := 1) (N := some 131) (v := ?_) (a' := ?_) #[true,true,false,false,false,false,false,false,false,false,false,false,false,false,false,false,false,false,false,false,false,false,false,false,false,false,false,false,false,false] rfl rfl (any_of HT_.out (by kernel_rfl)) (fun _ _ _ h => h) (Or.inl ⟨by rfl, ?_⟩) ?_ ?_
              rotate_left
              ·intro w'
               go_simp
               with_reducible rfl
              rotate_left
              ·simp only [Act.put, List.setIfInBounds_toArray, List.set_cons_zero, List.set_cons_succ, i64_w, i32_w]
               rfl
              refine pure_ (i := 2) (N := some 132) (v := ?_) (a' := ?_) #[true,true,true,false,false,false,false,false,false,false,false,false,false,false,false,false,false,false,false,false,false,false,false,false,false,false,false,false,false,false] rfl rfl (any_of HT_.out (by kernel_rfl)) (fun _ _ _ h => h) (Or.inl ⟨by rfl, ?_⟩) ?_ ?_
              rotate_left
              ·intro w'
               go_simp
               with_reducible rfl
              rotate_left
              ·simp only [Act.put, List.setIfInBounds_toArray, List.set_cons_zero, List.set_cons_succ, i64_w, i32_w]
               rfl
              refine pure_ (i := 4) (N := some 134) (v := ?_) (a' := ?_) #[true,true,true,false,true,false,false,false,false,false,false,false,false,false,false,false,false,false,false,false,false,false,false,false,false,false,false,false,false,false] rfl rfl (any_of HT_.out (by kernel_rfl)) (fun _ _ _ h => h) (Or.inl ⟨by rfl, ?_⟩) ?_ ?_
              rotate_left
              ·intro w'
               go_simp
               with_reducible rfl
              rotate_left
              ·simp only [Act.put, List.setIfInBounds_toArray, List.set_cons_zero, List.set_cons_succ, i64_w, i32_w]
               rfl
              refine pure_ (i := 5) (N := some 135) (v := ?_) (a' := ?_) #[true,true,true,false,true,true,false,false,false,false,false,false,false,false,false,false,false,false,false,false,false,false,false,false,false,false,false,false,false,false] rfl rfl (any_of HT_.out (by kernel_rfl)) (fun _ _ _ h => h) (Or.inl ⟨by rfl, ?_⟩) ?_ ?_
              rotate_left
              ·intro w'
               go_simp
               with_reducible rfl
              rotate_left
              ·simp only [Act.put, List.setIfInBounds_toArray, List.set_cons_zero, List.set_cons_succ, i64_w, i32_w]
               rfl
              refine pure_ (i := 6) (N := some 136) (v := ?_) (a' := ?_) #[true,true,true,false,true,true,true,false,false,false,false,false,false,false,false,false,false,false,false,false,false,false,false,false,false,false,false,false,false,false] rfl rfl (any_of HT_.out (by kernel_rfl)) (fun _ _ _ h => h) (Or.inl ⟨by rfl, ?_⟩) ?_ ?_
              rotate_left
              ·intro w'
               go_simp
               with_reducible rfl
              rotate_left
              ·simp only [Act.put, List.setIfInBounds_toArray, List.set_cons_zero, List.set_cons_succ, i64_w, i32_w]
               rfl
              refine take_ (i := 3) (N := some 133) (v := ?_) (a' := ?_) #[true,true,true,true,true,true,true,false,false,false,false,false,false,false,false,false,false,false,false,false,false,false,false,false,false,false,false,false,false,false] rfl rfl (take_ofW HT_.out HW_.out (by kernel_rfl)) (fun _ _ _ h => h) (Or.inl ⟨by rfl, ?_⟩) hHeld ?_ ?_
              rotate_left
              ·rintro w' ⟨s0, s1⟩
               go_simp
               with_reducible rfl
              rotate_left
              ·simp only [Act.put, List.setIfInBounds_toArray, List.set_cons_zero, List.set_cons_succ, i64_w, i32_w]
               rfl
              refine take_ (i := 7) (N := some 137) (v := ?_) (a' := ?_) #[true,true,true,true,true,true,true,true,false,false,false,false,false,false,false,false,false,false,false,false,false,false,false,false,false,false,false,false,false,false] rfl rfl (take_ofW HT_.out HW_.out (by kernel_rfl)) (fun _ _ _ h => h) (Or.inl ⟨by rfl, ?_⟩) hHeld ?_ ?_
              rotate_left
              ·rintro w' ⟨s0, s1⟩
               go_simp
               with_reducible rfl
              rotate_left
              ·simp only [Act.put, List.setIfInBounds_toArray, List.set_cons_zero, List.set_cons_succ, i64_w, i32_w]
               rfl
              refine pure_ (i := 8) (N := some 138) (v := ?_) (a' := ?_) #[true,true,true,true,true,true,true,true,true,false,false,false,false,false,false,false,false,false,false,false,false,false,false,false,false,false,false,false,false,false] rfl rfl (any_of HT_.out (by kernel_rfl)) (fun _ _ _ h => h) (Or.inl ⟨by rfl, ?_⟩) ?_ ?_
              rotate_left
              ·intro w'
               go_simp
               with_reducible rfl
              rotate_left
              ·simp only [Act.put, List.setIfInBounds_toArray, List.set_cons_zero, List.set_cons_succ, i64_w, i32_w]
               rfl
              refine pure_ (i := 9) (N := some 139) (v := ?_) (a' := ?_) #[true,true,true,true,true,true,true,true,true,true,false,false,false,false,false,false,false,false,false,false,false,false,false,false,false,false,false,false,false,false] rfl rfl (any_of HT_.out (by kernel_rfl)) (fun _ _ _ h => h) (Or.inl ⟨by rfl, ?_⟩) ?_ ?_
              rotate_left
              ·intro w'
               go_simp
               with_reducible rfl
              rotate_left
              ·simp only [Act.put, List.setIfInBounds_toArray, List.set_cons_zero, List.set_cons_succ, i64_w, i32_w]
               rfl
              refine pure_ (i := 10) (N := some 140) (v := undef) (a' := ?_) #[true,true,true,true,true,true,true,true,true,true,true,false,false,false,false,false,false,false,false,false,false,false,false,false,false,false,false,false,false,false] rfl rfl (any_of HT_.out (by kernel_rfl)) (fun _ _ _ h => h) (Or.inr ⟨by rfl, rfl⟩) ?_ ?_
              rotate_left
              ·simp only [Act.put, List.setIfInBounds_toArray, List.set_cons_zero, List.set_cons_succ, i64_w, i32_w]
               rfl
              refine pure_ (i := 11) (N := some 141) (v := undef) (a' := ?_) #[true,true,true,true,true,true,true,true,true,true,true,true,false,false,false,false,false,false,false,false,false,false,false,false,false,false,false,false,false,false] rfl rfl (any_of HT_.out (by kernel_rfl)) (fun _ _ _ h => h) (Or.inr ⟨by rfl, rfl⟩) ?_ ?_
              rotate_left
              ·simp only [Act.put, List.setIfInBounds_toArray, List.set_cons_zero, List.set_cons_succ, i64_w, i32_w]
               rfl
              refine pure_ (i := 12) (N := some 142) (v := undef) (a' := ?_) #[true,true,true,true,true,true,true,true,true,true,true,true,true,false,false,false,false,false,false,false,false,false,false,false,false,false,false,false,false,false] rfl rfl (any_of HT_.out (by kernel_rfl)) (fun _ _ _ h => h) (Or.inr ⟨by rfl, rfl⟩) ?_ ?_
              rotate_left
              ·simp only [Act.put, List.setIfInBounds_toArray, List.set_cons_zero, List.set_cons_succ, i64_w, i32_w]
               rfl
              refine pure_ (i := 13) (N := some 143) (v := undef) (a' := ?_) #[true,true,true,true,true,true,true,true,true,true,true,true,true,true,false,false,false,false,false,false,false,false,false,false,false,false,false,false,false,false] rfl rfl (any_of HT_.out (by kernel_rfl)) (fun _ _ _ h => h) (Or.inr ⟨by rfl, rfl⟩) ?_ ?_
              rotate_left
              ·simp only [Act.put, List.setIfInBounds_toArray, List.set_cons_zero, List.set_cons_succ, i64_w, i32_w]
               rfl
              refine pure_ (i := 14) (N := some 144) (v := undef) (a' := ?_) #[true,true,true,true,true,true,true,true,true,true,true,true,true,true,true,false,false,false,false,false,false,false,false,false,false,false,false,false,false,false] rfl rfl (any_of HT_.out (by kernel_rfl)) (fun _ _ _ h => h) (Or.inr ⟨by rfl, rfl⟩) ?_ ?_
              rotate_left
              ·simp only [Act.put, List.setIfInBounds_toArray, List.set_cons_zero, List.set_cons_succ, i64_w, i32_w]
               rfl
              refine pure_ (i := 15) (N := some 145) (v := undef) (a' := ?_) #[true,true,true,true,true,true,true,true,true,true,true,true,true,true,true,true,false,false,false,false,false,false,false,false,false,false,false,false,false,false] rfl rfl (any_of HT_.out (by kernel_rfl)) (fun _ _ _ h => h) (Or.inr ⟨by rfl, rfl⟩) ?_ ?_
              rotate_left
              ·simp only [Act.put, List.setIfInBounds_toArray, List.set_cons_zero, List.set_cons_succ, i64_w, i32_w]
               rfl
              refine pure_ (i := 16) (N := some 146) (v := undef) (a' := ?_) #[true,true,true,true,true,true,true,true,true,true,true,true,true,true,true,true,true,false,false,false,false,false,false,false,false,false,false,false,false,false] rfl rfl (any_of HT_.out (by kernel_rfl)) (fun _ _ _ h => h) (Or.inr ⟨by rfl, rfl⟩) ?_ ?_
              rotate_left
              ·simp only [Act.put, List.setIfInBounds_toArray, List.set_cons_zero, List.set_cons_succ, i64_w, i32_w]
               rfl
              refine pure_ (i := 17) (N := some 147) (v := undef) (a' := ?_) #[true,true,true,true,true,true,true,true,true,true,true,true,true,true,true,true,true,true,false,false,false,false,false,false,false,false,false,false,false,false] rfl rfl (any_of HT_.out (by kernel_rfl)) (fun _ _ _ h => h) (Or.inr ⟨by rfl, rfl⟩) ?_ ?_
              rotate_left
              ·simp only [Act.put, List.setIfInBounds_toArray, List.set_cons_zero, List.set_cons_succ, i64_w, i32_w]
               rfl
              refine pure_ (i := 18) (N := some 148) (v := undef) (a' := ?_) #[true,true,true,true,true,true,true,true,true,true,true,true,true,true,true,true,true,true,true,false,false,false,false,false,false,false,false,false,false,false] rfl rfl (any_of HT_.out (by kernel_rfl)) (fun _ _ _ h => h) (Or.inr ⟨by rfl, rfl⟩) ?_ ?_
              rotate_left
              ·simp only [Act.put, List.setIfInBounds_toArray, List.set_cons_zero, List.set_cons_succ, i64_w, i32_w]
               rfl
              refine pure_ (i := 19) (N := some 149) (v := undef) (a' := ?_) #[true,true,true,true,true,true,true,true,true,true,true,true,true,true,true,true,true,true,true,true,false,false,false,false,false,false,false,false,false,false] rfl rfl (any_of HT_.out (by kernel_rfl)) (fun _ _ _ h => h) (Or.inr ⟨by rfl, rfl⟩) ?_ ?_
              rotate_left
              ·simp only [Act.put, List.setIfInBounds_toArray, List.set_cons_zero, List.set_cons_succ, i64_w, i32_w]
               rfl
              refine pure_ (i := 20) (N := some 150) (v := undef) (a' := ?_) #[true,true,true,true,true,true,true,true,true,true,true,true,true,true,true,true,true,true,true,true,true,false,false,false,false,false,false,false,false,false] rfl rfl (any_of HT_.out (by kernel_rfl)) (fun _ _ _ h => h) (Or.inr ⟨by rfl, rfl⟩) ?_ ?_
              rotate_left
              ·simp only [Act.put, List.setIfInBounds_toArray, List.set_cons_zero, List.set_cons_succ, i64_w, i32_w]
               rfl
              refine pure_ (i := 21) (N := some 151) (v := undef) (a' := ?_) #[true,true,true,true,true,true,true,true,true,true,true,true,true,true,true,true,true,true,true,true,true,true,false,false,false,false,false,false,false,false] rfl rfl (any_of HT_.out (by kernel_rfl)) (fun _ _ _ h => h) (Or.inr ⟨by rfl, rfl⟩) ?_ ?_
              rotate_left
              ·simp only [Act.put, List.setIfInBounds_toArray, List.set_cons_zero, List.set_cons_succ, i64_w, i32_w]
               rfl
              refine pure_ (i := 22) (N := some 152) (v := undef) (a' := ?_) #[true,true,true,true,true,true,true,true,true,true,true,true,true,true,true,true,true,true,true,true,true,true,true,false,false,false,false,false,false,false] rfl rfl (any_of HT_.out (by kernel_rfl)) (fun _ _ _ h => h) (Or.inr ⟨by rfl, rfl⟩) ?_ ?_
              rotate_left
              ·simp only [Act.put, List.setIfInBounds_toArray, List.set_cons_zero, List.set_cons_succ, i64_w, i32_w]
               rfl
              refine pure_ (i := 23) (N := some 153) (v := undef) (a' := ?_) #[true,true,true,true,true,true,true,true,true,true,true,true,true,true,true,true,true,true,true,true,true,true,true,true,false,false,false,false,false,false] rfl rfl (any_of HT_.out (by kernel_rfl)) (fun _ _ _ h => h) (Or.inr ⟨by rfl, rfl⟩) ?_ ?_
              rotate_left
              ·simp only [Act.put, List.setIfInBounds_toArray, List.set_cons_zero, List.set_cons_succ, i64_w, i32_w]
               rfl
              refine pure_ (i := 24) (N := some 154) (v := undef) (a' := ?_) #[true,true,true,true,true,true,true,true,true,true,true,true,true,true,true,true,true,true,true,true,true,true,true,true,true,false,false,false,false,false] rfl rfl (any_of HT_.out (by kernel_rfl)) (fun _ _ _ h => h) (Or.inr ⟨by rfl, rfl⟩) ?_ ?_
              rotate_left
              ·simp only [Act.put, List.setIfInBounds_toArray, List.set_cons_zero, List.set_cons_succ, i64_w, i32_w]
               rfl
              refine pure_ (i := 25) (N := some 155) (v := undef) (a' := ?_) #[true,true,true,true,true,true,true,true,true,true,true,true,true,true,true,true,true,true,true,true,true,true,true,true,true,true,false,false,false,false] rfl rfl (any_of HT_.out (by kernel_rfl)) (fun _ _ _ h => h) (Or.inr ⟨by rfl, rfl⟩) ?_ ?_
              rotate_left
              ·simp only [Act.put, List.setIfInBounds_toArray, List.set_cons_zero, List.set_cons_succ, i64_w, i32_w]
               rfl
              refine pure_ (i := 26) (N := some 156) (v := undef) (a' := ?_) #[true,true,true,true,true,true,true,true,true,true,true,true,true,true,true,true,true,true,true,true,true,true,true,true,true,true,true,false,false,false] rfl rfl (any_of HT_.out (by kernel_rfl)) (fun _ _ _ h => h) (Or.inr ⟨by rfl, rfl⟩) ?_ ?_
              rotate_left
              ·simp only [Act.put, List.setIfInBounds_toArray, List.set_cons_zero, List.set_cons_succ, i64_w, i32_w]
               rfl
              refine pure_ (i := 27) (N := some 157) (v := undef) (a' := ?_) #[true,true,true,true,true,true,true,true,true,true,true,true,true,true,true,true,true,true,true,true,true,true,true,true,true,true,true,true,false,false] rfl rfl (any_of HT_.out (by kernel_rfl)) (fun _ _ _ h => h) (Or.inr ⟨by rfl, rfl⟩) ?_ ?_
              rotate_left
              ·simp only [Act.put, List.setIfInBounds_toArray, List.set_cons_zero, List.set_cons_succ, i64_w, i32_w]
               rfl
              refine pure_ (i := 28) (N := some 158) (v := ?_) (a' := ?_) #[true,true,true,true,true,true,true,true,true,true,true,true,true,true,true,true,true,true,true,true,true,true,true,true,true,true,true,true,true,false] rfl rfl (any_of HT_.out (by kernel_rfl)) (fun _ _ _ h => h) (Or.inl ⟨by rfl, ?_⟩) ?_ ?_
              rotate_left
              ·intro w'
               go_simp
               with_reducible rfl
              rotate_left
              ·simp only [Act.put, List.setIfInBounds_toArray, List.set_cons_zero, List.set_cons_succ, i64_w, i32_w]
               rfl
              refine pure_ (i := 29) (N := some 129) (v := ?_) (a' := ?_) #[true,true,true,true,true,true,true,true,true,true,true,true,true,true,true,true,true,true,true,true,true,true,true,true,true,true,true,true,true,true] rfl rfl (any_of HT_.out (by kernel_rfl)) (fun _ _ _ h => h) (Or.inl ⟨by rfl, ?_⟩) ?_ ?_
              rotate_left
              ·intro w'
               go_simp
               with_reducible rfl
              rotate_left
              ·simp only [Act.put, List.setIfInBounds_toArray, List.set_cons_zero, List.set_cons_succ, i64_w, i32_w]
               rfl
              refine done_ (done_of HT_.out (by kernel_rfl)) ?_
              try go_wp2
              go_meet
              case rel => exact ⟨_, (false), (by first | rfl | (simp; done) | (simp [*]; done)), H', ⟨by have := HJ4.out; have := HK2.out; have := HK3.out; have := HJ78.out; first | omega | exact Nat.le_refl _⟩, ⟨by (try simp only [hl7_2]); (with_reducible repeat (first | apply Kd.R_alloc | apply Kd.R_drewN | apply Kd.R_drew)); exact HO_5.out⟩, ⟨by (try simp only [hl7_2]); (with_reducible repeat (first | apply Kd.R_alloc | apply Kd.R_drewN | apply Kd.R_drew)); exact HO_6.out⟩, ⟨by (try simp only [hl7_2]); (with_reducible repeat (first | apply Kd.S_alloc | apply Kd.S_drewN | apply Kd.S_drew)); exact HO_7.out⟩, ⟨by (try simp only [hl7_2]); (with_reducible repeat (first | apply Kd.R_alloc | apply Kd.R_drewN | apply Kd.R_drew)); exact HO_10.out⟩, ⟨by repeat (first | (with_reducible first | exact HB.out | apply below_alloc | apply pw_below_drewN | apply below_drew1) | exact HB.out)⟩⟩
            case rest =>
             clear HC82
             try clear c2
             try clear p2
             try clear q2
             try clear hx2
             try clear p6
             try clear c8
             try clear c9
             try clear c21
             try clear p21
             try clear q21
             try clear hx21
             try clear p64
             try clear c83
             try clear c84
             try clear c85
             try clear c85b0
             try clear c86
             try clear c86b0
             try clear c87
             try clear c87b0
             try clear c87b1
             try clear c88
             try clear c88b0
             try clear c89
             try clear c89b0
             try clear c91
             try clear c91b0
             try clear c92
             try clear c92b0
             try clear c94
             try clear c94b0
             try clear c95
             try clear c95b0
             try clear hx211_0
             try clear hx212_0
             try clear hx213_0
             try clear hx214_0
             try clear hx215_0
             try clear hx216_0
             try clear p211
             try clear p212
             try clear p213
             try clear p214
             try clear p215
             try clear p216
             try clear q211
             try clear q212
             try clear q213
             try clear q214
             try clear q215
             try clear q216
             obtain ⟨kq, x129_81, rfl, HA, HJ81, HO_5, HO_6, HO_7, HO_10, HB⟩ := hcut
             cases kq with
             | zero => exact absurd HA.out (by simp [debuggerref40_Move.j5])
             | succ kj81 =>
              have H := HA.out
              clear HA
              simp only [debuggerref40_Move.j5] at H
              by_cases c98 : x129_81 = true
              ·subst c98
               have H1 : (if 0 ≤ x11_3 then (if x11_3 < (x10_3.length : Int) then (debuggerref40_Move.l2 kj81 t173 t176 x7_2 (x10_3.set (x11_3 : Int).toNat (wrap64 (x12_3 + 1))) (wrap64 (x11_3 + 1)) (wrap64 (x12_3 + 1))) else (none)) else (none)) = some r := by rw [if_pos rfl] at H; exact H
               clear H
               have H := H1
               clear H1
               by_cases c99 : 0 ≤ x11_3
               rotate_left
               ·rw [if_neg c99] at H
                exact absurd H (by simp)
               rw [if_pos c99] at H
               have c99b0 : decide (0 ≤ x11_3) = true := decide_eq_true c99
               clear c99
               by_cases c100 : x11_3 < (x10_3.length : Int)
               rotate_left
               ·rw [if_neg c100] at H
                exact absurd H (by simp)
               rw [if_pos c100] at H
               have c100b0 : decide (x11_3 < (x10_3.length : Int)) = true := decide_eq_true c100
               clear c100
               obtain ⟨y217, hy217⟩ : ∃ y_ : List Int, y_ = (x10_3.set (x11_3 : Int).toNat (wrap64 (x12_3 + 1))) := ⟨_, rfl⟩
               replace H : (debuggerref40_Move.l2 kj81 t173 t176 x7_2 y217 (wrap64 (x11_3 + 1)) (wrap64 (x12_3 + 1))) = some r := by first | (rw [hy217]; with_reducible exact H) | (have H2_ := (Option.bind_some _ _).symm.trans H; rw [hy217]; with_reducible exact H2_) | (have H2_ := (Option.bind_some _ _).symm.trans H; with_reducible exact H2_) | with_reducible exact H | (rw [hy217]; exact H) | exact H
               have Ny217 := Aside0.mk hy217
               clear hy217
               have H' := Aside0.mk H
               clear H
               have p101 : 0 ≤ (x11_3 : Int) := of_decide_eq_true (by first | (with_reducible assumption) | assumption)
               have q101 : (x11_3 : Int) < ((x10_3.length : Int) : Int) := of_decide_eq_true (by first | (with_reducible assumption) | assumption)
               obtain ⟨go101, co101, eo101, gb101, gl101, cl101, HG101⟩ := Kd.R_form HO_10.out (by omega)
               (first | cases eo101 | (injection eo101 with ea_ en_ ec_; (first | subst ea_ | (injection ea_ with ea_; subst ea_)); subst ec_; clear en_))
               have GB101 := Aside0.mk gb101
               have GG101 := Aside0.mk HG101
               clear gb101 gl101 HG101
               obtain ⟨hx101_0, hf101_0⟩ := Kd.R_celln 0 HO_10.out (x11_3 : Int) p101 q101
               replace p101 := eq_true p101
               replace q101 := eq_true q101
               have HP102 := Kd.R_putg HO_10.out (x11_3 : Int) (wrap64 (x12_3 + 1))
               go_wp2_with (first | ((with_reducible refine gate_store (t := 3) (p := 163) rfl ?_); refine store_event (t := 3) (p := 163) (v := ?vo_w103) (w1 := (wc.setCell ⟨go101, (x11_3 : Int).toNat, none⟩ (.int .i64 (wrap64 (x12_3 + 1))))) ?hg ?ho ?hn ?hr ?_; (case ho => rfl); (case hg => rfl); (case hn => rfl); (case hr => first | (go_simp; done) | (go_simp; rfl)); intro w103 hw; have hg : wc.grownBy w103 (some go101) := (by rw [hw]; exact HP102.2); have hp_ : Kd.R (Kd.int .i64) 3 w103 w.heap.size (fun _ => True) (.slice (some ⟨go101, 0, none⟩) x10_3.length co101) y217 := (by rw [hw, Ny217.out]; exact HP102.1); clear HP102; have n0_ := Aside0.mk (Kd.R_over' (v := (.slice (some ⟨go101, 0, none⟩) x10_3.length co101)) (by (with_reducible repeat (first | apply Kd.R_alloc | apply Kd.R_drewN | apply Kd.R_drew)); exact HO_5.out) (Kd.R_typed HO_10.out) (by decide) hg); have n1_ := Aside0.mk (Kd.R_over' (v := (.slice (some ⟨go101, 0, none⟩) x10_3.length co101)) (by (with_reducible repeat (first | apply Kd.R_alloc | apply Kd.R_drewN | apply Kd.R_drew)); exact HO_6.out) (Kd.R_typed HO_10.out) (by decide) hg); have n2_ := Aside0.mk (Kd.S_after (v := (.slice (some ⟨go101, 0, none⟩) x10_3.length co101)) (v1 := (.slice (some ⟨go101, 0, none⟩) x10_3.length co101)) (ok := (fun _ => True)) (by (with_reducible repeat (first | apply Kd.S_alloc | apply Kd.S_drewN | apply Kd.S_drew)); exact Kd.S_mono HO_7.out (fun _ hk => ⟨trivial, hk⟩)) hg (.inl rfl)); have n3_ := Aside0.mk (hp_); have n4_ := Aside0.mk ((by rw [hw]; exact below_set (HB.out) GB101.out : Below w.heap.size w w103)); clear HO_5; clear HO_6; clear HO_7; clear HO_10; clear HB; have HO_5 := n0_; have HO_6 := n1_; have HO_7 := n2_; have HO_10 := n3_; have HB := n4_; clear n0_ n1_ n2_ n3_ n4_; clear hg hw hp_))
               go_roundg kj81
               case measure => have := HJ4.out; have := HK2.out; have := HK3.out; have := HJ78.out; have := HJ81.out; omega
               case rel => exact ⟨(y217), (wrap64 (x11_3 + 1)), (wrap64 (x12_3 + 1)), (by first | rfl | (simp; done) | (simp [*]; done)), (by first | rfl | (simp; done) | (simp [*]; done)), H', ⟨by have := HJ4.out; have := HK2.out; have := HK3.out; have := HJ78.out; have := HJ81.out; omega⟩, ⟨by (try simp only [hl7_2]); (with_reducible repeat (first | apply Kd.R_alloc | apply Kd.R_drewN | apply Kd.R_drew)); exact HO_5.out⟩, ⟨by (try simp only [hl7_2]); (with_reducible repeat (first | apply Kd.R_alloc | apply Kd.R_drewN | apply Kd.R_drew)); exact HO_6.out⟩, ⟨by (try simp only [hl7_2]); (with_reducible repeat (first | apply Kd.S_alloc | apply Kd.S_drewN | apply Kd.S_drew)); exact Kd.S_mono HO_7.out (fun _ hk => hk.2)⟩, ⟨by (try simp only [hl7_2]); (with_reducible repeat (first | apply Kd.R_alloc | apply Kd.R_drewN | apply Kd.R_drew)); exact HO_10.out⟩, ⟨by repeat (first | (with_reducible first | exact HB.out | apply below_alloc | apply pw_below_drewN | apply below_drew1) | exact HB.out)⟩⟩
              ·replace c98 := Bool.eq_false_iff.mpr c98
               subst c98
               have H1 : (if 0 ≤ (wrap64 (x11_3 + 1)) then (if (wrap64 (x11_3 + 1)) < (x7_2.length : Int) then (if 0 ≤ x12_3 then (if x12_3 < ((rd_L3 x7_2 (wrap64 (x11_3 + 1))).length : Int) then (if 0 ≤ x11_3 then (if x11_3 < (x7_2.length : Int) then (if 0 ≤ (wrap64 (x12_3 + 1)) then (if (wrap64 (x12_3 + 1)) < ((rd_L3 x7_2 x11_3).length : Int) then (if (rd (rd_L3 x7_2 (wrap64 (x11_3 + 1))) x12_3) ≥ (rd (rd_L3 x7_2 x11_3) (wrap64 (x12_3 + 1))) then (debuggerref40_Move.l2 kj81 t173 t176 x7_2 x10_3 (wrap64 (x11_3 + 1)) x12_3) else (debuggerref40_Move.l2 kj81 t173 t176 x7_2 x10_3 x11_3 (wrap64 (x12_3 + 1)))) else (none)) else (none)) else (none)) else (none)) else (none)) else (none)) else (none)) else (none)) = some r := by rw [if_neg (show ¬ (false = true) by decide)] at H; exact H
               clear H
               have H := H1
               clear H1
               obtain ⟨ji104, hji104⟩ : ∃ j_ : Int, (wrap64 (x11_3 + 1)) = j_ := ⟨_, rfl⟩
               replace H : (if 0 ≤ (ji104) then (if (ji104) < (x7_2.length : Int) then (if 0 ≤ x12_3 then (if x12_3 < ((rd_L3 x7_2 (ji104)).length : Int) then (if 0 ≤ x11_3 then (if x11_3 < (x7_2.length : Int) then (if 0 ≤ (wrap64 (x12_3 + 1)) then (if (wrap64 (x12_3 + 1)) < ((rd_L3 x7_2 x11_3).length : Int) then (if (rd (rd_L3 x7_2 (ji104)) x12_3) ≥ (rd (rd_L3 x7_2 x11_3) (wrap64 (x12_3 + 1))) then (debuggerref40_Move.l2 kj81 t173 t176 x7_2 x10_3 ji104 x12_3) else (debuggerref40_Move.l2 kj81 t173 t176 x7_2 x10_3 x11_3 (wrap64 (x12_3 + 1)))) else (none)) else (none)) else (none)) else (none)) else (none)) else (none)) else (none)) else (none)) = some r := by first | (rw [hji104] at H; exact H) | (simp only [hji104] at H ⊢; exact H)
               have hji104w : (IntKind.i64.wrap (x11_3 + 1)) = ji104 := (i64_w _).trans hji104
               by_cases c105 : 0 ≤ (ji104)
               rotate_left
               ·rw [if_neg c105] at H
                exact absurd H (by simp)
               rw [if_pos c105] at H
               have c105b0 : decide (0 ≤ (ji104)) = true := decide_eq_true c105
               clear c105
               by_cases c106 : (ji104) < (x7_2.length : Int)
               rotate_left
               ·rw [if_neg c106] at H
                exact absurd H (by simp)
               rw [if_pos c106] at H
               have c106b0 : decide ((ji104) < (x7_2.length : Int)) = true := decide_eq_true c106
               clear c106
               by_cases c107 : 0 ≤ x12_3
               rotate_left
               ·rw [if_neg c107] at H
                exact absurd H (by simp)
               rw [if_pos c107] at H
               have c107b0 : decide (0 ≤ x12_3) = true := decide_eq_true c107
               clear c107
               by_cases c108 : x12_3 < ((rd_L3 x7_2 (ji104)).length : Int)
               rotate_left
               ·rw [if_neg c108] at H
                exact absurd H (by simp)
               rw [if_pos c108] at H
               have c108b0 : decide (x12_3 < ((rd_L3 x7_2 (ji104)).length : Int)) = true := decide_eq_true c108
               clear c108
               by_cases c109 : 0 ≤ x11_3
               rotate_left
               ·rw [if_neg c109] at H
                exact absurd H (by simp)
               rw [if_pos c109] at H
               have c109b0 : decide (0 ≤ x11_3) = true := decide_eq_true c109
               clear c109
               by_cases c110 : x11_3 < (x7_2.length : Int)
               rotate_left
               ·rw [if_neg c110] at H
                exact absurd H (by simp)
               rw [if_pos c110] at H
               have c110b0 : decide (x11_3 < (x7_2.length : Int)) = true := decide_eq_true c110
               clear c110
               obtain ⟨ji111, hji111⟩ : ∃ j_ : Int, (wrap64 (x12_3 + 1)) = j_ := ⟨_, rfl⟩
               replace H : (if 0 ≤ (ji111) then (if (ji111) < ((rd_L3 x7_2 x11_3).length : Int) then (if (rd (rd_L3 x7_2 (ji104)) x12_3) ≥ (rd (rd_L3 x7_2 x11_3) (ji111)) then (debuggerref40_Move.l2 kj81 t173 t176 x7_2 x10_3 ji104 x12_3) else (debuggerref40_Move.l2 kj81 t173 t176 x7_2 x10_3 x11_3 ji111)) else (none)) else (none)) = some r := by first | (rw [hji111] at H; exact H) | (simp only [hji111] at H ⊢; exact H)
               have hji111w : (IntKind.i64.wrap (x12_3 + 1)) = ji111 := (i64_w _).trans hji111
               by_cases c112 : 0 ≤ (ji111)
               rotate_left
               ·rw [if_neg c112] at H
                exact absurd H (by simp)
               rw [if_pos c112] at H
               have c112b0 : decide (0 ≤ (ji111)) = true := decide_eq_true c112
               clear c112
               by_cases c113 : (ji111) < ((rd_L3 x7_2 x11_3).length : Int)
               rotate_left
               ·rw [if_neg c113] at H
                exact absurd H (by simp)
               rw [if_pos c113] at H
               have c113b0 : decide ((ji111) < ((rd_L3 x7_2 x11_3).length : Int)) = true := decide_eq_true c113
               clear c113
               by_cases c114 : (rd (rd_L3 x7_2 (ji104)) x12_3) ≥ (rd (rd_L3 x7_2 x11_3) (ji111))
               ·rw [if_pos c114] at H
                have c114b0 : decide ((rd (rd_L3 x7_2 x11_3) (ji111)) ≤ (rd (rd_L3 x7_2 (ji104)) x12_3)) = true := decide_eq_true c114
                clear c114
                have H' := Aside0.mk H
                clear H
                try go_wp2
                have n0_ := Aside0.mk (Kd.R_drew HO_5.out)
                have n1_ := Aside0.mk (Kd.R_drew HO_6.out)
                have n2_ := Aside0.mk (Kd.S_drew HO_7.out)
                have n3_ := Aside0.mk (Kd.R_drew HO_10.out)
                have n4_ := Aside0.mk (below_drew1 HB.out)
                clear HO_5
                clear HO_6
                clear HO_7
                clear HO_10
                clear HB
                have HO_5 := n0_
                have HO_6 := n1_
                have HO_7 := n2_
                have HO_10 := n3_
                have HB := n4_
                clear n0_ n1_ n2_ n3_ n4_
                have p218 : 0 ≤ ((ji104) : Int) := of_decide_eq_true (by first | (with_reducible assumption) | assumption)
                have q218 : (ji104) < (x7_2.length : Int) := of_decide_eq_true (by first | (with_reducible assumption) | assumption)
                obtain ⟨ad218, A218_0, c218_0, e218, hx218_0, hl218_0, hi218_0⟩ := at_L3 (Kd.S_reads' HO_7.out).2.2 (ji104) p218 q218
                obtain rfl : (⟨go21, 0, none⟩ : Addr) = ad218 := (by injection e218)
                obtain ⟨ce218, hce218, hMe218, hcc218⟩ := Kd.S_get HO_7.out [] (ji104) p218 (by first | exact q218 | exact of_decide_eq_true (by first | (with_reducible assumption) | assumption) | (have e_ := (Kd.S_reads' HO_7.out).1; omega))
                obtain ⟨ve218_0, rfl, ge218_0⟩ := hMe218
                have hv218_0 := hcc218 0 _ rfl
                rw [Nat.add_zero, show ((Kd.slice 3 (Kd.int .i64))).sz = 1 from rfl, Nat.mul_one] at hv218_0
                replace hv218_0 := Option.some.inj (hv218_0.symm.trans hx218_0)
                rw [hv218_0] at ge218_0
                have HL218_0 := Aside0.mk (show Kd.R (Kd.int .i64) 3 _ _ _ _ (rd_L3 x7_2 (ji104)) from ge218_0)
                clear hv218_0 ge218_0
                have HX218_0 := Aside0.mk hx218_0
                clear hcc218 hce218
                (first | simp only [add_plain] at hx218_0 | simp only [add_at] at hx218_0 | simp only [Addr.add, Nat.zero_add] at hx218_0 | skip)
                have HR218_0 := Aside0.mk hi218_0
                have HC218_0 := Aside0.mk hl218_0
                clear hi218_0 hl218_0
                replace p218 := eq_true p218
                replace q218 := eq_true q218
                have p219 : 0 ≤ (x12_3 : Int) := of_decide_eq_true (by first | (with_reducible assumption) | assumption)
                have q219 : x12_3 < ((rd_L3 x7_2 (ji104)).length : Int) := of_decide_eq_true (by first | (with_reducible assumption) | assumption)
                obtain ⟨ad219, e219, hx219_0⟩ := Kd.at_int (by repeat (first | (with_reducible exact HR218_0.out) | (with_reducible refine Kd.C_alloc ?_ _) | (with_reducible refine Kd.C_drewN ?_ _) | (with_reducible refine Kd.C_drew ?_) | exact HR218_0.out)) x12_3 p219 q219
                cases e219
                replace p219 := eq_true p219
                replace q219 := eq_true q219
                have p220 : 0 ≤ (x11_3 : Int) := of_decide_eq_true (by first | (with_reducible assumption) | assumption)
                have q220 : x11_3 < (x7_2.length : Int) := of_decide_eq_true (by first | (with_reducible assumption) | assumption)
                obtain ⟨ad220, A220_0, c220_0, e220, hx220_0, hl220_0, hi220_0⟩ := at_L3 (Kd.S_reads' HO_7.out).2.2 x11_3 p220 q220
                obtain rfl : (⟨go21, 0, none⟩ : Addr) = ad220 := (by injection e220)
                obtain ⟨ce220, hce220, hMe220, hcc220⟩ := Kd.S_get HO_7.out [] x11_3 p220 (by first | exact q220 | exact of_decide_eq_true (by first | (with_reducible assumption) | assumption) | (have e_ := (Kd.S_reads' HO_7.out).1; omega))
                obtain ⟨ve220_0, rfl, ge220_0⟩ := hMe220
                have hv220_0 := hcc220 0 _ rfl
                rw [Nat.add_zero, show ((Kd.slice 3 (Kd.int .i64))).sz = 1 from rfl, Nat.mul_one] at hv220_0
                replace hv220_0 := Option.some.inj (hv220_0.symm.trans hx220_0)
                rw [hv220_0] at ge220_0
                have HL220_0 := Aside0.mk (show Kd.R (Kd.int .i64) 3 _ _ _ _ (rd_L3 x7_2 x11_3) from ge220_0)
                clear hv220_0 ge220_0
                have HX220_0 := Aside0.mk hx220_0
                clear hcc220 hce220
                (first | simp only [add_plain] at hx220_0 | simp only [add_at] at hx220_0 | simp only [Addr.add, Nat.zero_add] at hx220_0 | skip)
                have HR220_0 := Aside0.mk hi220_0
                have HC220_0 := Aside0.mk hl220_0
                clear hi220_0 hl220_0
                replace p220 := eq_true p220
                replace q220 := eq_true q220
                have p221 : 0 ≤ ((ji111) : Int) := of_decide_eq_true (by first | (with_reducible assumption) | assumption)
                have q221 : (ji111) < ((rd_L3 x7_2 x11_3).length : Int) := of_decide_eq_true (by first | (with_reducible assumption) | assumption)
                obtain ⟨ad221, e221, hx221_0⟩ := Kd.at_int (by repeat (first | (with_reducible exact HR220_0.out) | (with_reducible refine Kd.C_alloc ?_ _) | (with_reducible refine Kd.C_drewN ?_ _) | (with_reducible refine Kd.C_drew ?_) | exact HR220_0.out)) (ji111) p221 q221
                cases e221
                replace p221 := eq_true p221
                replace q221 := eq_true q221
                refine start_ (n := 18) (S := fun w' => w'.cell? ⟨go21, ((ji104)).toNat, none⟩ = some (.slice (some ad219) (rd_L3 x7_2 (ji104)).length c218_0) ∧ w'.cell? (ad219.add (x12_3).toNat) = some (.int .i64 (rd (rd_L3 x7_2 (ji104)) x12_3)) ∧ w'.cell? ⟨go21, (x11_3).toNat, none⟩ = some (.slice (some ad221) (rd_L3 x7_2 x11_3).length c220_0) ∧ w'.cell? (ad221.add ((ji111)).toNat) = some (.int .i64 (rd (rd_L3 x7_2 x11_3) (ji111)))) (ds := []) #[false,false,false,false,false,false,false,false,false,false,false,false,false,false,false,false,false,false] (by kernel_rfl) rfl rfl ⟨hx218_0, hx219_0, hx220_0, hx221_0⟩ (fun hHeld => ?_); refine with_tabW debuggerref40_Move.tab24 debuggerref40_Move.bits24 (fun HT_ HW_ => ?_)
                generalize wc.drew = w115 at HO_5 HO_6 HO_7 HO_10 HB HL218_0 HL220_0 HR218_0 HR220_0 HX218_0 HX220_0 hx218_0 hx219_0 hx220_0 hx221_0 hHeld ⊢
                refine pure_ (i := 0) (N := some 169) (v := ?_) (a' := ?_) #[true,false,false,false,false,false,false,false,false,false,false,false,false,false,false,false,false,false] rfl rfl (any_of HT_.out (by kernel_rfl)) (fun _ _ _ h => h) (Or.inl ⟨by rfl, ?_⟩) ?_ ?_
                rotate_left
                ·intro w'
                 go_simp
                 with_reducible rfl
                rotate_left
                ·simp only [Act.put, List.setIfInBounds_toArray, List.set_cons_zero, List.set_cons_succ, i64_w, i32_w]
                 rfl
                refine pure_ (i := 1) (N := some 170) (v := ?_) (a' := ?_) #[true,true,false,false,false,false,false,false,false,false,false,false,false,false,false,false,false,false] rfl rfl (any_of HT_.out (by kernel_rfl)) (fun _ _ _ h => h) (Or.inl ⟨by rfl, ?_⟩) ?_ ?_
                rotate_left
                ·intro w'
                 go_simp
                 with_reducible rfl
                rotate_left
                ·simp only [Act.put, List.setIfInBounds_toArray, List.set_cons_zero, List.set_cons_succ, i64_w, i32_w]
                 rfl
                refine pure_ (i := 2) (N := some 171) (v := ?_) (a' := ?_) #[true,true,true,false,false,false,false,false,false,false,false,false,false,false,false,false,false,false] rfl rfl (any_of HT_.out (by kernel_rfl)) (fun _ _ _ h => h) (Or.inl ⟨by rfl, ?_⟩) ?_ ?_
                rotate_left
                ·intro w'
                 go_simp
                 with_reducible rfl
                rotate_left
                ·simp only [Act.put, List.setIfInBounds_toArray, List.set_cons_zero, List.set_cons_succ, i64_w, i32_w]
                 rfl
                refine pure_ (i := 3) (N := some 172) (v := ?_) (a' := ?_) #[true,true,true,true,false,false,false,false,false,false,false,false,false,false,false,false,false,false] rfl rfl (any_of HT_.out (by kernel_rfl)) (fun _ _ _ h => h) (Or.inl ⟨by rfl, ?_⟩) ?_ ?_
                rotate_left
                ·intro w'
                 go_simp
                 with_reducible rfl
                rotate_left
                ·simp only [Act.put, List.setIfInBounds_toArray, List.set_cons_zero, List.set_cons_succ, i64_w, i32_w]
                 rfl
                refine pure_ (i := 5) (N := some 174) (v := ?_) (a' := ?_) #[true,true,true,true,false,true,false,false,false,false,false,false,false,false,false,false,false,false] rfl rfl (any_of HT_.out (by kernel_rfl)) (fun _ _ _ h => h) (Or.inl ⟨by rfl, ?_⟩) ?_ ?_
                rotate_left
                ·intro w'
                 go_simp
                 with_reducible rfl
                rotate_left
                ·simp only [Act.put, List.setIfInBounds_toArray, List.set_cons_zero, List.set_cons_succ, i64_w, i32_w]
                 rfl
                refine pure_ (i := 8) (N := some 177) (v := ?_) (a' := ?_) #[true,true,true,true,false,true,false,false,true,false,false,false,false,false,false,false,false,false] rfl rfl (any_of HT_.out (by kernel_rfl)) (fun _ _ _ h => h) (Or.inl ⟨by rfl, ?_⟩) ?_ ?_
                rotate_left
                ·intro w'
                 go_simp
                 with_reducible rfl
                rotate_left
                ·simp only [Act.put, List.setIfInBounds_toArray, List.set_cons_zero, List.set_cons_succ, i64_w, i32_w]
                 rfl
                refine pure_ (i := 9) (N := some 178) (v := ?_) (a' := ?_) #[true,true,true,true,false,true,false,false,true,true,false,false,false,false,false,false,false,false] rfl rfl (any_of HT_.out (by kernel_rfl)) (fun _ _ _ h => h) (Or.inl ⟨by rfl, ?_⟩) ?_ ?_
                rotate_left
                ·intro w'
                 go_simp
                 with_reducible rfl
                rotate_left
                ·simp only [Act.put, List.setIfInBounds_toArray, List.set_cons_zero, List.set_cons_succ, i64_w, i32_w]
                 rfl
                refine pure_ (i := 10) (N := some 179) (v := ?_) (a' := ?_) #[true,true,true,true,false,true,false,false,true,true,true,false,false,false,false,false,false,false] rfl rfl (any_of HT_.out (by kernel_rfl)) (fun _ _ _ h => h) (Or.inl ⟨by rfl, ?_⟩) ?_ ?_
                rotate_left
                ·intro w'
                 go_simp
                 with_reducible rfl
                rotate_left
                ·simp only [Act.put, List.setIfInBounds_toArray, List.set_cons_zero, List.set_cons_succ, i64_w, i32_w]
                 rfl
                refine pure_ (i := 12) (N := some 181) (v := ?_) (a' := ?_) #[true,true,true,true,false,true,false,false,true,true,true,false,true,false,false,false,false,false] rfl rfl (any_of HT_.out (by kernel_rfl)) (fun _ _ _ h => h) (Or.inl ⟨by rfl, ?_⟩) ?_ ?_
                rotate_left
                ·intro w'
                 go_simp
                 with_reducible rfl
                rotate_left
                ·simp only [Act.put, List.setIfInBounds_toArray, List.set_cons_zero, List.set_cons_succ, i64_w, i32_w]
                 rfl
                refine pure_ (i := 13) (N := some 182) (v := ?_) (a' := ?_) #[true,true,true,true,false,true,false,false,true,true,true,false,true,true,false,false,false,false] rfl rfl (any_of HT_.out (by kernel_rfl)) (fun _ _ _ h => h) (Or.inl ⟨by rfl, ?_⟩) ?_ ?_
                rotate_left
                ·intro w'
                 go_simp
                 with_reducible rfl
                rotate_left
                ·simp only [Act.put, List.setIfInBounds_toArray, List.set_cons_zero, List.set_cons_succ, i64_w, i32_w]
                 rfl
                refine take_ (i := 4) (N := some 173) (v := ?_) (a' := ?_) #[true,true,true,true,true,true,false,false,true,true,true,false,true,true,false,false,false,false] rfl rfl (take_ofW HT_.out HW_.out (by kernel_rfl)) (fun _ _ _ h => h) (Or.inl ⟨by rfl, ?_⟩) hHeld ?_ ?_
                rotate_left
                ·rintro w' ⟨s0, s1, s2, s3⟩
                 go_simp
                 with_reducible rfl
                rotate_left
                ·simp only [Act.put, List.setIfInBounds_toArray, List.set_cons_zero, List.set_cons_succ, i64_w, i32_w]
                 rfl
                refine pure_ (i := 6) (N := some 175) (v := ?_) (a' := ?_) #[true,true,true,true,true,true,true,false,true,true,true,false,true,true,false,false,false,false] rfl rfl (any_of HT_.out (by kernel_rfl)) (fun _ _ _ h => h) (Or.inl ⟨by rfl, ?_⟩) ?_ ?_
                rotate_left
                ·intro w'
                 go_simp
                 with_reducible rfl
                rotate_left
                ·simp only [Act.put, List.setIfInBounds_toArray, List.set_cons_zero, List.set_cons_succ, i64_w, i32_w]
                 rfl
                refine take_ (i := 7) (N := some 176) (v := ?_) (a' := ?_) #[true,true,true,true,true,true,true,true,true,true,true,false,true,true,false,false,false,false] rfl rfl (take_ofW HT_.out HW_.out (by kernel_rfl)) (fun _ _ _ h => h) (Or.inl ⟨by rfl, ?_⟩) hHeld ?_ ?_
                rotate_left
                ·rintro w' ⟨s0, s1, s2, s3⟩
                 go_simp
                 with_reducible rfl
                rotate_left
                ·simp only [Act.put, List.setIfInBounds_toArray, List.set_cons_zero, List.set_cons_succ, i64_w, i32_w]
                 rfl
                refine take_ (i := 11) (N := some 180) (v := ?_) (a' := ?_) #[true,true,true,true,true,true,true,true,true,true,true,true,true,true,false,false,false,false] rfl rfl (take_ofW HT_.out HW_.out (by kernel_rfl)) (fun _ _ _ h => h) (Or.inl ⟨by rfl, ?_⟩) hHeld ?_ ?_
                rotate_left
                ·rintro w' ⟨s0, s1, s2, s3⟩
                 go_simp
                 with_reducible rfl
                rotate_left
                ·simp only [Act.put, List.setIfInBounds_toArray, List.set_cons_zero, List.set_cons_succ, i64_w, i32_w]
                 rfl
                refine pure_ (i := 14) (N := some 183) (v := ?_) (a' := ?_) #[true,true,true,true,true,true,true,true,true,true,true,true,true,true,true,false,false,false] rfl rfl (any_of HT_.out (by kernel_rfl)) (fun _ _ _ h => h) (Or.inl ⟨by rfl, ?_⟩) ?_ ?_
                rotate_left
                ·intro w'
                 go_simp
                 with_reducible rfl
                rotate_left
                ·simp only [Act.put, List.setIfInBounds_toArray, List.set_cons_zero, List.set_cons_succ, i64_w, i32_w]
                 rfl
                refine take_ (i := 15) (N := some 184) (v := ?_) (a' := ?_) #[true,true,true,true,true,true,true,true,true,true,true,true,true,true,true,true,false,false] rfl rfl (take_ofW HT_.out HW_.out (by kernel_rfl)) (fun _ _ _ h => h) (Or.inl ⟨by rfl, ?_⟩) hHeld ?_ ?_
                rotate_left
                ·rintro w' ⟨s0, s1, s2, s3⟩
                 go_simp
                 with_reducible rfl
                rotate_left
                ·simp only [Act.put, List.setIfInBounds_toArray, List.set_cons_zero, List.set_cons_succ, i64_w, i32_w]
                 rfl
                refine pure_ (i := 16) (N := some 185) (v := ?_) (a' := ?_) #[true,true,true,true,true,true,true,true,true,true,true,true,true,true,true,true,true,false] rfl rfl (any_of HT_.out (by kernel_rfl)) (fun _ _ _ h => h) (Or.inl ⟨by rfl, ?_⟩) ?_ ?_
                rotate_left
                ·intro w'
                 go_simp
                 with_reducible rfl
                rotate_left
                ·simp only [Act.put, List.setIfInBounds_toArray, List.set_cons_zero, List.set_cons_succ, i64_w, i32_w]
                 rfl
                refine pure_ (i := 17) (N := some 168) (v := ?_) (a' := ?_) #[true,true,true,true,true,true,true,true,true,true,true,true,true,true,true,true,true,true] rfl rfl (any_of HT_.out (by kernel_rfl)) (fun _ _ _ h => h) (Or.inl ⟨by rfl, ?_⟩) ?_ ?_
                rotate_left
                ·intro w'
                 go_simp
                 with_reducible rfl
                rotate_left
                ·simp only [Act.put, List.setIfInBounds_toArray, List.set_cons_zero, List.set_cons_succ, i64_w, i32_w]
                 rfl
                refine done_ (done_of HT_.out (by kernel_rfl)) ?_
                try go_wp2
                go_roundg kj81
                case measure => have := HJ4.out; have := HK2.out; have := HK3.out; have := HJ78.out; have := HJ81.out; omega
                case rel => exact ⟨(x10_3), (ji104), (x12_3), (by first | rfl | (simp; done) | (simp only [← hji104] <;> (first | rfl | simp)) | (simp [*]; done)), (by first | rfl | (simp; done) | (simp [*]; done)), H', ⟨by have := HJ4.out; have := HK2.out; have := HK3.out; have := HJ78.out; have := HJ81.out; omega⟩, ⟨by (try simp only [hl7_2]); (with_reducible repeat (first | apply Kd.R_alloc | apply Kd.R_drewN | apply Kd.R_drew)); exact HO_5.out⟩, ⟨by (try simp only [hl7_2]); (with_reducible repeat (first | apply Kd.R_alloc | apply Kd.R_drewN | apply Kd.R_drew)); exact HO_6.out⟩, ⟨by (try simp only [hl7_2]); (with_reducible repeat (first | apply Kd.S_alloc | apply Kd.S_drewN | apply Kd.S_drew)); exact HO_7.out⟩, ⟨by (try simp only [hl7_2]); (with_reducible repeat (first | apply Kd.R_alloc | apply Kd.R_drewN | apply Kd.R_drew)); exact HO_10.out⟩, ⟨by repeat (first | (with_reducible first | exact HB.out | apply below_alloc | apply pw_below_drewN | apply below_drew1) | exact HB.out)⟩⟩
               ·rw [if_neg c114] at H
                have c114b0 : decide ((rd (rd_L3 x7_2 x11_3) (ji111)) ≤ (rd (rd_L3 x7_2 (ji104)) x12_3)) = false := decide_eq_false c114
                clear c114
                have H' := Aside0.mk H
                clear H
                try go_wp2
                have n0_ := Aside0.mk (Kd.R_drew HO_5.out)
                have n1_ := Aside0.mk (Kd.R_drew HO_6.out)
                have n2_ := Aside0.mk (Kd.S_drew HO_7.out)
                have n3_ := Aside0.mk (Kd.R_drew HO_10.out)
                have n4_ := Aside0.mk (below_drew1 HB.out)
                clear HO_5
                clear HO_6
                clear HO_7
                clear HO_10
                clear HB
                have HO_5 := n0_
                have HO_6 := n1_
                have HO_7 := n2_
                have HO_10 := n3_
                have HB := n4_
                clear n0_ n1_ n2_ n3_ n4_
                have p218 : 0 ≤ ((ji104) : Int) := of_decide_eq_true (by first | (with_reducible assumption) | assumption)
                have q218 : (ji104) < (x7_2.length : Int) := of_decide_eq_true (by first | (with_reducible assumption) | assumption)
                obtain ⟨ad218, A218_0, c218_0, e218, hx218_0, hl218_0, hi218_0⟩ := at_L3 (Kd.S_reads' HO_7.out).2.2 (ji104) p218 q218
                obtain rfl : (⟨go21, 0, none⟩ : Addr) = ad218 := (by injection e218)
                obtain ⟨ce218, hce218, hMe218, hcc218⟩ := Kd.S_get HO_7.out [] (ji104) p218 (by first | exact q218 | exact of_decide_eq_true (by first | (with_reducible assumption) | assumption) | (have e_ := (Kd.S_reads' HO_7.out).1; omega))
                obtain ⟨ve218_0, rfl, ge218_0⟩ := hMe218
                have hv218_0 := hcc218 0 _ rfl
                rw [Nat.add_zero, show ((Kd.slice 3 (Kd.int .i64))).sz = 1 from rfl, Nat.mul_one] at hv218_0
                replace hv218_0 := Option.some.inj (hv218_0.symm.trans hx218_0)
                rw [hv218_0] at ge218_0
                have HL218_0 := Aside0.mk (show Kd.R (Kd.int .i64) 3 _ _ _ _ (rd_L3 x7_2 (ji104)) from ge218_0)
                clear hv218_0 ge218_0
                have HX218_0 := Aside0.mk hx218_0
                clear hcc218 hce218
                (first | simp only [add_plain] at hx218_0 | simp only [add_at] at hx218_0 | simp only [Addr.add, Nat.zero_add] at hx218_0 | skip)
                have HR218_0 := Aside0.mk hi218_0
                have HC218_0 := Aside0.mk hl218_0
                clear hi218_0 hl218_0
                replace p218 := eq_true p218
                replace q218 := eq_true q218
                have p219 : 0 ≤ (x12_3 : Int) := of_decide_eq_true (by first | (with_reducible assumption) | assumption)
                have q219 : x12_3 < ((rd_L3 x7_2 (ji104)).length : Int) := of_decide_eq_true (by first | (with_reducible assumption) | assumption)
                obtain ⟨ad219, e219, hx219_0⟩ := Kd.at_int (by repeat (first | (with_reducible exact HR218_0.out) | (with_reducible refine Kd.C_alloc ?_ _) | (with_reducible refine Kd.C_drewN ?_ _) | (with_reducible refine Kd.C_drew ?_) | exact HR218_0.out)) x12_3 p219 q219
                cases e219
                replace p219 := eq_true p219
                replace q219 := eq_true q219
                have p220 : 0 ≤ (x11_3 : Int) := of_decide_eq_true (by first | (with_reducible assumption) | assumption)
                have q220 : x11_3 < (x7_2.length : Int) := of_decide_eq_true (by first | (with_reducible assumption) | assumption)
                obtain ⟨ad220, A220_0, c220_0, e220, hx220_0, hl220_0, hi220_0⟩ := at_L3 (Kd.S_reads' HO_7.out).2.2 x11_3 p220 q220
                obtain rfl : (⟨go21, 0, none⟩ : Addr) = ad220 := (by injection e220)
                obtain ⟨ce220, hce220, hMe220, hcc220⟩ := Kd.S_get HO_7.out [] x11_3 p220 (by first | exact q220 | exact of_decide_eq_true (by first | (with_reducible assumption) | assumption) | (have e_ := (Kd.S_reads' HO_7.out).1; omega))
                obtain ⟨ve220_0, rfl, ge220_0⟩ := hMe220
                have hv220_0 := hcc220 0 _ rfl
                rw [Nat.add_zero, show ((Kd.slice 3 (Kd.int .i64))).sz = 1 from rfl, Nat.mul_one] at hv220_0
                replace hv220_0 := Option.some.inj (hv220_0.symm.trans hx220_0)
                rw [hv220_0] at ge220_0
                have HL220_0 := Aside0.mk (show Kd.R (Kd.int .i64) 3 _ _ _ _ (rd_L3 x7_2 x11_3) from ge220_0)
                clear hv220_0 ge220_0
                have HX220_0 := Aside0.mk hx220_0
                clear hcc220 hce220
                (first | simp only [add_plain] at hx220_0 | simp only [add_at] at hx220_0 | simp only [Addr.add, Nat.zero_add] at hx220_0 | skip)
                have HR220_0 := Aside0.mk hi220_0
                have HC220_0 := Aside0.mk hl220_0
                clear hi220_0 hl220_0
                replace p220 := eq_true p220
                replace q220 := eq_true q220
                have p221 : 0 ≤ ((ji111) : Int) := of_decide_eq_true (by first | (with_reducible assumption) | assumption)
                have q221 : (ji111) < ((rd_L3 x7_2 x11_3).length : Int) := of_decide_eq_true (by first | (with_reducible assumption) | assumption)
                obtain ⟨ad221, e221, hx221_0⟩ := Kd.at_int (by repeat (first | (with_reducible exact HR220_0.out) | (with_reducible refine Kd.C_alloc ?_ _) | (with_reducible refine Kd.C_drewN ?_ _) | (with_reducible refine Kd.C_drew ?_) | exact HR220_0.out)) (ji111) p221 q221
                cases e221
                replace p221 := eq_true p221
                replace q221 := eq_true q221
                refine start_ (n := 18) (S := fun w' => w'.cell? ⟨go21, ((ji104)).toNat, none⟩ = some (.slice (some ad219) (rd_L3 x7_2 (ji104)).length c218_0) ∧ w'.cell? (ad219.add (x12_3).toNat) = some (.int .i64 (rd (rd_L3 x7_2 (ji104)) x12_3)) ∧ w'.cell? ⟨go21, (x11_3).toNat, none⟩ = some (.slice (some ad221) (rd_L3 x7_2 x11_3).length c220_0) ∧ w'.cell? (ad221.add ((ji111)).toNat) = some (.int .i64 (rd (rd_L3 x7_2 x11_3) (ji111)))) (ds := []) #[false,false,false,false,false,false,false,false,false,false,false,false,false,false,false,false,false,false] (by kernel_rfl) rfl rfl ⟨hx218_0, hx219_0, hx220_0, hx221_0⟩ (fun hHeld => ?_); refine with_tabW debuggerref40_Move.tab24 debuggerref40_Move.bits24 (fun HT_ HW_ => ?_)
                generalize wc.drew = w116 at HO_5 HO_6 HO_7 HO_10 HB HL218_0 HL220_0 HR218_0 HR220_0 HX218_0 HX220_0 hx218_0 hx219_0 hx220_0 hx221_0 hHeld ⊢
                refine pure_ (i := 0) (N := some 169) (v := ?_) (a' := ?_) #[true,false,false,false,false,false,false,false,false,false,false,false,false,false,false,false,false,false] rfl rfl (any_of HT_.out (by kernel_rfl)) (fun _ _ _ h => h) (Or.inl ⟨by rfl, ?_⟩) ?_ ?_
                rotate_left
                ·intro w'
                 go_simp
                 with_reducible rfl
                rotate_left
                ·simp only [Act.put, List.setIfInBounds_toArray, List.set_cons_zero, List.set_cons_succ, i64_w, i32_w]
                 rfl
                refine pure_ (i := 1) (N := some 170) (v := ?_) (a' := ?_) #[true,true,false,false,false,false,false,false,false,false,false,false,false,false,false,false,false,false] rfl rfl (any_of HT_.out (by kernel_rfl)) (fun _ _ _ h => h) (Or.inl ⟨by rfl, ?_⟩) ?_ ?_
                rotate_left
                ·intro w'
                 go_simp
                 with_reducible rfl
                rotate_left
                ·simp only [Act.put, List.setIfInBounds_toArray, List.set_cons_zero, List.set_cons_succ, i64_w, i32_w]
                 rfl
                refine pure_ (i := 2) (N := some 171) (v := ?_) (a' := ?_) #[true,true,true,false,false,false,false,false,false,false,false,false,false,false,false,false,false,false] rfl rfl (any_of HT_.out (by kernel_rfl)) (fun _ _ _ h => h) (Or.inl ⟨by rfl, ?_⟩) ?_ ?_
                rotate_left
                ·intro w'
                 go_simp
                 with_reducible rfl
                rotate_left
                ·simp only [Act.put, List.setIfInBounds_toArray, List.set_cons_zero, List.set_cons_succ, i64_w, i32_w]
                 rfl
                refine pure_ (i := 3) (N := some 172) (v := ?_) (a' := ?_) #[true,true,true,true,false,false,false,false,false,false,false,false,false,false,false,false,false,false] rfl rfl (any_of HT_.out (by kernel_rfl)) (fun _ _ _ h => h) (Or.inl ⟨by rfl, ?_⟩) ?_ ?_
                rotate_left
                ·intro w'
                 go_simp
                 with_reducible rfl
                rotate_left
                ·simp only [Act.put, List.setIfInBounds_toArray, List.set_cons_zero, List.set_cons_succ, i64_w, i32_w]
                 rfl
                refine pure_ (i := 5) (N := some 174) (v := ?_) (a' := ?_) #[true,true,true,true,false,true,false,false,false,false,false,false,false,false,false,false,false,false] rfl rfl (any_of HT_.out (by kernel_rfl)) (fun _ _ _ h => h) (Or.inl ⟨by rfl, ?_⟩) ?_ ?_
                rotate_left
                ·intro w'
                 go_simp
                 with_reducible rfl
                rotate_left
                ·simp only [Act.put, List.setIfInBounds_toArray, List.set_cons_zero, List.set_cons_succ, i64_w, i32_w]
                 rfl
                refine pure_ (i := 8) (N := some 177) (v := ?_) (a' := ?_) #[true,true,true,true,false,true,false,false,true,false,false,false,false,false,false,false,false,false] rfl rfl (any_of HT_.out (by kernel_rfl)) (fun _ _ _ h => h) (Or.inl ⟨by rfl, ?_⟩) ?_ ?_
                rotate_left
                ·intro w'
                 go_simp
                 with_reducible rfl
                rotate_left
                ·simp only [Act.put, List.setIfInBounds_toArray, List.set_cons_zero, List.set_cons_succ, i64_w, i32_w]
                 rfl
                refine pure_ (i := 9) (N := some 178) (v := ?_) (a' := ?_) #[true,true,true,true,false,true,false,false,true,true,false,false,false,false,false,false,false,false] rfl rfl (any_of HT_.out (by kernel_rfl)) (fun _ _ _ h => h) (Or.inl ⟨by rfl, ?_⟩) ?_ ?_
                rotate_left
                ·intro w'
                 go_simp
                 with_reducible rfl
                rotate_left
                ·simp only [Act.put, List.setIfInBounds_toArray, List.set_cons_zero, List.set_cons_succ, i64_w, i32_w]
                 rfl
                refine pure_ (i := 10) (N := some 179) (v := ?_) (a' := ?_) #[true,true,true,true,false,true,false,false,true,true,true,false,false,false,false,false,false,false] rfl rfl (any_of HT_.out (by kernel_rfl)) (fun _ _ _ h => h) (Or.inl ⟨by rfl, ?_⟩) ?_ ?_
                rotate_left
                ·intro w'
                 go_simp
                 with_reducible rfl
                rotate_left
                ·simp only [Act.put, List.setIfInBounds_toArray, List.set_cons_zero, List.set_cons_succ, i64_w, i32_w]
                 rfl
                refine pure_ (i := 12) (N := some 181) (v := ?_) (a' := ?_) #[true,true,true,true,false,true,false,false,true,true,true,false,true,false,false,false,false,false] rfl rfl (any_of HT_.out (by kernel_rfl)) (fun _ _ _ h => h) (Or.inl ⟨by rfl, ?_⟩) ?_ ?_
                rotate_left
                ·intro w'
                 go_simp
                 with_reducible rfl
                rotate_left
                ·simp only [Act.put, List.setIfInBounds_toArray, List.set_cons_zero, List.set_cons_succ, i64_w, i32_w]
                 rfl
                refine pure_ (i := 13) (N := some 182) (v := ?_) (a' := ?_) #[true,true,true,true,false,true,false,false,true,true,true,false,true,true,false,false,false,false] rfl rfl (any_of HT_.out (by kernel_rfl)) (fun _ _ _ h => h) (Or.inl ⟨by rfl, ?_⟩) ?_ ?_
                rotate_left
                ·intro w'
                 go_simp
                 with_reducible rfl
                rotate_left
                ·simp only [Act.put, List.setIfInBounds_toArray, List.set_cons_zero, List.set_cons_succ, i64_w, i32_w]
                 rfl
                refine take_ (i := 4) (N := some 173) (v := ?_) (a' := ?_) #[true,true,true,true,true,true,false,false,true,true,true,false,true,true,false,false,false,false] rfl rfl (take_ofW HT_.out HW_.out (by kernel_rfl)) (fun _ _ _ h => h) (Or.inl ⟨by rfl, ?_⟩) hHeld ?_ ?_
                rotate_left
                ·rintro w' ⟨s0, s1, s2, s3⟩
                 go_simp
                 with_reducible rfl
                rotate_left
                ·simp only [Act.put, List.setIfInBounds_toArray, List.set_cons_zero, List.set_cons_succ, i64_w, i32_w]
                 rfl
                refine pure_ (i := 6) (N := some 175) (v := ?_) (a' := ?_) #[true,true,true,true,true,true,true,false,true,true,true,false,true,true,false,false,false,false] rfl rfl (any_of HT_.out (by kernel_rfl)) (fun _ _ _ h => h) (Or.inl ⟨by rfl, ?_⟩) ?_ ?_
                rotate_left
                ·intro w'
                 go_simp
                 with_reducible rfl
                rotate_left
                ·simp only [Act.put, List.setIfInBounds_toArray, List.set_cons_zero, List.set_cons_succ, i64_w, i32_w]
                 rfl
                refine take_ (i := 7) (N := some 176) (v := ?_) (a' := ?_) #[true,true,true,true,true,true,true,true,true,true,true,false,true,true,false,false,false,false] rfl rfl (take_ofW HT_.out HW_.out (by kernel_rfl)) (fun _ _ _ h => h) (Or.inl ⟨by rfl, ?_⟩) hHeld ?_ ?_
                rotate_left
                ·rintro w' ⟨s0, s1, s2, s3⟩
                 go_simp
                 with_reducible rfl
                rotate_left
                ·simp only [Act.put, List.setIfInBounds_toArray, List.set_cons_zero, List.set_cons_succ, i64_w, i32_w]
                 rfl
                refine take_ (i := 11) (N := some 180) (v := ?_) (a' := ?_) #[true,true,true,true,true,true,true,true,true,true,true,true,true,true,false,false,false,false] rfl rfl (take_ofW HT_.out HW_.out (by kernel_rfl)) (fun _ _ _ h => h) (Or.inl ⟨by rfl, ?_⟩) hHeld ?_ ?_
                rotate_left
                ·rintro w' ⟨s0, s1, s2, s3⟩
                 go_simp
                 with_reducible rfl
                rotate_left
                ·simp only [Act.put, List.setIfInBounds_toArray, List.set_cons_zero, List.set_cons_succ, i64_w, i32_w]
                 rfl
                refine pure_ (i := 14) (N := some 183) (v := ?_) (a' := ?_) #[true,true,true,true,true,true,true,true,true,true,true,true,true,true,true,false,false,false] rfl rfl (any_of HT_.out (by kernel_rfl)) (fun _ _ _ h => h) (Or.inl ⟨by rfl, ?_⟩) ?_ ?_
                rotate_left
                ·intro w'
                 go_simp
                 with_reducible rfl
                rotate_left
                ·simp only [Act.put, List.setIfInBounds_toArray, List.set_cons_zero, List.set_cons_succ, i64_w, i32_w]
                 rfl
                refine take_ (i := 15) (N := some 184) (v := ?_) (a' := ?_) #[true,true,true,true,true,true,true,true,true,true,true,true,true,true,true,true,false,false] rfl rfl (take_ofW HT_.out HW_.out (by kernel_rfl)) (fun _ _ _ h => h) (Or.inl ⟨by rfl, ?_⟩) hHeld ?_ ?_
                rotate_left
                ·rintro w' ⟨s0, s1, s2, s3⟩
                 go_simp
                 with_reducible rfl
                rotate_left
                ·simp only [Act.put, List.setIfInBounds_toArray, List.set_cons_zero, List.set_cons_succ, i64_w, i32_w]
                 rfl
                refine pure_ (i := 16) (N := some 185) (v := ?_) (a' := ?_) #[true,true,true,true,true,true,true,true,true,true,true,true,true,true,true,true,true,false] rfl rfl (any_of HT_.out (by kernel_rfl)) (fun _ _ _ h => h) (Or.inl ⟨by rfl, ?_⟩) ?_ ?_
                rotate_left
                ·intro w'
                 go_simp
                 with_reducible rfl
                rotate_left
                ·simp only [Act.put, List.setIfInBounds_toArray, List.set_cons_zero, List.set_cons_succ, i64_w, i32_w]
                 rfl
                refine pure_ (i := 17) (N := some 168) (v := ?_) (a' := ?_) #[true,true,true,true,true,true,true,true,true,true,true,true,true,true,true,true,true,true] rfl rfl (any_of HT_.out (by kernel_rfl)) (fun _ _ _ h => h) (Or.inl ⟨by rfl, ?_⟩) ?_ ?_
                rotate_left
                ·intro w'
                 go_simp
                 with_reducible rfl
                rotate_left
                ·simp only [Act.put, List.setIfInBounds_toArray, List.set_cons_zero, List.set_cons_succ, i64_w, i32_w]
                 rfl
                refine done_ (done_of HT_.out (by kernel_rfl)) ?_
                try go_wp2
                go_roundg kj81
                case measure => have := HJ4.out; have := HK2.out; have := HK3.out; have := HJ78.out; have := HJ81.out; omega
                case rel => exact ⟨(x10_3), (x11_3), (ji111), (by first | rfl | (simp; done) | (simp [*]; done)), (by first | rfl | (simp; done) | (simp only [← hji111] <;> (first | rfl | simp)) | (simp [*]; done)), H', ⟨by have := HJ4.out; have := HK2.out; have := HK3.out; have := HJ78.out; have := HJ81.out; omega⟩, ⟨by (try simp only [hl7_2]); (with_reducible repeat (first | apply Kd.R_alloc | apply Kd.R_drewN | apply Kd.R_drew)); exact HO_5.out⟩, ⟨by (try simp only [hl7_2]); (with_reducible repeat (first | apply Kd.R_alloc | apply Kd.R_drewN | apply Kd.R_drew)); exact HO_6.out⟩, ⟨by (try simp only [hl7_2]); (with_reducible repeat (first | apply Kd.S_alloc | apply Kd.S_drewN | apply Kd.S_drew)); exact HO_7.out⟩, ⟨by (try simp only [hl7_2]); (with_reducible repeat (first | apply Kd.R_alloc | apply Kd.R_drewN | apply Kd.R_drew)); exact HO_10.out⟩, ⟨by repeat (first | (with_reducible first | exact HB.out | apply below_alloc | apply pw_below_drewN | apply below_drew1) | exact HB.out)⟩⟩
           ·replace c81 := Bool.eq_false_iff.mpr c81
            subst c81
            have H1 : (some x10_3) = some r := by rw [if_neg (show ¬ (false = true) by decide)] at H; exact H
            clear H
            have H := H1
            clear H1
            obtain rfl := Option.some.inj H
            go_wp2
            go_ret
            exact ⟨_, by first | rfl | (simp [errW_none, errW_some] <;> rfl) | (simp only [← hji13, ← hji16]; first | rfl | (simp [errW_none, errW_some] <;> rfl)) | (simp [*, errW_none, errW_some] <;> rfl), by (with_reducible repeat (first | apply Kd.R_alloc | apply Kd.R_drewN | apply Kd.R_drew)); exact HO_10.out, by repeat (first | (with_reducible first | exact HB.out | apply below_alloc | apply pw_below_drewN | apply below_drew1) | exact HB.out)⟩

end Go.Proofs.YtkmhbfgkhalaoaaGreatDoor.PB

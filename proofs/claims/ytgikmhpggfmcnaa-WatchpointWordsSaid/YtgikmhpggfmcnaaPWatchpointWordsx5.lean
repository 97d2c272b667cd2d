/- The functions printed here answer what their Lean functions say, where these answer. Printed by a changed copy of the kit's printer in this session: not print.sh's own text. -/
import Derived.Test.YtgikmhpggfmcnaaPWatchpointWordsx0
import Derived.Test.YtgikmhpggfmcnaaPWatchpointWordsx3
import Derived.Test.YtgikmhpggfmcnaaPWatchpointWordsx4
namespace Go.Proofs.Ytgikmhpggfmcnaa.PWatchpointWords
open Go.RowKit Go.Proofs.YtgikmhpggfmcnaaW.PrintWords Go.Proofs.YtgikmhpggfmcnaaW.PrintLast Go.Proofs.YtgikmhpggfmcnaaW.PrintMore
attribute [local go_sem] max2_int min2_int max_two min_two max_three min_three max_four min_four   -- for this text's walks alone
set_option linter.unusedVariables false
set_option linter.unusedSimpArgs false

/-! ### debuggerlaw41_awake: function 8 -/
def debuggerlaw41_awake.f (k : Nat)  : Option (Bool) := (debuggerlaw41_number.f 5 true).bind fun bt164 => ((debuggerlaw41_number.f 0 false).bind fun bt172 => ((watchpoint_Check.f k bt164.1 bt164.2.1 bt164.2.2.1 bt164.2.2.2 bt172.1 bt172.2.1 bt172.2.2.1 bt172.2.2.2).bind fun bt180 => ((debuggerlaw41_number.f 6 true).bind fun bt190 => ((watchpoint_Check.f k bt180.1 bt180.2.1 bt180.2.2.1 bt180.2.2.2.1 bt190.1 bt190.2.1 bt190.2.2.1 bt190.2.2.2).bind fun bt198 => (if bt180.2.2.2.2 = true then (some false) else (if bt198.2.2.2.2 = true then (if (bt180.2.2.2.1.length : Int) = 1 then (if 0 < (bt180.2.2.2.1.length : Int) then (some ((rd bt180.2.2.2.1 0) == 5)) else (none)) else (some false)) else (some false)))))))
theorem debuggerlaw41_awake.mono : ∀ k, LeO (debuggerlaw41_awake.f k ) (debuggerlaw41_awake.f (k + 1) ) := by
  intro  k
  unfold debuggerlaw41_awake.f
  repeat' first
      | (with_reducible exact watchpoint_Check.mono _ _ _ _ _ _ _ _ _)
      | (with_reducible exact LeO.refl _)
      | (with_reducible exact LeO.none _)
      | (with_reducible refine LeO.ite ?_ ?_)
      | (with_reducible refine LeO.bind ?_ (fun _ => ?_))
      | exact watchpoint_Check.mono _ _ _ _ _ _ _ _ _
      | exact LeO.none _
      | refine LeO.ite ?_ ?_
      | refine LeO.bind ?_ (fun _ => ?_)
def debuggerlaw41_awake.T2 : Bool × List (List Nat × List Nat) := (true, [([], []), ([], []), ([0, 1, 1], [0, 1]), ([2], [2]), ([3], [3]), ([3], [3]), ([], []), ([6, 4, 2, 0, 1, 2, 3, 4, 6], [4, 6]), ([5, 7, 0, 1, 2, 3, 4, 5, 6, 7], [5])])
def debuggerlaw41_awake.B2 : List Nat := [0, 0, 3, 7, 15, 15, 0, 95, 255]
theorem debuggerlaw41_awake.tab2 : rtab .any (opsOf Try.f8 2) = debuggerlaw41_awake.T2 := by kernel_rfl
theorem debuggerlaw41_awake.bits2 : waitsOk debuggerlaw41_awake.T2.2 debuggerlaw41_awake.B2 = true := by kernel_rfl
theorem debuggerlaw41_awake.at1 : watchpoint_Check.f 20 1 0 [true] [5] 1 0 [false] [0] = some (1, 0, [true], [5], false) := by kernel_rfl
theorem debuggerlaw41_awake.chk1 {k : Nat} {r : Int × Int × List Bool × List Int × Bool} (h : watchpoint_Check.f k 1 0 [true] [5] 1 0 [false] [0] = some r) : r = (1, 0, [true], [5], false) := by
  have hm : ∀ k, LeO (watchpoint_Check.f k 1 0 [true] [5] 1 0 [false] [0]) (watchpoint_Check.f (k + 1) 1 0 [true] [5] 1 0 [false] [0]) := fun k => watchpoint_Check.mono 1 0 [true] [5] 1 0 [false] [0] k
  generalize hg : (fun k => watchpoint_Check.f k 1 0 [true] [5] 1 0 [false] [0]) = g at *
  have hm' : ∀ k, LeO (g k) (g (k + 1)) := by rw [← hg]; exact hm
  have h' : g k = some r := by rw [← hg]; exact h
  have h0 : g 20 = some (1, 0, [true], [5], false) := by rw [← hg]; exact debuggerlaw41_awake.at1
  exact Option.some.inj ((at_rounds hm' (Nat.le_max_left k 20) h').symm.trans (at_rounds hm' (Nat.le_max_right k 20) h0))
theorem debuggerlaw41_awake.at2 : watchpoint_Check.f 20 1 0 [true] [5] 1 0 [true] [6] = some (1, 0, [true], [6], true) := by kernel_rfl
theorem debuggerlaw41_awake.chk2 {k : Nat} {r : Int × Int × List Bool × List Int × Bool} (h : watchpoint_Check.f k 1 0 [true] [5] 1 0 [true] [6] = some r) : r = (1, 0, [true], [6], true) := by
  have hm : ∀ k, LeO (watchpoint_Check.f k 1 0 [true] [5] 1 0 [true] [6]) (watchpoint_Check.f (k + 1) 1 0 [true] [5] 1 0 [true] [6]) := fun k => watchpoint_Check.mono 1 0 [true] [5] 1 0 [true] [6] k
  generalize hg : (fun k => watchpoint_Check.f k 1 0 [true] [5] 1 0 [true] [6]) = g at *
  have hm' : ∀ k, LeO (g k) (g (k + 1)) := by rw [← hg]; exact hm
  have h' : g k = some r := by rw [← hg]; exact h
  have h0 : g 20 = some (1, 0, [true], [6], true) := by rw [← hg]; exact debuggerlaw41_awake.at2
  exact Option.some.inj ((at_rounds hm' (Nat.le_max_left k 20) h').symm.trans (at_rounds hm' (Nat.le_max_right k 20) h0))
set_option maxHeartbeats 8000000 in
set_option maxRecDepth 100000 in
theorem debuggerlaw41_awake.calls (k : Nat)  (r : Bool) (w : World) (h : debuggerlaw41_awake.f k  = some r) :
    Calls Try.prog 8 #[] w fun e w' => e = .returned (.bool r) ∧ Below w.heap.size w w' := by
  have hu25 := Try.underlying25
  have HB := Aside0.mk (Below.refl w.heap.size w)
  have H : ((debuggerlaw41_number.f 5 true).bind fun bt164 => ((debuggerlaw41_number.f 0 false).bind fun bt172 => ((watchpoint_Check.f k bt164.1 bt164.2.1 bt164.2.2.1 bt164.2.2.2 bt172.1 bt172.2.1 bt172.2.2.1 bt172.2.2.2).bind fun bt180 => ((debuggerlaw41_number.f 6 true).bind fun bt190 => ((watchpoint_Check.f k bt180.1 bt180.2.1 bt180.2.2.1 bt180.2.2.2.1 bt190.1 bt190.2.1 bt190.2.2.1 bt190.2.2.2).bind fun bt198 => (if bt180.2.2.2.2 = true then (some false) else (if bt198.2.2.2.2 = true then (if (bt180.2.2.2.1.length : Int) = 1 then (if 0 < (bt180.2.2.2.1.length : Int) then (some ((rd bt180.2.2.2.1 0) == 5)) else (none)) else (some false)) else (some false)))))))) = some r := h
  clear h
  replace H := Option.bind_eq_some_iff.mp H
  obtain ⟨⟨t164, t165, t166, t169⟩, A10, H⟩ := H
  replace H : ((debuggerlaw41_number.f 0 false).bind fun bt172 => ((watchpoint_Check.f k t164 t165 t166 t169 bt172.1 bt172.2.1 bt172.2.2.1 bt172.2.2.2).bind fun bt180 => ((debuggerlaw41_number.f 6 true).bind fun bt190 => ((watchpoint_Check.f k bt180.1 bt180.2.1 bt180.2.2.1 bt180.2.2.2.1 bt190.1 bt190.2.1 bt190.2.2.1 bt190.2.2.2).bind fun bt198 => (if bt180.2.2.2.2 = true then (some false) else (if bt198.2.2.2.2 = true then (if (bt180.2.2.2.1.length : Int) = 1 then (if 0 < (bt180.2.2.2.1.length : Int) then (some ((rd bt180.2.2.2.1 0) == 5)) else (none)) else (some false)) else (some false))))))) = some r := H
  have A1 := Aside0.mk A10
  clear A10
  replace H := Option.bind_eq_some_iff.mp H
  obtain ⟨⟨t172, t173, t174, t177⟩, A20, H⟩ := H
  replace H : ((watchpoint_Check.f k t164 t165 t166 t169 t172 t173 t174 t177).bind fun bt180 => ((debuggerlaw41_number.f 6 true).bind fun bt190 => ((watchpoint_Check.f k bt180.1 bt180.2.1 bt180.2.2.1 bt180.2.2.2.1 bt190.1 bt190.2.1 bt190.2.2.1 bt190.2.2.2).bind fun bt198 => (if bt180.2.2.2.2 = true then (some false) else (if bt198.2.2.2.2 = true then (if (bt180.2.2.2.1.length : Int) = 1 then (if 0 < (bt180.2.2.2.1.length : Int) then (some ((rd bt180.2.2.2.1 0) == 5)) else (none)) else (some false)) else (some false)))))) = some r := H
  have A2 := Aside0.mk A20
  clear A20
  replace H := Option.bind_eq_some_iff.mp H
  obtain ⟨⟨t180, t181, t182, t185, t188⟩, A30, H⟩ := H
  replace H : ((debuggerlaw41_number.f 6 true).bind fun bt190 => ((watchpoint_Check.f k t180 t181 t182 t185 bt190.1 bt190.2.1 bt190.2.2.1 bt190.2.2.2).bind fun bt198 => (if t188 = true then (some false) else (if bt198.2.2.2.2 = true then (if (t185.length : Int) = 1 then (if 0 < (t185.length : Int) then (some ((rd t185 0) == 5)) else (none)) else (some false)) else (some false))))) = some r := H
  have A3 := Aside0.mk A30
  clear A30
  replace H := Option.bind_eq_some_iff.mp H
  obtain ⟨⟨t190, t191, t192, t195⟩, A40, H⟩ := H
  replace H : ((watchpoint_Check.f k t180 t181 t182 t185 t190 t191 t192 t195).bind fun bt198 => (if t188 = true then (some false) else (if bt198.2.2.2.2 = true then (if (t185.length : Int) = 1 then (if 0 < (t185.length : Int) then (some ((rd t185 0) == 5)) else (none)) else (some false)) else (some false)))) = some r := H
  have A4 := Aside0.mk A40
  clear A40
  replace H := Option.bind_eq_some_iff.mp H
  obtain ⟨⟨t198, t199, t200, t203, t206⟩, A50, H⟩ := H
  replace H : (if t188 = true then (some false) else (if t206 = true then (if (t185.length : Int) = 1 then (if 0 < (t185.length : Int) then (some ((rd t185 0) == 5)) else (none)) else (some false)) else (some false))) = some r := H
  have A5 := Aside0.mk A50
  clear A50
  have E1 : t164 = 1 ∧ t165 = 0 ∧ t166 = [true] ∧ t169 = [5] := by have h_ := A1.out; simp [debuggerlaw41_number.f] at h_; obtain ⟨h1, h2, h3, h4⟩ := h_; exact ⟨h1.symm, h2.symm, h3.symm, h4.symm⟩
  have E2 : t172 = 1 ∧ t173 = 0 ∧ t174 = [false] ∧ t177 = [0] := by have h_ := A2.out; simp [debuggerlaw41_number.f] at h_; obtain ⟨h1, h2, h3, h4⟩ := h_; exact ⟨h1.symm, h2.symm, h3.symm, h4.symm⟩
  have E3 : (t180, t181, t182, t185, t188) = (1, 0, [true], [5], false) := by have h_ := A3.out; rw [E1.1, E1.2.1, E1.2.2.1, E1.2.2.2, E2.1, E2.2.1, E2.2.2.1, E2.2.2.2] at h_; exact debuggerlaw41_awake.chk1 h_
  simp only [Prod.mk.injEq] at E3
  have E4 : t190 = 1 ∧ t191 = 0 ∧ t192 = [true] ∧ t195 = [6] := by have h_ := A4.out; simp [debuggerlaw41_number.f] at h_; obtain ⟨h1, h2, h3, h4⟩ := h_; exact ⟨h1.symm, h2.symm, h3.symm, h4.symm⟩
  have E5 : (t198, t199, t200, t203, t206) = (1, 0, [true], [6], true) := by have h_ := A5.out; rw [E3.1, E3.2.1, E3.2.2.1, E3.2.2.2.1, E4.1, E4.2.1, E4.2.2.1, E4.2.2.2] at h_; exact debuggerlaw41_awake.chk2 h_
  simp only [Prod.mk.injEq] at E5
  by_cases c6 : t188 = true
  · exact absurd (c6.symm.trans E3.2.2.2.2) (by decide)
  · replace c6 := Bool.eq_false_iff.mpr c6
    subst c6
    have H1 : (if t206 = true then (if (t185.length : Int) = 1 then (if 0 < (t185.length : Int) then (some ((rd t185 0) == 5)) else (none)) else (some false)) else (some false)) = some r := by rw [if_neg (show ¬ (false = true) by decide)] at H; exact H
    clear H
    have H := H1
    clear H1
    by_cases c32 : t206 = true
    · subst c32
      have H1 : (if (t185.length : Int) = 1 then (if 0 < (t185.length : Int) then (some ((rd t185 0) == 5)) else (none)) else (some false)) = some r := by rw [if_pos rfl] at H; exact H
      clear H
      have H := H1
      clear H1
      by_cases c33 : (t185.length : Int) = 1
      · rw [if_pos c33] at H
        have c33b0 : ((t185.length : Int) == 1) = true := beq_iff_eq.mpr c33
        have c33b1 : ((t185.length : Int) != 1) = false := bne_eq_false_iff_eq.mpr c33
        clear c33
        by_cases c34 : 0 < (t185.length : Int)
        · rw [if_pos c34] at H
          clear E1 E2 E3 E4 E5
          have c34b0 : decide (0 < (t185.length : Int)) = true := decide_eq_true c34
          have c34b1 : decide (0 < t185.length) = true := decide_eq_true (by omega)
          clear c34
          obtain rfl := Option.some.inj H
          go_enter Try.func8, Try.ntmps8
          try go_wp2_with (first | ((with_reducible refine gate_callee (f := 5) rfl ?_); refine goesL_ (some 6) rfl rfl Try.func5 (by kernel_rfl) rfl #[.int .i64 5, .bool true] rfl (by (try simp only [List.map_toArray, List.map_cons, List.map_nil]); first | done | rfl | (simp only [List.length_drop, List.length_take]; rfl)) ?_; (with_reducible refine (debuggerlaw41_number.calls 5 true t164 t165 t166 t169 _ A1.out).mono ?_); rintro e w35 ⟨v167, v170, rfl, ho0, ho1, hb⟩; refine ⟨_, rfl, ?_⟩; have n0_ := Aside0.mk (Kd.R_lower ho0 (below_size (by repeat (first | (with_reducible first | exact HB.out | apply below_alloc | apply pw_below_drewN | apply below_drew1) | exact HB.out)))); have n1_ := Aside0.mk (Kd.R_lower ho1 (below_size (by repeat (first | (with_reducible first | exact HB.out | apply below_alloc | apply pw_below_drewN | apply below_drew1) | exact HB.out)))); have n2_ := Aside0.mk (below_step (by repeat (first | (with_reducible first | exact HB.out | apply below_alloc | apply pw_below_drewN | apply below_drew1) | exact HB.out)) hb); clear HB; have HO168 := n0_; have HO171 := n1_; have HB := n2_; clear n0_ n1_ n2_; (try clear hb); (try clear hb2); (try clear hk); (try clear hi); (try clear ho0); (try clear ho1)) | ((with_reducible refine gate_callee (f := 5) rfl ?_); refine goesL_ (some 7) rfl rfl Try.func5 (by kernel_rfl) rfl #[.int .i64 0, .bool false] rfl (by (try simp only [List.map_toArray, List.map_cons, List.map_nil]); first | done | rfl | (simp only [List.length_drop, List.length_take]; rfl)) ?_; (with_reducible refine (debuggerlaw41_number.calls 0 false t172 t173 t174 t177 _ A2.out).mono ?_); rintro e w36 ⟨v175, v178, rfl, ho0, ho1, hb⟩; refine ⟨_, rfl, ?_⟩; have n0_ := Aside0.mk (Kd.R_elder' (by (with_reducible repeat (first | apply Kd.R_alloc | apply Kd.R_drewN | apply Kd.R_drew)); exact HO168.out) (Kd.R_base ho0) hb); have n1_ := Aside0.mk (Kd.R_elder' (by (with_reducible repeat (first | apply Kd.R_alloc | apply Kd.R_drewN | apply Kd.R_drew)); exact HO171.out) (Kd.R_base ho1) hb); have n2_ := Aside0.mk (Kd.R_lower (Kd.R_new' ho0 (Kd.R_lt (by (with_reducible repeat (first | apply Kd.R_alloc | apply Kd.R_drewN | apply Kd.R_drew)); exact HO168.out))) (below_size (by repeat (first | (with_reducible first | exact HB.out | apply below_alloc | apply pw_below_drewN | apply below_drew1) | exact HB.out)))); have n3_ := Aside0.mk (Kd.R_lower (Kd.R_new' ho1 (Kd.R_lt (by (with_reducible repeat (first | apply Kd.R_alloc | apply Kd.R_drewN | apply Kd.R_drew)); exact HO171.out))) (below_size (by repeat (first | (with_reducible first | exact HB.out | apply below_alloc | apply pw_below_drewN | apply below_drew1) | exact HB.out)))); have n4_ := Aside0.mk (below_step (by repeat (first | (with_reducible first | exact HB.out | apply below_alloc | apply pw_below_drewN | apply below_drew1) | exact HB.out)) hb); clear HO168; clear HO171; clear HB; have HO168 := n0_; have HO171 := n1_; have HO176 := n2_; have HO179 := n3_; have HB := n4_; clear n0_ n1_ n2_ n3_ n4_; (try clear hb); (try clear hb2); (try clear hk); (try clear hi); (try clear ho0); (try clear ho1); obtain ⟨Ao37, co37, eo37⟩ := Kd.R_slice HO168.out; subst eo37; obtain ⟨Ao38, co38, eo38⟩ := Kd.R_slice HO171.out; subst eo38; obtain ⟨Ao39, co39, eo39⟩ := Kd.R_slice HO176.out; subst eo39; obtain ⟨Ao40, co40, eo40⟩ := Kd.R_slice HO179.out; subst eo40) | ((with_reducible refine gate_callee (f := 7) rfl ?_); refine goesL_ (some 8) rfl rfl Try.func7 (by kernel_rfl) rfl #[.agg #[.int .i64 t164, .int .i64 t165, .slice Ao37 t166.length co37, .slice Ao38 t169.length co38], .agg #[.int .i64 t172, .int .i64 t173, .slice Ao39 t174.length co39, .slice Ao40 t177.length co40]] rfl (by (try simp only [List.map_toArray, List.map_cons, List.map_nil]); first | done | rfl | (simp only [List.length_drop, List.length_take]; rfl)) ?_; (with_reducible refine (watchpoint_Check.calls k t164 t165 _ _ t166 _ _ t169 t172 t173 _ _ t174 _ _ t177 t180 t181 t182 t185 false _ ?side1 ?side2 ?side3 ?side4 ?side5 ?side6 ?side7 ?side8 A3.out).mono ?_); (case side1 => repeat (first | exact (Kd.R_reads' HO168.out).2.2 | (with_reducible refine Kd.C_alloc ?_ _) | (with_reducible refine Kd.C_drewN ?_ _) | (with_reducible refine Kd.C_drew ?_))); (case side2 => exact (Kd.R_reads' HO168.out).2.1); (case side3 => repeat (first | exact (Kd.R_reads' HO171.out).2.2 | (with_reducible refine Kd.C_alloc ?_ _) | (with_reducible refine Kd.C_drewN ?_ _) | (with_reducible refine Kd.C_drew ?_))); (case side4 => exact (Kd.R_reads' HO171.out).2.1); (case side5 => repeat (first | exact (Kd.R_reads' HO176.out).2.2 | (with_reducible refine Kd.C_alloc ?_ _) | (with_reducible refine Kd.C_drewN ?_ _) | (with_reducible refine Kd.C_drew ?_))); (case side6 => exact (Kd.R_reads' HO176.out).2.1); (case side7 => repeat (first | exact (Kd.R_reads' HO179.out).2.2 | (with_reducible refine Kd.C_alloc ?_ _) | (with_reducible refine Kd.C_drewN ?_ _) | (with_reducible refine Kd.C_drew ?_))); (case side8 => exact (Kd.R_reads' HO179.out).2.1); rintro e w41 ⟨v183, v186, rfl, ho0, ho1, hb⟩; refine ⟨_, rfl, ?_⟩; have n0_ := Aside0.mk (Kd.R_elder' (by (with_reducible repeat (first | apply Kd.R_alloc | apply Kd.R_drewN | apply Kd.R_drew)); exact HO168.out) (Kd.R_base ho0) hb); have n1_ := Aside0.mk (Kd.R_elder' (by (with_reducible repeat (first | apply Kd.R_alloc | apply Kd.R_drewN | apply Kd.R_drew)); exact HO171.out) (Kd.R_base ho1) hb); have n2_ := Aside0.mk (Kd.R_elder' (by (with_reducible repeat (first | apply Kd.R_alloc | apply Kd.R_drewN | apply Kd.R_drew)); exact HO176.out) (Kd.R_base ho0) hb); have n3_ := Aside0.mk (Kd.R_elder' (by (with_reducible repeat (first | apply Kd.R_alloc | apply Kd.R_drewN | apply Kd.R_drew)); exact HO179.out) (Kd.R_base ho1) hb); have n4_ := Aside0.mk (Kd.R_lower (Kd.R_new' (Kd.R_new' ho0 (Kd.R_lt (by (with_reducible repeat (first | apply Kd.R_alloc | apply Kd.R_drewN | apply Kd.R_drew)); exact HO168.out))) (Kd.R_lt (by (with_reducible repeat (first | apply Kd.R_alloc | apply Kd.R_drewN | apply Kd.R_drew)); exact HO176.out))) (below_size (by repeat (first | (with_reducible first | exact HB.out | apply below_alloc | apply pw_below_drewN | apply below_drew1) | exact HB.out)))); have n5_ := Aside0.mk (Kd.R_lower (Kd.R_new' (Kd.R_new' ho1 (Kd.R_lt (by (with_reducible repeat (first | apply Kd.R_alloc | apply Kd.R_drewN | apply Kd.R_drew)); exact HO171.out))) (Kd.R_lt (by (with_reducible repeat (first | apply Kd.R_alloc | apply Kd.R_drewN | apply Kd.R_drew)); exact HO179.out))) (below_size (by repeat (first | (with_reducible first | exact HB.out | apply below_alloc | apply pw_below_drewN | apply below_drew1) | exact HB.out)))); have n6_ := Aside0.mk (below_step (by repeat (first | (with_reducible first | exact HB.out | apply below_alloc | apply pw_below_drewN | apply below_drew1) | exact HB.out)) hb); clear HO168; clear HO171; clear HO176; clear HO179; clear HB; have HO168 := n0_; have HO171 := n1_; have HO176 := n2_; have HO179 := n3_; have HO184 := n4_; have HO187 := n5_; have HB := n6_; clear n0_ n1_ n2_ n3_ n4_ n5_ n6_; (try clear hb); (try clear hb2); (try clear hk); (try clear hi); (try clear ho0); (try clear ho1)) | ((with_reducible refine gate_dst (N := 1) rfl ?_); (try (refine gate_guard (by rfl) ?_; dsimp only)); refine box_event ?hg (N := 1) ?hd (cs := #[.int .i64 0, .int .i64 0, .slice none 0 0, .slice none 0 0]) (t := 25) ?hr ?_; (case hd => rfl); (case hg => rfl); (case hr => first | (go_simp; done) | (go_simp; rfl)); intro gb189 hg w42 hbox hb; have n0_ := Aside0.mk (Kd.R_below (by (with_reducible repeat (first | apply Kd.R_alloc | apply Kd.R_drewN | apply Kd.R_drew)); exact HO168.out) hb); have n1_ := Aside0.mk (Kd.R_below (by (with_reducible repeat (first | apply Kd.R_alloc | apply Kd.R_drewN | apply Kd.R_drew)); exact HO171.out) hb); have n2_ := Aside0.mk (Kd.R_below (by (with_reducible repeat (first | apply Kd.R_alloc | apply Kd.R_drewN | apply Kd.R_drew)); exact HO176.out) hb); have n3_ := Aside0.mk (Kd.R_below (by (with_reducible repeat (first | apply Kd.R_alloc | apply Kd.R_drewN | apply Kd.R_drew)); exact HO179.out) hb); have n4_ := Aside0.mk (Kd.R_below (by (with_reducible repeat (first | apply Kd.R_alloc | apply Kd.R_drewN | apply Kd.R_drew)); exact HO184.out) hb); have n5_ := Aside0.mk (Kd.R_below (by (with_reducible repeat (first | apply Kd.R_alloc | apply Kd.R_drewN | apply Kd.R_drew)); exact HO187.out) hb); have n6_ := Aside0.mk (below_step (by repeat (first | (with_reducible first | exact HB.out | apply below_alloc | apply pw_below_drewN | apply below_drew1) | exact HB.out)) hb); have n7_ := Aside0.mk (hbox); have n8_ := Aside0.mk ((by rw [hg]; exact (below_size (by repeat (first | (with_reducible first | exact HB.out | apply below_alloc | apply pw_below_drewN | apply below_drew1) | exact HB.out))) : w.heap.size ≤ gb189)); have n9_ := Aside0.mk ((by rw [hg]; exact (below_size (by repeat (first | (with_reducible first | exact HB.out | apply below_alloc | apply pw_below_drewN | apply below_drew1) | exact HB.out))) : w.heap.size ≤ gb189)); clear HO168; clear HO171; clear HO176; clear HO179; clear HO184; clear HO187; clear HB; have HO168 := n0_; have HO171 := n1_; have HO176 := n2_; have HO179 := n3_; have HO184 := n4_; have HO187 := n5_; have HB := n6_; have BK189 := n7_; have GW189 := n8_; have GE189 := n9_; clear n0_ n1_ n2_ n3_ n4_ n5_ n6_ n7_ n8_ n9_; clear hb hbox hg; have hcz43_0 : w42.cell? ⟨gb189, 0, none⟩ = some (.int .i64 0) := (blk_cell BK189.out 0).trans rfl; have hcz43_1 : w42.cell? ⟨gb189, 1, none⟩ = some (.int .i64 0) := (blk_cell BK189.out 1).trans rfl; have hcz43_2 : w42.cell? ⟨gb189, 2, none⟩ = some (.slice none 0 0) := (blk_cell BK189.out 2).trans rfl; have hcz43_3 : w42.cell? ⟨gb189, 3, none⟩ = some (.slice none 0 0) := (blk_cell BK189.out 3).trans rfl; have hfz43_0 := blk_frozen BK189.out 0; have hfz43_1 := blk_frozen BK189.out 1; have hfz43_2 := blk_frozen BK189.out 2; have hfz43_3 := blk_frozen BK189.out 3; obtain ⟨Ao44, co44, eo44⟩ := Kd.R_slice HO184.out; subst eo44; obtain ⟨Ao45, co45, eo45⟩ := Kd.R_slice HO187.out; subst eo45))
          have n0_ : Aside0 (Kd.R Kd.bool 4 ((((w42.setCell ⟨gb189, 0, none⟩ (.int .i64 t180)).setCell ⟨gb189, 1, none⟩ (.int .i64 t181)).setCell ⟨gb189, 2, none⟩ (.slice Ao44 t182.length co44)).setCell ⟨gb189, 3, none⟩ (.slice Ao45 t185.length co45)) w.heap.size (fun k_ => some k_ ≠ (.slice Ao39 t174.length co39 : Value).ownBlock ∧ some k_ ≠ (.slice Ao44 t182.length co44 : Value).ownBlock) (.slice Ao37 t166.length co37) t166) := ⟨by (with_reducible repeat (first | apply Kd.R_alloc | apply Kd.R_drewN | apply Kd.R_drew)); exact Kd.R_mono (Kd.R_far (p := ⟨gb189, 3, none⟩) (Kd.R_far (p := ⟨gb189, 2, none⟩) (Kd.R_far (p := ⟨gb189, 1, none⟩) (Kd.R_far (p := ⟨gb189, 0, none⟩) (Kd.R_types HO168.out BK189.out (by decide)) (fun _ hk => hk.2) (.int .i64 t180)) (fun _ hk => hk.2) (.int .i64 t181)) (fun _ hk => hk.2) (.slice Ao44 t182.length co44)) (fun _ hk => hk.2) (.slice Ao45 t185.length co45)) (fun _ hk => ⟨hk.1.1.2, hk.1.2⟩)⟩
          have n1_ : Aside0 (Kd.R (Kd.int .i64) 3 ((((w42.setCell ⟨gb189, 0, none⟩ (.int .i64 t180)).setCell ⟨gb189, 1, none⟩ (.int .i64 t181)).setCell ⟨gb189, 2, none⟩ (.slice Ao44 t182.length co44)).setCell ⟨gb189, 3, none⟩ (.slice Ao45 t185.length co45)) w.heap.size (fun k_ => some k_ ≠ (.slice Ao40 t177.length co40 : Value).ownBlock ∧ some k_ ≠ (.slice Ao45 t185.length co45 : Value).ownBlock) (.slice Ao38 t169.length co38) t169) := ⟨by (with_reducible repeat (first | apply Kd.R_alloc | apply Kd.R_drewN | apply Kd.R_drew)); exact Kd.R_mono (Kd.R_far (p := ⟨gb189, 3, none⟩) (Kd.R_far (p := ⟨gb189, 2, none⟩) (Kd.R_far (p := ⟨gb189, 1, none⟩) (Kd.R_far (p := ⟨gb189, 0, none⟩) (Kd.R_types HO171.out BK189.out (by decide)) (fun _ hk => hk.2) (.int .i64 t180)) (fun _ hk => hk.2) (.int .i64 t181)) (fun _ hk => hk.2) (.slice Ao44 t182.length co44)) (fun _ hk => hk.2) (.slice Ao45 t185.length co45)) (fun _ hk => ⟨hk.1.1.2, hk.1.2⟩)⟩
          have n2_ : Aside0 (Kd.R Kd.bool 4 ((((w42.setCell ⟨gb189, 0, none⟩ (.int .i64 t180)).setCell ⟨gb189, 1, none⟩ (.int .i64 t181)).setCell ⟨gb189, 2, none⟩ (.slice Ao44 t182.length co44)).setCell ⟨gb189, 3, none⟩ (.slice Ao45 t185.length co45)) w.heap.size (fun k_ => some k_ ≠ (.slice Ao37 t166.length co37 : Value).ownBlock ∧ some k_ ≠ (.slice Ao44 t182.length co44 : Value).ownBlock) (.slice Ao39 t174.length co39) t174) := ⟨by (with_reducible repeat (first | apply Kd.R_alloc | apply Kd.R_drewN | apply Kd.R_drew)); exact Kd.R_mono (Kd.R_far (p := ⟨gb189, 3, none⟩) (Kd.R_far (p := ⟨gb189, 2, none⟩) (Kd.R_far (p := ⟨gb189, 1, none⟩) (Kd.R_far (p := ⟨gb189, 0, none⟩) (Kd.R_types HO176.out BK189.out (by decide)) (fun _ hk => hk.2) (.int .i64 t180)) (fun _ hk => hk.2) (.int .i64 t181)) (fun _ hk => hk.2) (.slice Ao44 t182.length co44)) (fun _ hk => hk.2) (.slice Ao45 t185.length co45)) (fun _ hk => ⟨hk.1.1.2, hk.1.2⟩)⟩
          have n3_ : Aside0 (Kd.R (Kd.int .i64) 3 ((((w42.setCell ⟨gb189, 0, none⟩ (.int .i64 t180)).setCell ⟨gb189, 1, none⟩ (.int .i64 t181)).setCell ⟨gb189, 2, none⟩ (.slice Ao44 t182.length co44)).setCell ⟨gb189, 3, none⟩ (.slice Ao45 t185.length co45)) w.heap.size (fun k_ => some k_ ≠ (.slice Ao38 t169.length co38 : Value).ownBlock ∧ some k_ ≠ (.slice Ao45 t185.length co45 : Value).ownBlock) (.slice Ao40 t177.length co40) t177) := ⟨by (with_reducible repeat (first | apply Kd.R_alloc | apply Kd.R_drewN | apply Kd.R_drew)); exact Kd.R_mono (Kd.R_far (p := ⟨gb189, 3, none⟩) (Kd.R_far (p := ⟨gb189, 2, none⟩) (Kd.R_far (p := ⟨gb189, 1, none⟩) (Kd.R_far (p := ⟨gb189, 0, none⟩) (Kd.R_types HO179.out BK189.out (by decide)) (fun _ hk => hk.2) (.int .i64 t180)) (fun _ hk => hk.2) (.int .i64 t181)) (fun _ hk => hk.2) (.slice Ao44 t182.length co44)) (fun _ hk => hk.2) (.slice Ao45 t185.length co45)) (fun _ hk => ⟨hk.1.1.2, hk.1.2⟩)⟩
          have n4_ : Aside0 (Kd.R Kd.bool 4 ((((w42.setCell ⟨gb189, 0, none⟩ (.int .i64 t180)).setCell ⟨gb189, 1, none⟩ (.int .i64 t181)).setCell ⟨gb189, 2, none⟩ (.slice Ao44 t182.length co44)).setCell ⟨gb189, 3, none⟩ (.slice Ao45 t185.length co45)) w.heap.size (fun k_ => some k_ ≠ (.slice Ao37 t166.length co37 : Value).ownBlock ∧ some k_ ≠ (.slice Ao39 t174.length co39 : Value).ownBlock) (.slice Ao44 t182.length co44) t182) := ⟨by (with_reducible repeat (first | apply Kd.R_alloc | apply Kd.R_drewN | apply Kd.R_drew)); exact Kd.R_mono (Kd.R_far (p := ⟨gb189, 3, none⟩) (Kd.R_far (p := ⟨gb189, 2, none⟩) (Kd.R_far (p := ⟨gb189, 1, none⟩) (Kd.R_far (p := ⟨gb189, 0, none⟩) (Kd.R_types HO184.out BK189.out (by decide)) (fun _ hk => hk.2) (.int .i64 t180)) (fun _ hk => hk.2) (.int .i64 t181)) (fun _ hk => hk.2) (.slice Ao44 t182.length co44)) (fun _ hk => hk.2) (.slice Ao45 t185.length co45)) (fun _ hk => ⟨hk.1.1.2, hk.1.2⟩)⟩
          have n5_ : Aside0 (Kd.R (Kd.int .i64) 3 ((((w42.setCell ⟨gb189, 0, none⟩ (.int .i64 t180)).setCell ⟨gb189, 1, none⟩ (.int .i64 t181)).setCell ⟨gb189, 2, none⟩ (.slice Ao44 t182.length co44)).setCell ⟨gb189, 3, none⟩ (.slice Ao45 t185.length co45)) w.heap.size (fun k_ => some k_ ≠ (.slice Ao38 t169.length co38 : Value).ownBlock ∧ some k_ ≠ (.slice Ao40 t177.length co40 : Value).ownBlock) (.slice Ao45 t185.length co45) t185) := ⟨by (with_reducible repeat (first | apply Kd.R_alloc | apply Kd.R_drewN | apply Kd.R_drew)); exact Kd.R_mono (Kd.R_far (p := ⟨gb189, 3, none⟩) (Kd.R_far (p := ⟨gb189, 2, none⟩) (Kd.R_far (p := ⟨gb189, 1, none⟩) (Kd.R_far (p := ⟨gb189, 0, none⟩) (Kd.R_types HO187.out BK189.out (by decide)) (fun _ hk => hk.2) (.int .i64 t180)) (fun _ hk => hk.2) (.int .i64 t181)) (fun _ hk => hk.2) (.slice Ao44 t182.length co44)) (fun _ hk => hk.2) (.slice Ao45 t185.length co45)) (fun _ hk => ⟨hk.1.1.2, hk.1.2⟩)⟩
          have n6_ : Aside0 (((((w42.setCell ⟨gb189, 0, none⟩ (.int .i64 t180)).setCell ⟨gb189, 1, none⟩ (.int .i64 t181)).setCell ⟨gb189, 2, none⟩ (.slice Ao44 t182.length co44)).setCell ⟨gb189, 3, none⟩ (.slice Ao45 t185.length co45)).heap[gb189]? = some (.cells #[.int .i64 t180, .int .i64 t181, .slice Ao44 t182.length co44, .slice Ao45 t185.length co45] 25 (0, 0))) := ⟨by (with_reducible repeat (first | refine blk_drewN ?_ _ | refine blk_drew ?_ | refine blk_alloc ?_ _)); refine blk_put (cs := #[.int .i64 t180, .int .i64 t181, .slice Ao44 t182.length co44, .slice none 0 0]) ?_ 3 _ rfl; (with_reducible repeat (first | refine blk_drewN ?_ _ | refine blk_drew ?_ | refine blk_alloc ?_ _)); refine blk_put (cs := #[.int .i64 t180, .int .i64 t181, .slice none 0 0, .slice none 0 0]) ?_ 2 _ rfl; (with_reducible repeat (first | refine blk_drewN ?_ _ | refine blk_drew ?_ | refine blk_alloc ?_ _)); refine blk_put (cs := #[.int .i64 t180, .int .i64 0, .slice none 0 0, .slice none 0 0]) ?_ 1 _ rfl; (with_reducible repeat (first | refine blk_drewN ?_ _ | refine blk_drew ?_ | refine blk_alloc ?_ _)); refine blk_put (cs := #[.int .i64 0, .int .i64 0, .slice none 0 0, .slice none 0 0]) ?_ 0 _ rfl; (with_reducible repeat (first | refine blk_drewN ?_ _ | refine blk_drew ?_ | refine blk_alloc ?_ _)); exact BK189.out⟩
          have n7_ : Aside0 (Below w.heap.size w ((((w42.setCell ⟨gb189, 0, none⟩ (.int .i64 t180)).setCell ⟨gb189, 1, none⟩ (.int .i64 t181)).setCell ⟨gb189, 2, none⟩ (.slice Ao44 t182.length co44)).setCell ⟨gb189, 3, none⟩ (.slice Ao45 t185.length co45))) := ⟨by repeat (first | (with_reducible first | exact HB.out | apply below_alloc | apply pw_below_drewN | apply below_drew1 | refine below_set ?_ GE189.out) | exact HB.out)⟩
          (try clear HO168)
          (try clear HO171)
          (try clear HO176)
          (try clear HO179)
          (try clear HO184)
          (try clear HO187)
          (try clear BK189)
          (try clear HB)
          generalize ((((w42.setCell ⟨gb189, 0, none⟩ (.int .i64 t180)).setCell ⟨gb189, 1, none⟩ (.int .i64 t181)).setCell ⟨gb189, 2, none⟩ (.slice Ao44 t182.length co44)).setCell ⟨gb189, 3, none⟩ (.slice Ao45 t185.length co45)) = w46 at n0_ n1_ n2_ n3_ n4_ n5_ n6_ n7_ ⊢
          have HO168 := n0_
          have HO171 := n1_
          have HO176 := n2_
          have HO179 := n3_
          have HO184 := n4_
          have HO187 := n5_
          have BK189 := n6_
          have HB := n7_
          clear n0_ n1_ n2_ n3_ n4_ n5_ n6_ n7_
          have n0_ := Aside0.mk (Kd.R_drew HO168.out)
          have n1_ := Aside0.mk (Kd.R_drew HO171.out)
          have n2_ := Aside0.mk (Kd.R_drew HO176.out)
          have n3_ := Aside0.mk (Kd.R_drew HO179.out)
          have n4_ := Aside0.mk (Kd.R_drew HO184.out)
          have n5_ := Aside0.mk (Kd.R_drew HO187.out)
          have n6_ := Aside0.mk (blk_drew BK189.out)
          have n7_ := Aside0.mk (below_drew1 HB.out)
          clear HO168
          clear HO171
          clear HO176
          clear HO179
          clear HO184
          clear HO187
          clear BK189
          clear HB
          have HO168 := n0_
          have HO171 := n1_
          have HO176 := n2_
          have HO179 := n3_
          have HO184 := n4_
          have HO187 := n5_
          have BK189 := n6_
          have HB := n7_
          clear n0_ n1_ n2_ n3_ n4_ n5_ n6_ n7_
          refine start_ (n := 9) (S := fun w' => w'.cell? ⟨gb189, 0, none⟩ = some (.int .i64 t180) ∧ w'.cell? ⟨gb189, 1, none⟩ = some (.int .i64 t181) ∧ w'.cell? ⟨gb189, 2, none⟩ = some (.slice Ao44 t182.length co44) ∧ w'.cell? ⟨gb189, 3, none⟩ = some (.slice Ao45 t185.length co45)) (ds := []) #[false, false, false, false, false, false, false, false, false] (by kernel_rfl) rfl rfl ⟨(blk_cell BK189.out 0).trans rfl, (blk_cell BK189.out 1).trans rfl, (blk_cell BK189.out 2).trans rfl, (blk_cell BK189.out 3).trans rfl⟩ (fun hHeld => ?_); refine with_tabW debuggerlaw41_awake.tab2 debuggerlaw41_awake.bits2 (fun HT_ HW_ => ?_)
          generalize w46.drew = w47 at HO168 HO171 HO176 HO179 HO184 HO187 BK189 HB hHeld ⊢
          refine take_ (i := 0) (N := some 12) (v := ?_) (a' := ?_) #[true, false, false, false, false, false, false, false, false] rfl rfl (take_ofW HT_.out HW_.out (by kernel_rfl)) (fun _ _ _ h => h) (Or.inl ⟨by rfl, ?_⟩) hHeld ?_ ?_
          rotate_left
          · rintro w' ⟨s0, s1, s2, s3⟩
            go_simp
            with_reducible rfl
          rotate_left
          · simp only [Act.put, List.setIfInBounds_toArray, List.set_cons_zero, List.set_cons_succ, i64_w, i32_w]
            rfl
          refine join_ (σ := Value × Value × Value × Value × Nat) 2 #[true, true, true, true, true, true, true, false, false] (fun s_ => [(13, .agg #[.int .i64 t190, .int .i64 t191, s_.1, s_.2.1]), (14, .tuple #[.agg #[.int .i64 t198, .int .i64 t199, s_.2.2.1, s_.2.2.2.1], .bool true]), (3, .pointer (some ⟨s_.2.2.2.2, 0, none⟩)), (11, .tuple #[.agg #[.int .i64 t198, .int .i64 t199, s_.2.2.1, s_.2.2.2.1], .bool true]), (15, .agg #[.int .i64 t198, .int .i64 t199, s_.2.2.1, s_.2.2.2.1]), (16, .bool true)]) (fun s_ w' => (w'.cell? ⟨gb189, 0, none⟩ = some (.int .i64 t180) ∧ w'.cell? ⟨gb189, 1, none⟩ = some (.int .i64 t181) ∧ w'.cell? ⟨gb189, 2, none⟩ = some (.slice Ao44 t182.length co44) ∧ w'.cell? ⟨gb189, 3, none⟩ = some (.slice Ao45 t185.length co45)) ∧ (Kd.R Kd.bool 4 w' w.heap.size (fun k_ => some k_ ≠ (.slice Ao39 t174.length co39 : Value).ownBlock ∧ some k_ ≠ (.slice Ao44 t182.length co44 : Value).ownBlock ∧ some k_ ≠ (s_.1 : Value).ownBlock ∧ some k_ ≠ (s_.2.2.1 : Value).ownBlock) (.slice Ao37 t166.length co37) t166) ∧ (Kd.R (Kd.int .i64) 3 w' w.heap.size (fun k_ => some k_ ≠ (.slice Ao40 t177.length co40 : Value).ownBlock ∧ some k_ ≠ (.slice Ao45 t185.length co45 : Value).ownBlock ∧ some k_ ≠ (s_.2.1 : Value).ownBlock ∧ some k_ ≠ (s_.2.2.2.1 : Value).ownBlock) (.slice Ao38 t169.length co38) t169) ∧ (Kd.R Kd.bool 4 w' w.heap.size (fun k_ => some k_ ≠ (.slice Ao37 t166.length co37 : Value).ownBlock ∧ some k_ ≠ (.slice Ao44 t182.length co44 : Value).ownBlock ∧ some k_ ≠ (s_.1 : Value).ownBlock ∧ some k_ ≠ (s_.2.2.1 : Value).ownBlock) (.slice Ao39 t174.length co39) t174) ∧ (Kd.R (Kd.int .i64) 3 w' w.heap.size (fun k_ => some k_ ≠ (.slice Ao38 t169.length co38 : Value).ownBlock ∧ some k_ ≠ (.slice Ao45 t185.length co45 : Value).ownBlock ∧ some k_ ≠ (s_.2.1 : Value).ownBlock ∧ some k_ ≠ (s_.2.2.2.1 : Value).ownBlock) (.slice Ao40 t177.length co40) t177) ∧ (Kd.R Kd.bool 4 w' w.heap.size (fun k_ => some k_ ≠ (.slice Ao37 t166.length co37 : Value).ownBlock ∧ some k_ ≠ (.slice Ao39 t174.length co39 : Value).ownBlock ∧ some k_ ≠ (s_.1 : Value).ownBlock ∧ some k_ ≠ (s_.2.2.1 : Value).ownBlock) (.slice Ao44 t182.length co44) t182) ∧ (Kd.R (Kd.int .i64) 3 w' w.heap.size (fun k_ => some k_ ≠ (.slice Ao38 t169.length co38 : Value).ownBlock ∧ some k_ ≠ (.slice Ao40 t177.length co40 : Value).ownBlock ∧ some k_ ≠ (s_.2.1 : Value).ownBlock ∧ some k_ ≠ (s_.2.2.2.1 : Value).ownBlock) (.slice Ao45 t185.length co45) t185) ∧ (Kd.R Kd.bool 4 w' w.heap.size (fun k_ => some k_ ≠ (.slice Ao37 t166.length co37 : Value).ownBlock ∧ some k_ ≠ (.slice Ao39 t174.length co39 : Value).ownBlock ∧ some k_ ≠ (.slice Ao44 t182.length co44 : Value).ownBlock ∧ some k_ ≠ (s_.2.2.1 : Value).ownBlock) s_.1 t192) ∧ (Kd.R (Kd.int .i64) 3 w' w.heap.size (fun k_ => some k_ ≠ (.slice Ao38 t169.length co38 : Value).ownBlock ∧ some k_ ≠ (.slice Ao40 t177.length co40 : Value).ownBlock ∧ some k_ ≠ (.slice Ao45 t185.length co45 : Value).ownBlock ∧ some k_ ≠ (s_.2.2.2.1 : Value).ownBlock) s_.2.1 t195) ∧ (Kd.R Kd.bool 4 w' w.heap.size (fun k_ => some k_ ≠ (.slice Ao37 t166.length co37 : Value).ownBlock ∧ some k_ ≠ (.slice Ao39 t174.length co39 : Value).ownBlock ∧ some k_ ≠ (.slice Ao44 t182.length co44 : Value).ownBlock ∧ some k_ ≠ (s_.1 : Value).ownBlock) s_.2.2.1 t200) ∧ (Kd.R (Kd.int .i64) 3 w' w.heap.size (fun k_ => some k_ ≠ (.slice Ao38 t169.length co38 : Value).ownBlock ∧ some k_ ≠ (.slice Ao40 t177.length co40 : Value).ownBlock ∧ some k_ ≠ (.slice Ao45 t185.length co45 : Value).ownBlock ∧ some k_ ≠ (s_.2.1 : Value).ownBlock) s_.2.2.2.1 t203) ∧ (w'.heap[gb189]? = some (.cells #[.int .i64 t180, .int .i64 t181, .slice Ao44 t182.length co44, .slice Ao45 t185.length co45] 25 (0, 0))) ∧ (w'.heap[s_.2.2.2.2]? = some (.cells #[.int .i64 0, .int .i64 0, .slice none 0 0, .slice none 0 0] 25 (0, 0))) ∧ (w.heap.size ≤ s_.2.2.2.2) ∧ (w.heap.size ≤ s_.2.2.2.2) ∧ (gb189 ≠ s_.2.2.2.2) ∧ (s_.2.2.2.2 ≠ gb189) ∧ (Below w.heap.size w w')) ?_ ?_
          rotate_left
          · intro hCont
            refine two_ (i := 1) (j := 6) (Ni := some 13) (Nj := some 3) #[true, true, false, false, false, false, false, false, false] #[true, false, false, false, false, false, true, false, false] rfl rfl rfl rfl (two_of HT_.out (by kernel_rfl)) (by decide) (by decide) (fun K hK => ?_) (fun K hK => ?_)
            · skip
              refine goes_ Try.func5 (by kernel_rfl) rfl #[.int .i64 6, .bool true] (by rfl) rfl rfl (by (try simp only [List.map_toArray, List.map_cons, List.map_nil]); first | done | rfl | (simp only [List.length_drop, List.length_take]; rfl)) ?_
              with_reducible refine (debuggerlaw41_number.calls 6 true t190 t191 t192 t195 _ A4.out).mono ?_
              rintro e w48 ⟨v193, v196, rfl, ho0, ho1, hb⟩
              refine ⟨_, rfl, ?_⟩
              have n0_ := Aside0.mk (Kd.R_elder' (by (with_reducible repeat (first | apply Kd.R_alloc | apply Kd.R_drewN | apply Kd.R_drew)); exact HO168.out) (Kd.R_base ho0) hb)
              have n1_ := Aside0.mk (Kd.R_elder' (by (with_reducible repeat (first | apply Kd.R_alloc | apply Kd.R_drewN | apply Kd.R_drew)); exact HO171.out) (Kd.R_base ho1) hb)
              have n2_ := Aside0.mk (Kd.R_elder' (by (with_reducible repeat (first | apply Kd.R_alloc | apply Kd.R_drewN | apply Kd.R_drew)); exact HO176.out) (Kd.R_base ho0) hb)
              have n3_ := Aside0.mk (Kd.R_elder' (by (with_reducible repeat (first | apply Kd.R_alloc | apply Kd.R_drewN | apply Kd.R_drew)); exact HO179.out) (Kd.R_base ho1) hb)
              have n4_ := Aside0.mk (Kd.R_elder' (by (with_reducible repeat (first | apply Kd.R_alloc | apply Kd.R_drewN | apply Kd.R_drew)); exact HO184.out) (Kd.R_base ho0) hb)
              have n5_ := Aside0.mk (Kd.R_elder' (by (with_reducible repeat (first | apply Kd.R_alloc | apply Kd.R_drewN | apply Kd.R_drew)); exact HO187.out) (Kd.R_base ho1) hb)
              have n6_ := Aside0.mk (Kd.R_lower (Kd.R_new' (Kd.R_new' (Kd.R_new' ho0 (Kd.R_lt (by (with_reducible repeat (first | apply Kd.R_alloc | apply Kd.R_drewN | apply Kd.R_drew)); exact HO168.out))) (Kd.R_lt (by (with_reducible repeat (first | apply Kd.R_alloc | apply Kd.R_drewN | apply Kd.R_drew)); exact HO176.out))) (Kd.R_lt (by (with_reducible repeat (first | apply Kd.R_alloc | apply Kd.R_drewN | apply Kd.R_drew)); exact HO184.out))) (below_size (by repeat (first | (with_reducible first | exact HB.out | apply below_alloc | apply pw_below_drewN | apply below_drew1 | refine below_set ?_ GE189.out) | exact HB.out))))
              have n7_ := Aside0.mk (Kd.R_lower (Kd.R_new' (Kd.R_new' (Kd.R_new' ho1 (Kd.R_lt (by (with_reducible repeat (first | apply Kd.R_alloc | apply Kd.R_drewN | apply Kd.R_drew)); exact HO171.out))) (Kd.R_lt (by (with_reducible repeat (first | apply Kd.R_alloc | apply Kd.R_drewN | apply Kd.R_drew)); exact HO179.out))) (Kd.R_lt (by (with_reducible repeat (first | apply Kd.R_alloc | apply Kd.R_drewN | apply Kd.R_drew)); exact HO187.out))) (below_size (by repeat (first | (with_reducible first | exact HB.out | apply below_alloc | apply pw_below_drewN | apply below_drew1 | refine below_set ?_ GE189.out) | exact HB.out))))
              have n8_ := Aside0.mk (blk_below (g := gb189) (o := .cells #[.int .i64 t180, .int .i64 t181, .slice Ao44 t182.length co44, .slice Ao45 t185.length co45] 25 (0, 0)) (by (with_reducible repeat (first | refine blk_drewN ?_ _ | refine blk_drew ?_ | refine blk_alloc ?_ _)); exact BK189.out) hb)
              have n9_ := Aside0.mk (below_step (by repeat (first | (with_reducible first | exact HB.out | apply below_alloc | apply pw_below_drewN | apply below_drew1 | refine below_set ?_ GE189.out) | exact HB.out)) hb)
              clear HO168
              clear HO171
              clear HO176
              clear HO179
              clear HO184
              clear HO187
              clear BK189
              clear HB
              have HO168 := n0_
              have HO171 := n1_
              have HO176 := n2_
              have HO179 := n3_
              have HO184 := n4_
              have HO187 := n5_
              have HO194 := n6_
              have HO197 := n7_
              have BK189 := n8_
              have HB := n9_
              clear n0_ n1_ n2_ n3_ n4_ n5_ n6_ n7_ n8_ n9_
              (try clear hb)
              (try clear hb2)
              (try clear hk)
              (try clear hi)
              (try clear ho0)
              (try clear ho1)
              obtain ⟨Ao49, co49, eo49⟩ := Kd.R_slice HO194.out
              (first | subst eo49 | (injection eo49 with f1_ f2_ f3_; have f4_ := f1_.symm; have f5_ := f3_.symm; clear f1_ f2_ f3_; subst f4_; subst f5_))
              obtain ⟨Ao50, co50, eo50⟩ := Kd.R_slice HO197.out
              (first | subst eo50 | (injection eo50 with f1_ f2_ f3_; have f4_ := f1_.symm; have f5_ := f3_.symm; clear f1_ f2_ f3_; subst f4_; subst f5_))
              refine hK.out _ _ ⟨(blk_cell BK189.out 0).trans rfl, (blk_cell BK189.out 1).trans rfl, (blk_cell BK189.out 2).trans rfl, (blk_cell BK189.out 3).trans rfl⟩ (fun hHeld => ?_)
              clear hK K
              refine norm_ (a' := ?_) ?_ ?_
              rotate_left
              · show Act.put _ (some 13) _ = _
                simp only [Act.put, List.setIfInBounds_toArray, List.set_cons_zero, List.set_cons_succ, i64_w, i32_w]
                rfl
              refine two_ (i := 2) (j := 6) (Ni := some 14) (Nj := some 3) #[true, true, true, false, false, false, false, false, false] #[true, true, false, false, false, false, true, false, false] rfl rfl rfl rfl (two_of HT_.out (by kernel_rfl)) (by decide) (by decide) (fun K hK => ?_) (fun K hK => ?_)
              · skip
                refine goes_ Try.func7 (by kernel_rfl) rfl #[.agg #[.int .i64 t180, .int .i64 t181, .slice Ao44 t182.length co44, .slice Ao45 t185.length co45], .agg #[.int .i64 t190, .int .i64 t191, .slice Ao49 t192.length co49, .slice Ao50 t195.length co50]] (by rfl) rfl rfl (by (try simp only [List.map_toArray, List.map_cons, List.map_nil]); first | done | rfl | (simp only [List.length_drop, List.length_take]; rfl)) ?_
                with_reducible refine (watchpoint_Check.calls k t180 t181 _ _ t182 _ _ t185 t190 t191 _ _ t192 _ _ t195 t198 t199 t200 t203 true _ ?side1 ?side2 ?side3 ?side4 ?side5 ?side6 ?side7 ?side8 A5.out).mono ?_
                (case side1 => repeat (first | exact (Kd.R_reads' HO184.out).2.2 | (with_reducible refine Kd.C_alloc ?_ _) | (with_reducible refine Kd.C_drewN ?_ _) | (with_reducible refine Kd.C_drew ?_)))
                (case side2 => exact (Kd.R_reads' HO184.out).2.1)
                (case side3 => repeat (first | exact (Kd.R_reads' HO187.out).2.2 | (with_reducible refine Kd.C_alloc ?_ _) | (with_reducible refine Kd.C_drewN ?_ _) | (with_reducible refine Kd.C_drew ?_)))
                (case side4 => exact (Kd.R_reads' HO187.out).2.1)
                (case side5 => repeat (first | exact (Kd.R_reads' HO194.out).2.2 | (with_reducible refine Kd.C_alloc ?_ _) | (with_reducible refine Kd.C_drewN ?_ _) | (with_reducible refine Kd.C_drew ?_)))
                (case side6 => exact (Kd.R_reads' HO194.out).2.1)
                (case side7 => repeat (first | exact (Kd.R_reads' HO197.out).2.2 | (with_reducible refine Kd.C_alloc ?_ _) | (with_reducible refine Kd.C_drewN ?_ _) | (with_reducible refine Kd.C_drew ?_)))
                (case side8 => exact (Kd.R_reads' HO197.out).2.1)
                rintro e w51 ⟨v201, v204, rfl, ho0, ho1, hb⟩
                refine ⟨_, rfl, ?_⟩
                have n0_ := Aside0.mk (Kd.R_elder' (by (with_reducible repeat (first | apply Kd.R_alloc | apply Kd.R_drewN | apply Kd.R_drew)); exact HO168.out) (Kd.R_base ho0) hb)
                have n1_ := Aside0.mk (Kd.R_elder' (by (with_reducible repeat (first | apply Kd.R_alloc | apply Kd.R_drewN | apply Kd.R_drew)); exact HO171.out) (Kd.R_base ho1) hb)
                have n2_ := Aside0.mk (Kd.R_elder' (by (with_reducible repeat (first | apply Kd.R_alloc | apply Kd.R_drewN | apply Kd.R_drew)); exact HO176.out) (Kd.R_base ho0) hb)
                have n3_ := Aside0.mk (Kd.R_elder' (by (with_reducible repeat (first | apply Kd.R_alloc | apply Kd.R_drewN | apply Kd.R_drew)); exact HO179.out) (Kd.R_base ho1) hb)
                have n4_ := Aside0.mk (Kd.R_elder' (by (with_reducible repeat (first | apply Kd.R_alloc | apply Kd.R_drewN | apply Kd.R_drew)); exact HO184.out) (Kd.R_base ho0) hb)
                have n5_ := Aside0.mk (Kd.R_elder' (by (with_reducible repeat (first | apply Kd.R_alloc | apply Kd.R_drewN | apply Kd.R_drew)); exact HO187.out) (Kd.R_base ho1) hb)
                have n6_ := Aside0.mk (Kd.R_elder' (by (with_reducible repeat (first | apply Kd.R_alloc | apply Kd.R_drewN | apply Kd.R_drew)); exact HO194.out) (Kd.R_base ho0) hb)
                have n7_ := Aside0.mk (Kd.R_elder' (by (with_reducible repeat (first | apply Kd.R_alloc | apply Kd.R_drewN | apply Kd.R_drew)); exact HO197.out) (Kd.R_base ho1) hb)
                have n8_ := Aside0.mk (Kd.R_lower (Kd.R_new' (Kd.R_new' (Kd.R_new' (Kd.R_new' ho0 (Kd.R_lt (by (with_reducible repeat (first | apply Kd.R_alloc | apply Kd.R_drewN | apply Kd.R_drew)); exact HO168.out))) (Kd.R_lt (by (with_reducible repeat (first | apply Kd.R_alloc | apply Kd.R_drewN | apply Kd.R_drew)); exact HO176.out))) (Kd.R_lt (by (with_reducible repeat (first | apply Kd.R_alloc | apply Kd.R_drewN | apply Kd.R_drew)); exact HO184.out))) (Kd.R_lt (by (with_reducible repeat (first | apply Kd.R_alloc | apply Kd.R_drewN | apply Kd.R_drew)); exact HO194.out))) (below_size (by repeat (first | (with_reducible first | exact HB.out | apply below_alloc | apply pw_below_drewN | apply below_drew1 | refine below_set ?_ GE189.out) | exact HB.out))))
                have n9_ := Aside0.mk (Kd.R_lower (Kd.R_new' (Kd.R_new' (Kd.R_new' (Kd.R_new' ho1 (Kd.R_lt (by (with_reducible repeat (first | apply Kd.R_alloc | apply Kd.R_drewN | apply Kd.R_drew)); exact HO171.out))) (Kd.R_lt (by (with_reducible repeat (first | apply Kd.R_alloc | apply Kd.R_drewN | apply Kd.R_drew)); exact HO179.out))) (Kd.R_lt (by (with_reducible repeat (first | apply Kd.R_alloc | apply Kd.R_drewN | apply Kd.R_drew)); exact HO187.out))) (Kd.R_lt (by (with_reducible repeat (first | apply Kd.R_alloc | apply Kd.R_drewN | apply Kd.R_drew)); exact HO197.out))) (below_size (by repeat (first | (with_reducible first | exact HB.out | apply below_alloc | apply pw_below_drewN | apply below_drew1 | refine below_set ?_ GE189.out) | exact HB.out))))
                have n10_ := Aside0.mk (blk_below (g := gb189) (o := .cells #[.int .i64 t180, .int .i64 t181, .slice Ao44 t182.length co44, .slice Ao45 t185.length co45] 25 (0, 0)) (by (with_reducible repeat (first | refine blk_drewN ?_ _ | refine blk_drew ?_ | refine blk_alloc ?_ _)); exact BK189.out) hb)
                have n11_ := Aside0.mk (below_step (by repeat (first | (with_reducible first | exact HB.out | apply below_alloc | apply pw_below_drewN | apply below_drew1 | refine below_set ?_ GE189.out) | exact HB.out)) hb)
                clear HO168
                clear HO171
                clear HO176
                clear HO179
                clear HO184
                clear HO187
                clear HO194
                clear HO197
                clear BK189
                clear HB
                have HO168 := n0_
                have HO171 := n1_
                have HO176 := n2_
                have HO179 := n3_
                have HO184 := n4_
                have HO187 := n5_
                have HO194 := n6_
                have HO197 := n7_
                have HO202 := n8_
                have HO205 := n9_
                have BK189 := n10_
                have HB := n11_
                clear n0_ n1_ n2_ n3_ n4_ n5_ n6_ n7_ n8_ n9_ n10_ n11_
                (try clear hb)
                (try clear hb2)
                (try clear hk)
                (try clear hi)
                (try clear ho0)
                (try clear ho1)
                refine hK.out _ _ ⟨(blk_cell BK189.out 0).trans rfl, (blk_cell BK189.out 1).trans rfl, (blk_cell BK189.out 2).trans rfl, (blk_cell BK189.out 3).trans rfl⟩ (fun hHeld => ?_)
                clear hK K
                refine norm_ (a' := ?_) ?_ ?_
                rotate_left
                · show Act.put _ (some 14) _ = _
                  simp only [Act.put, List.setIfInBounds_toArray, List.set_cons_zero, List.set_cons_succ, i64_w, i32_w]
                  rfl
                refine pure_ (i := 3) (N := some 11) (v := ?_) (a' := ?_) #[true, true, true, true, false, false, false, false, false] rfl rfl (any_of HT_.out (by kernel_rfl)) (fun _ _ _ h => h) (Or.inl ⟨by rfl, ?_⟩) ?_ ?_
                rotate_left
                · intro w'
                  go_simp
                  with_reducible rfl
                rotate_left
                · simp only [Act.put, List.setIfInBounds_toArray, List.set_cons_zero, List.set_cons_succ, i64_w, i32_w]
                  rfl
                refine pure_ (i := 4) (N := some 15) (v := ?_) (a' := ?_) #[true, true, true, true, true, false, false, false, false] rfl rfl (any_of HT_.out (by kernel_rfl)) (fun _ _ _ h => h) (Or.inl ⟨by rfl, ?_⟩) ?_ ?_
                rotate_left
                · intro w'
                  go_simp
                  with_reducible rfl
                rotate_left
                · simp only [Act.put, List.setIfInBounds_toArray, List.set_cons_zero, List.set_cons_succ, i64_w, i32_w]
                  rfl
                refine pure_ (i := 5) (N := some 16) (v := ?_) (a' := ?_) #[true, true, true, true, true, true, false, false, false] rfl rfl (any_of HT_.out (by kernel_rfl)) (fun _ _ _ h => h) (Or.inl ⟨by rfl, ?_⟩) ?_ ?_
                rotate_left
                · intro w'
                  go_simp
                  with_reducible rfl
                rotate_left
                · simp only [Act.put, List.setIfInBounds_toArray, List.set_cons_zero, List.set_cons_succ, i64_w, i32_w]
                  rfl
                refine one_ (i := 6) (N := some 3) #[true, true, true, true, true, true, true, false, false] rfl rfl (one_of HT_.out (by kernel_rfl)) (by decide) (fun K hK => ?_)
                refine box_step ?hg (N := 3) ?hd (cs := #[.int .i64 0, .int .i64 0, .slice none 0 0, .slice none 0 0]) (t := 25) ?hr ?_; (case hd => rfl); (case hg => rfl); (case hr => first | (go_simp; done) | (go_simp; rfl))
                intro gb207 hg w52 hbox hb
                have n0_ := Aside0.mk (Kd.R_below (by (with_reducible repeat (first | apply Kd.R_alloc | apply Kd.R_drewN | apply Kd.R_drew)); exact HO168.out) hb)
                have n1_ := Aside0.mk (Kd.R_below (by (with_reducible repeat (first | apply Kd.R_alloc | apply Kd.R_drewN | apply Kd.R_drew)); exact HO171.out) hb)
                have n2_ := Aside0.mk (Kd.R_below (by (with_reducible repeat (first | apply Kd.R_alloc | apply Kd.R_drewN | apply Kd.R_drew)); exact HO176.out) hb)
                have n3_ := Aside0.mk (Kd.R_below (by (with_reducible repeat (first | apply Kd.R_alloc | apply Kd.R_drewN | apply Kd.R_drew)); exact HO179.out) hb)
                have n4_ := Aside0.mk (Kd.R_below (by (with_reducible repeat (first | apply Kd.R_alloc | apply Kd.R_drewN | apply Kd.R_drew)); exact HO184.out) hb)
                have n5_ := Aside0.mk (Kd.R_below (by (with_reducible repeat (first | apply Kd.R_alloc | apply Kd.R_drewN | apply Kd.R_drew)); exact HO187.out) hb)
                have n6_ := Aside0.mk (Kd.R_below (by (with_reducible repeat (first | apply Kd.R_alloc | apply Kd.R_drewN | apply Kd.R_drew)); exact HO194.out) hb)
                have n7_ := Aside0.mk (Kd.R_below (by (with_reducible repeat (first | apply Kd.R_alloc | apply Kd.R_drewN | apply Kd.R_drew)); exact HO197.out) hb)
                have n8_ := Aside0.mk (Kd.R_below (by (with_reducible repeat (first | apply Kd.R_alloc | apply Kd.R_drewN | apply Kd.R_drew)); exact HO202.out) hb)
                have n9_ := Aside0.mk (Kd.R_below (by (with_reducible repeat (first | apply Kd.R_alloc | apply Kd.R_drewN | apply Kd.R_drew)); exact HO205.out) hb)
                have n10_ := Aside0.mk (blk_below (g := gb189) (o := .cells #[.int .i64 t180, .int .i64 t181, .slice Ao44 t182.length co44, .slice Ao45 t185.length co45] 25 (0, 0)) (by (with_reducible repeat (first | refine blk_drewN ?_ _ | refine blk_drew ?_ | refine blk_alloc ?_ _)); exact BK189.out) hb)
                have n11_ := Aside0.mk (below_step (by repeat (first | (with_reducible first | exact HB.out | apply below_alloc | apply pw_below_drewN | apply below_drew1 | refine below_set ?_ GE189.out) | exact HB.out)) hb)
                have n12_ := Aside0.mk (hbox)
                have n13_ := Aside0.mk ((by rw [hg]; exact (below_size (by repeat (first | (with_reducible first | exact HB.out | apply below_alloc | apply pw_below_drewN | apply below_drew1 | refine below_set ?_ GE189.out) | exact HB.out))) : w.heap.size ≤ gb207))
                have n14_ := Aside0.mk ((by rw [hg]; exact (below_size (by repeat (first | (with_reducible first | exact HB.out | apply below_alloc | apply pw_below_drewN | apply below_drew1 | refine below_set ?_ GE189.out) | exact HB.out))) : w.heap.size ≤ gb207))
                have n15_ := Aside0.mk ((by rw [hg]; exact Nat.ne_of_lt (blk_lt (g := gb189) (o := .cells #[.int .i64 t180, .int .i64 t181, .slice Ao44 t182.length co44, .slice Ao45 t185.length co45] 25 (0, 0)) (by (with_reducible repeat (first | refine blk_drewN ?_ _ | refine blk_drew ?_ | refine blk_alloc ?_ _)); exact BK189.out)) : gb189 ≠ gb207))
                have n16_ := Aside0.mk ((by rw [hg]; exact Nat.ne_of_gt (blk_lt (g := gb189) (o := .cells #[.int .i64 t180, .int .i64 t181, .slice Ao44 t182.length co44, .slice Ao45 t185.length co45] 25 (0, 0)) (by (with_reducible repeat (first | refine blk_drewN ?_ _ | refine blk_drew ?_ | refine blk_alloc ?_ _)); exact BK189.out)) : gb207 ≠ gb189))
                clear HO168
                clear HO171
                clear HO176
                clear HO179
                clear HO184
                clear HO187
                clear HO194
                clear HO197
                clear HO202
                clear HO205
                clear BK189
                clear HB
                have HO168 := n0_
                have HO171 := n1_
                have HO176 := n2_
                have HO179 := n3_
                have HO184 := n4_
                have HO187 := n5_
                have HO194 := n6_
                have HO197 := n7_
                have HO202 := n8_
                have HO205 := n9_
                have BK189 := n10_
                have HB := n11_
                have BK207 := n12_
                have GW207 := n13_
                have GE207 := n14_
                have NB189_207 := n15_
                have NB207_189 := n16_
                clear n0_ n1_ n2_ n3_ n4_ n5_ n6_ n7_ n8_ n9_ n10_ n11_ n12_ n13_ n14_ n15_ n16_
                clear hb hbox hg
                refine hK.out _ _ ⟨(blk_cell BK189.out 0).trans rfl, (blk_cell BK189.out 1).trans rfl, (blk_cell BK189.out 2).trans rfl, (blk_cell BK189.out 3).trans rfl⟩ (fun hHeld => ?_)
                clear hK K
                refine norm_ (a' := ?_) ?_ ?_
                rotate_left
                · show Act.put _ (some 3) _ = _
                  simp only [Act.put, List.setIfInBounds_toArray, List.set_cons_zero, List.set_cons_succ, i64_w, i32_w]
                  rfl
                exact norm_ (by simp only [putAll, Act.put, List.setIfInBounds_toArray, List.set_cons_zero, List.set_cons_succ]) (hCont (.slice Ao49 t192.length co49, .slice Ao50 t195.length co50, v201, v204, gb207) _ ⟨hHeld, (by (with_reducible repeat (first | apply Kd.R_alloc | apply Kd.R_drewN | apply Kd.R_drew)); exact Kd.R_mono HO168.out (fun _ hk => ⟨hk.1.1.1, ⟨hk.1.1.2, ⟨hk.1.2, hk.2⟩⟩⟩)), (by (with_reducible repeat (first | apply Kd.R_alloc | apply Kd.R_drewN | apply Kd.R_drew)); exact Kd.R_mono HO171.out (fun _ hk => ⟨hk.1.1.1, ⟨hk.1.1.2, ⟨hk.1.2, hk.2⟩⟩⟩)), (by (with_reducible repeat (first | apply Kd.R_alloc | apply Kd.R_drewN | apply Kd.R_drew)); exact Kd.R_mono HO176.out (fun _ hk => ⟨hk.1.1.1, ⟨hk.1.1.2, ⟨hk.1.2, hk.2⟩⟩⟩)), (by (with_reducible repeat (first | apply Kd.R_alloc | apply Kd.R_drewN | apply Kd.R_drew)); exact Kd.R_mono HO179.out (fun _ hk => ⟨hk.1.1.1, ⟨hk.1.1.2, ⟨hk.1.2, hk.2⟩⟩⟩)), (by (with_reducible repeat (first | apply Kd.R_alloc | apply Kd.R_drewN | apply Kd.R_drew)); exact Kd.R_mono HO184.out (fun _ hk => ⟨hk.1.1.1, ⟨hk.1.1.2, ⟨hk.1.2, hk.2⟩⟩⟩)), (by (with_reducible repeat (first | apply Kd.R_alloc | apply Kd.R_drewN | apply Kd.R_drew)); exact Kd.R_mono HO187.out (fun _ hk => ⟨hk.1.1.1, ⟨hk.1.1.2, ⟨hk.1.2, hk.2⟩⟩⟩)), (by (with_reducible repeat (first | apply Kd.R_alloc | apply Kd.R_drewN | apply Kd.R_drew)); exact Kd.R_mono HO194.out (fun _ hk => ⟨hk.1.1.1.2, ⟨hk.1.1.2, ⟨hk.1.2, hk.2⟩⟩⟩)), (by (with_reducible repeat (first | apply Kd.R_alloc | apply Kd.R_drewN | apply Kd.R_drew)); exact Kd.R_mono HO197.out (fun _ hk => ⟨hk.1.1.1.2, ⟨hk.1.1.2, ⟨hk.1.2, hk.2⟩⟩⟩)), (by (with_reducible repeat (first | apply Kd.R_alloc | apply Kd.R_drewN | apply Kd.R_drew)); exact Kd.R_mono HO202.out (fun _ hk => ⟨hk.1.1.1.2, ⟨hk.1.1.2, ⟨hk.1.2, hk.2⟩⟩⟩)), (by (with_reducible repeat (first | apply Kd.R_alloc | apply Kd.R_drewN | apply Kd.R_drew)); exact Kd.R_mono HO205.out (fun _ hk => ⟨hk.1.1.1.2, ⟨hk.1.1.2, ⟨hk.1.2, hk.2⟩⟩⟩)), (by (with_reducible repeat (first | refine blk_drewN ?_ _ | refine blk_drew ?_ | refine blk_alloc ?_ _)); exact BK189.out), (by (with_reducible repeat (first | refine blk_drewN ?_ _ | refine blk_drew ?_ | refine blk_alloc ?_ _)); exact BK207.out), GW207.out, GE207.out, NB189_207.out, NB207_189.out, (by repeat (first | (with_reducible first | exact HB.out | apply below_alloc | apply pw_below_drewN | apply below_drew1 | refine below_set ?_ GE189.out | refine below_set ?_ GE207.out) | exact HB.out))⟩)
              · skip
                refine box_step ?hg (N := 3) ?hd (cs := #[.int .i64 0, .int .i64 0, .slice none 0 0, .slice none 0 0]) (t := 25) ?hr ?_; (case hd => rfl); (case hg => rfl); (case hr => first | (go_simp; done) | (go_simp; rfl))
                intro gb207 hg w49 hbox hb
                have n0_ := Aside0.mk (Kd.R_below (by (with_reducible repeat (first | apply Kd.R_alloc | apply Kd.R_drewN | apply Kd.R_drew)); exact HO168.out) hb)
                have n1_ := Aside0.mk (Kd.R_below (by (with_reducible repeat (first | apply Kd.R_alloc | apply Kd.R_drewN | apply Kd.R_drew)); exact HO171.out) hb)
                have n2_ := Aside0.mk (Kd.R_below (by (with_reducible repeat (first | apply Kd.R_alloc | apply Kd.R_drewN | apply Kd.R_drew)); exact HO176.out) hb)
                have n3_ := Aside0.mk (Kd.R_below (by (with_reducible repeat (first | apply Kd.R_alloc | apply Kd.R_drewN | apply Kd.R_drew)); exact HO179.out) hb)
                have n4_ := Aside0.mk (Kd.R_below (by (with_reducible repeat (first | apply Kd.R_alloc | apply Kd.R_drewN | apply Kd.R_drew)); exact HO184.out) hb)
                have n5_ := Aside0.mk (Kd.R_below (by (with_reducible repeat (first | apply Kd.R_alloc | apply Kd.R_drewN | apply Kd.R_drew)); exact HO187.out) hb)
                have n6_ := Aside0.mk (Kd.R_below (by (with_reducible repeat (first | apply Kd.R_alloc | apply Kd.R_drewN | apply Kd.R_drew)); exact HO194.out) hb)
                have n7_ := Aside0.mk (Kd.R_below (by (with_reducible repeat (first | apply Kd.R_alloc | apply Kd.R_drewN | apply Kd.R_drew)); exact HO197.out) hb)
                have n8_ := Aside0.mk (blk_below (g := gb189) (o := .cells #[.int .i64 t180, .int .i64 t181, .slice Ao44 t182.length co44, .slice Ao45 t185.length co45] 25 (0, 0)) (by (with_reducible repeat (first | refine blk_drewN ?_ _ | refine blk_drew ?_ | refine blk_alloc ?_ _)); exact BK189.out) hb)
                have n9_ := Aside0.mk (below_step (by repeat (first | (with_reducible first | exact HB.out | apply below_alloc | apply pw_below_drewN | apply below_drew1 | refine below_set ?_ GE189.out) | exact HB.out)) hb)
                have n10_ := Aside0.mk (hbox)
                have n11_ := Aside0.mk ((by rw [hg]; exact (below_size (by repeat (first | (with_reducible first | exact HB.out | apply below_alloc | apply pw_below_drewN | apply below_drew1 | refine below_set ?_ GE189.out) | exact HB.out))) : w.heap.size ≤ gb207))
                have n12_ := Aside0.mk ((by rw [hg]; exact (below_size (by repeat (first | (with_reducible first | exact HB.out | apply below_alloc | apply pw_below_drewN | apply below_drew1 | refine below_set ?_ GE189.out) | exact HB.out))) : w.heap.size ≤ gb207))
                have n13_ := Aside0.mk ((by rw [hg]; exact Nat.ne_of_lt (blk_lt (g := gb189) (o := .cells #[.int .i64 t180, .int .i64 t181, .slice Ao44 t182.length co44, .slice Ao45 t185.length co45] 25 (0, 0)) (by (with_reducible repeat (first | refine blk_drewN ?_ _ | refine blk_drew ?_ | refine blk_alloc ?_ _)); exact BK189.out)) : gb189 ≠ gb207))
                have n14_ := Aside0.mk ((by rw [hg]; exact Nat.ne_of_gt (blk_lt (g := gb189) (o := .cells #[.int .i64 t180, .int .i64 t181, .slice Ao44 t182.length co44, .slice Ao45 t185.length co45] 25 (0, 0)) (by (with_reducible repeat (first | refine blk_drewN ?_ _ | refine blk_drew ?_ | refine blk_alloc ?_ _)); exact BK189.out)) : gb207 ≠ gb189))
                clear HO168
                clear HO171
                clear HO176
                clear HO179
                clear HO184
                clear HO187
                clear HO194
                clear HO197
                clear BK189
                clear HB
                have HO168 := n0_
                have HO171 := n1_
                have HO176 := n2_
                have HO179 := n3_
                have HO184 := n4_
                have HO187 := n5_
                have HO194 := n6_
                have HO197 := n7_
                have BK189 := n8_
                have HB := n9_
                have BK207 := n10_
                have GW207 := n11_
                have GE207 := n12_
                have NB189_207 := n13_
                have NB207_189 := n14_
                clear n0_ n1_ n2_ n3_ n4_ n5_ n6_ n7_ n8_ n9_ n10_ n11_ n12_ n13_ n14_
                clear hb hbox hg
                obtain ⟨Ao50, co50, eo50⟩ := Kd.R_slice HO194.out
                (first | subst eo50 | (injection eo50 with f1_ f2_ f3_; have f4_ := f1_.symm; have f5_ := f3_.symm; clear f1_ f2_ f3_; subst f4_; subst f5_))
                obtain ⟨Ao51, co51, eo51⟩ := Kd.R_slice HO197.out
                (first | subst eo51 | (injection eo51 with f1_ f2_ f3_; have f4_ := f1_.symm; have f5_ := f3_.symm; clear f1_ f2_ f3_; subst f4_; subst f5_))
                refine hK.out _ _ ⟨(blk_cell BK189.out 0).trans rfl, (blk_cell BK189.out 1).trans rfl, (blk_cell BK189.out 2).trans rfl, (blk_cell BK189.out 3).trans rfl⟩ (fun hHeld => ?_)
                clear hK K
                refine norm_ (a' := ?_) ?_ ?_
                rotate_left
                · show Act.put _ (some 3) _ = _
                  simp only [Act.put, List.setIfInBounds_toArray, List.set_cons_zero, List.set_cons_succ, i64_w, i32_w]
                  rfl
                refine one_ (i := 2) (N := some 14) #[true, true, true, false, false, false, true, false, false] rfl rfl (one_of HT_.out (by kernel_rfl)) (by decide) (fun K hK => ?_)
                refine goes_ Try.func7 (by kernel_rfl) rfl #[.agg #[.int .i64 t180, .int .i64 t181, .slice Ao44 t182.length co44, .slice Ao45 t185.length co45], .agg #[.int .i64 t190, .int .i64 t191, .slice Ao50 t192.length co50, .slice Ao51 t195.length co51]] (by rfl) rfl rfl (by (try simp only [List.map_toArray, List.map_cons, List.map_nil]); first | done | rfl | (simp only [List.length_drop, List.length_take]; rfl)) ?_
                with_reducible refine (watchpoint_Check.calls k t180 t181 _ _ t182 _ _ t185 t190 t191 _ _ t192 _ _ t195 t198 t199 t200 t203 true _ ?side1 ?side2 ?side3 ?side4 ?side5 ?side6 ?side7 ?side8 A5.out).mono ?_
                (case side1 => repeat (first | exact (Kd.R_reads' HO184.out).2.2 | (with_reducible refine Kd.C_alloc ?_ _) | (with_reducible refine Kd.C_drewN ?_ _) | (with_reducible refine Kd.C_drew ?_)))
                (case side2 => exact (Kd.R_reads' HO184.out).2.1)
                (case side3 => repeat (first | exact (Kd.R_reads' HO187.out).2.2 | (with_reducible refine Kd.C_alloc ?_ _) | (with_reducible refine Kd.C_drewN ?_ _) | (with_reducible refine Kd.C_drew ?_)))
                (case side4 => exact (Kd.R_reads' HO187.out).2.1)
                (case side5 => repeat (first | exact (Kd.R_reads' HO194.out).2.2 | (with_reducible refine Kd.C_alloc ?_ _) | (with_reducible refine Kd.C_drewN ?_ _) | (with_reducible refine Kd.C_drew ?_)))
                (case side6 => exact (Kd.R_reads' HO194.out).2.1)
                (case side7 => repeat (first | exact (Kd.R_reads' HO197.out).2.2 | (with_reducible refine Kd.C_alloc ?_ _) | (with_reducible refine Kd.C_drewN ?_ _) | (with_reducible refine Kd.C_drew ?_)))
                (case side8 => exact (Kd.R_reads' HO197.out).2.1)
                rintro e w52 ⟨v201, v204, rfl, ho0, ho1, hb⟩
                refine ⟨_, rfl, ?_⟩
                have n0_ := Aside0.mk (Kd.R_elder' (by (with_reducible repeat (first | apply Kd.R_alloc | apply Kd.R_drewN | apply Kd.R_drew)); exact HO168.out) (Kd.R_base ho0) hb)
                have n1_ := Aside0.mk (Kd.R_elder' (by (with_reducible repeat (first | apply Kd.R_alloc | apply Kd.R_drewN | apply Kd.R_drew)); exact HO171.out) (Kd.R_base ho1) hb)
                have n2_ := Aside0.mk (Kd.R_elder' (by (with_reducible repeat (first | apply Kd.R_alloc | apply Kd.R_drewN | apply Kd.R_drew)); exact HO176.out) (Kd.R_base ho0) hb)
                have n3_ := Aside0.mk (Kd.R_elder' (by (with_reducible repeat (first | apply Kd.R_alloc | apply Kd.R_drewN | apply Kd.R_drew)); exact HO179.out) (Kd.R_base ho1) hb)
                have n4_ := Aside0.mk (Kd.R_elder' (by (with_reducible repeat (first | apply Kd.R_alloc | apply Kd.R_drewN | apply Kd.R_drew)); exact HO184.out) (Kd.R_base ho0) hb)
                have n5_ := Aside0.mk (Kd.R_elder' (by (with_reducible repeat (first | apply Kd.R_alloc | apply Kd.R_drewN | apply Kd.R_drew)); exact HO187.out) (Kd.R_base ho1) hb)
                have n6_ := Aside0.mk (Kd.R_elder' (by (with_reducible repeat (first | apply Kd.R_alloc | apply Kd.R_drewN | apply Kd.R_drew)); exact HO194.out) (Kd.R_base ho0) hb)
                have n7_ := Aside0.mk (Kd.R_elder' (by (with_reducible repeat (first | apply Kd.R_alloc | apply Kd.R_drewN | apply Kd.R_drew)); exact HO197.out) (Kd.R_base ho1) hb)
                have n8_ := Aside0.mk (Kd.R_lower (Kd.R_new' (Kd.R_new' (Kd.R_new' (Kd.R_new' ho0 (Kd.R_lt (by (with_reducible repeat (first | apply Kd.R_alloc | apply Kd.R_drewN | apply Kd.R_drew)); exact HO168.out))) (Kd.R_lt (by (with_reducible repeat (first | apply Kd.R_alloc | apply Kd.R_drewN | apply Kd.R_drew)); exact HO176.out))) (Kd.R_lt (by (with_reducible repeat (first | apply Kd.R_alloc | apply Kd.R_drewN | apply Kd.R_drew)); exact HO184.out))) (Kd.R_lt (by (with_reducible repeat (first | apply Kd.R_alloc | apply Kd.R_drewN | apply Kd.R_drew)); exact HO194.out))) (below_size (by repeat (first | (with_reducible first | exact HB.out | apply below_alloc | apply pw_below_drewN | apply below_drew1 | refine below_set ?_ GE189.out | refine below_set ?_ GE207.out) | exact HB.out))))
                have n9_ := Aside0.mk (Kd.R_lower (Kd.R_new' (Kd.R_new' (Kd.R_new' (Kd.R_new' ho1 (Kd.R_lt (by (with_reducible repeat (first | apply Kd.R_alloc | apply Kd.R_drewN | apply Kd.R_drew)); exact HO171.out))) (Kd.R_lt (by (with_reducible repeat (first | apply Kd.R_alloc | apply Kd.R_drewN | apply Kd.R_drew)); exact HO179.out))) (Kd.R_lt (by (with_reducible repeat (first | apply Kd.R_alloc | apply Kd.R_drewN | apply Kd.R_drew)); exact HO187.out))) (Kd.R_lt (by (with_reducible repeat (first | apply Kd.R_alloc | apply Kd.R_drewN | apply Kd.R_drew)); exact HO197.out))) (below_size (by repeat (first | (with_reducible first | exact HB.out | apply below_alloc | apply pw_below_drewN | apply below_drew1 | refine below_set ?_ GE189.out | refine below_set ?_ GE207.out) | exact HB.out))))
                have n10_ := Aside0.mk (blk_below (g := gb189) (o := .cells #[.int .i64 t180, .int .i64 t181, .slice Ao44 t182.length co44, .slice Ao45 t185.length co45] 25 (0, 0)) (by (with_reducible repeat (first | refine blk_drewN ?_ _ | refine blk_drew ?_ | refine blk_alloc ?_ _)); exact BK189.out) hb)
                have n11_ := Aside0.mk (blk_below (g := gb207) (o := .cells #[.int .i64 0, .int .i64 0, .slice none 0 0, .slice none 0 0] 25 (0, 0)) (by (with_reducible repeat (first | refine blk_drewN ?_ _ | refine blk_drew ?_ | refine blk_alloc ?_ _)); exact BK207.out) hb)
                have n12_ := Aside0.mk (below_step (by repeat (first | (with_reducible first | exact HB.out | apply below_alloc | apply pw_below_drewN | apply below_drew1 | refine below_set ?_ GE189.out | refine below_set ?_ GE207.out) | exact HB.out)) hb)
                clear HO168
                clear HO171
                clear HO176
                clear HO179
                clear HO184
                clear HO187
                clear HO194
                clear HO197
                clear BK189
                clear BK207
                clear HB
                have HO168 := n0_
                have HO171 := n1_
                have HO176 := n2_
                have HO179 := n3_
                have HO184 := n4_
                have HO187 := n5_
                have HO194 := n6_
                have HO197 := n7_
                have HO202 := n8_
                have HO205 := n9_
                have BK189 := n10_
                have BK207 := n11_
                have HB := n12_
                clear n0_ n1_ n2_ n3_ n4_ n5_ n6_ n7_ n8_ n9_ n10_ n11_ n12_
                (try clear hb)
                (try clear hb2)
                (try clear hk)
                (try clear hi)
                (try clear ho0)
                (try clear ho1)
                refine hK.out _ _ ⟨(blk_cell BK189.out 0).trans rfl, (blk_cell BK189.out 1).trans rfl, (blk_cell BK189.out 2).trans rfl, (blk_cell BK189.out 3).trans rfl⟩ (fun hHeld => ?_)
                clear hK K
                refine norm_ (a' := ?_) ?_ ?_
                rotate_left
                · show Act.put _ (some 14) _ = _
                  simp only [Act.put, List.setIfInBounds_toArray, List.set_cons_zero, List.set_cons_succ, i64_w, i32_w]
                  rfl
                refine pure_ (i := 3) (N := some 11) (v := ?_) (a' := ?_) #[true, true, true, true, false, false, true, false, false] rfl rfl (any_of HT_.out (by kernel_rfl)) (fun _ _ _ h => h) (Or.inl ⟨by rfl, ?_⟩) ?_ ?_
                rotate_left
                · intro w'
                  go_simp
                  with_reducible rfl
                rotate_left
                · simp only [Act.put, List.setIfInBounds_toArray, List.set_cons_zero, List.set_cons_succ, i64_w, i32_w]
                  rfl
                refine pure_ (i := 4) (N := some 15) (v := ?_) (a' := ?_) #[true, true, true, true, true, false, true, false, false] rfl rfl (any_of HT_.out (by kernel_rfl)) (fun _ _ _ h => h) (Or.inl ⟨by rfl, ?_⟩) ?_ ?_
                rotate_left
                · intro w'
                  go_simp
                  with_reducible rfl
                rotate_left
                · simp only [Act.put, List.setIfInBounds_toArray, List.set_cons_zero, List.set_cons_succ, i64_w, i32_w]
                  rfl
                refine pure_ (i := 5) (N := some 16) (v := ?_) (a' := ?_) #[true, true, true, true, true, true, true, false, false] rfl rfl (any_of HT_.out (by kernel_rfl)) (fun _ _ _ h => h) (Or.inl ⟨by rfl, ?_⟩) ?_ ?_
                rotate_left
                · intro w'
                  go_simp
                  with_reducible rfl
                rotate_left
                · simp only [Act.put, List.setIfInBounds_toArray, List.set_cons_zero, List.set_cons_succ, i64_w, i32_w]
                  rfl
                exact norm_ (by simp only [putAll, Act.put, List.setIfInBounds_toArray, List.set_cons_zero, List.set_cons_succ]) (hCont (.slice Ao50 t192.length co50, .slice Ao51 t195.length co51, v201, v204, gb207) _ ⟨hHeld, (by (with_reducible repeat (first | apply Kd.R_alloc | apply Kd.R_drewN | apply Kd.R_drew)); exact Kd.R_mono HO168.out (fun _ hk => ⟨hk.1.1.1, ⟨hk.1.1.2, ⟨hk.1.2, hk.2⟩⟩⟩)), (by (with_reducible repeat (first | apply Kd.R_alloc | apply Kd.R_drewN | apply Kd.R_drew)); exact Kd.R_mono HO171.out (fun _ hk => ⟨hk.1.1.1, ⟨hk.1.1.2, ⟨hk.1.2, hk.2⟩⟩⟩)), (by (with_reducible repeat (first | apply Kd.R_alloc | apply Kd.R_drewN | apply Kd.R_drew)); exact Kd.R_mono HO176.out (fun _ hk => ⟨hk.1.1.1, ⟨hk.1.1.2, ⟨hk.1.2, hk.2⟩⟩⟩)), (by (with_reducible repeat (first | apply Kd.R_alloc | apply Kd.R_drewN | apply Kd.R_drew)); exact Kd.R_mono HO179.out (fun _ hk => ⟨hk.1.1.1, ⟨hk.1.1.2, ⟨hk.1.2, hk.2⟩⟩⟩)), (by (with_reducible repeat (first | apply Kd.R_alloc | apply Kd.R_drewN | apply Kd.R_drew)); exact Kd.R_mono HO184.out (fun _ hk => ⟨hk.1.1.1, ⟨hk.1.1.2, ⟨hk.1.2, hk.2⟩⟩⟩)), (by (with_reducible repeat (first | apply Kd.R_alloc | apply Kd.R_drewN | apply Kd.R_drew)); exact Kd.R_mono HO187.out (fun _ hk => ⟨hk.1.1.1, ⟨hk.1.1.2, ⟨hk.1.2, hk.2⟩⟩⟩)), (by (with_reducible repeat (first | apply Kd.R_alloc | apply Kd.R_drewN | apply Kd.R_drew)); exact Kd.R_mono HO194.out (fun _ hk => ⟨hk.1.1.1.2, ⟨hk.1.1.2, ⟨hk.1.2, hk.2⟩⟩⟩)), (by (with_reducible repeat (first | apply Kd.R_alloc | apply Kd.R_drewN | apply Kd.R_drew)); exact Kd.R_mono HO197.out (fun _ hk => ⟨hk.1.1.1.2, ⟨hk.1.1.2, ⟨hk.1.2, hk.2⟩⟩⟩)), (by (with_reducible repeat (first | apply Kd.R_alloc | apply Kd.R_drewN | apply Kd.R_drew)); exact Kd.R_mono HO202.out (fun _ hk => ⟨hk.1.1.1.2, ⟨hk.1.1.2, ⟨hk.1.2, hk.2⟩⟩⟩)), (by (with_reducible repeat (first | apply Kd.R_alloc | apply Kd.R_drewN | apply Kd.R_drew)); exact Kd.R_mono HO205.out (fun _ hk => ⟨hk.1.1.1.2, ⟨hk.1.1.2, ⟨hk.1.2, hk.2⟩⟩⟩)), (by (with_reducible repeat (first | refine blk_drewN ?_ _ | refine blk_drew ?_ | refine blk_alloc ?_ _)); exact BK189.out), (by (with_reducible repeat (first | refine blk_drewN ?_ _ | refine blk_drew ?_ | refine blk_alloc ?_ _)); exact BK207.out), GW207.out, GE207.out, NB189_207.out, NB207_189.out, (by repeat (first | (with_reducible first | exact HB.out | apply below_alloc | apply pw_below_drewN | apply below_drew1 | refine below_set ?_ GE189.out | refine below_set ?_ GE207.out) | exact HB.out))⟩)
            · skip
              refine box_step ?hg (N := 3) ?hd (cs := #[.int .i64 0, .int .i64 0, .slice none 0 0, .slice none 0 0]) (t := 25) ?hr ?_; (case hd => rfl); (case hg => rfl); (case hr => first | (go_simp; done) | (go_simp; rfl))
              intro gb207 hg w48 hbox hb
              have n0_ := Aside0.mk (Kd.R_below (by (with_reducible repeat (first | apply Kd.R_alloc | apply Kd.R_drewN | apply Kd.R_drew)); exact HO168.out) hb)
              have n1_ := Aside0.mk (Kd.R_below (by (with_reducible repeat (first | apply Kd.R_alloc | apply Kd.R_drewN | apply Kd.R_drew)); exact HO171.out) hb)
              have n2_ := Aside0.mk (Kd.R_below (by (with_reducible repeat (first | apply Kd.R_alloc | apply Kd.R_drewN | apply Kd.R_drew)); exact HO176.out) hb)
              have n3_ := Aside0.mk (Kd.R_below (by (with_reducible repeat (first | apply Kd.R_alloc | apply Kd.R_drewN | apply Kd.R_drew)); exact HO179.out) hb)
              have n4_ := Aside0.mk (Kd.R_below (by (with_reducible repeat (first | apply Kd.R_alloc | apply Kd.R_drewN | apply Kd.R_drew)); exact HO184.out) hb)
              have n5_ := Aside0.mk (Kd.R_below (by (with_reducible repeat (first | apply Kd.R_alloc | apply Kd.R_drewN | apply Kd.R_drew)); exact HO187.out) hb)
              have n6_ := Aside0.mk (blk_below (g := gb189) (o := .cells #[.int .i64 t180, .int .i64 t181, .slice Ao44 t182.length co44, .slice Ao45 t185.length co45] 25 (0, 0)) (by (with_reducible repeat (first | refine blk_drewN ?_ _ | refine blk_drew ?_ | refine blk_alloc ?_ _)); exact BK189.out) hb)
              have n7_ := Aside0.mk (below_step (by repeat (first | (with_reducible first | exact HB.out | apply below_alloc | apply pw_below_drewN | apply below_drew1 | refine below_set ?_ GE189.out) | exact HB.out)) hb)
              have n8_ := Aside0.mk (hbox)
              have n9_ := Aside0.mk ((by rw [hg]; exact (below_size (by repeat (first | (with_reducible first | exact HB.out | apply below_alloc | apply pw_below_drewN | apply below_drew1 | refine below_set ?_ GE189.out) | exact HB.out))) : w.heap.size ≤ gb207))
              have n10_ := Aside0.mk ((by rw [hg]; exact (below_size (by repeat (first | (with_reducible first | exact HB.out | apply below_alloc | apply pw_below_drewN | apply below_drew1 | refine below_set ?_ GE189.out) | exact HB.out))) : w.heap.size ≤ gb207))
              have n11_ := Aside0.mk ((by rw [hg]; exact Nat.ne_of_lt (blk_lt (g := gb189) (o := .cells #[.int .i64 t180, .int .i64 t181, .slice Ao44 t182.length co44, .slice Ao45 t185.length co45] 25 (0, 0)) (by (with_reducible repeat (first | refine blk_drewN ?_ _ | refine blk_drew ?_ | refine blk_alloc ?_ _)); exact BK189.out)) : gb189 ≠ gb207))
              have n12_ := Aside0.mk ((by rw [hg]; exact Nat.ne_of_gt (blk_lt (g := gb189) (o := .cells #[.int .i64 t180, .int .i64 t181, .slice Ao44 t182.length co44, .slice Ao45 t185.length co45] 25 (0, 0)) (by (with_reducible repeat (first | refine blk_drewN ?_ _ | refine blk_drew ?_ | refine blk_alloc ?_ _)); exact BK189.out)) : gb207 ≠ gb189))
              clear HO168
              clear HO171
              clear HO176
              clear HO179
              clear HO184
              clear HO187
              clear BK189
              clear HB
              have HO168 := n0_
              have HO171 := n1_
              have HO176 := n2_
              have HO179 := n3_
              have HO184 := n4_
              have HO187 := n5_
              have BK189 := n6_
              have HB := n7_
              have BK207 := n8_
              have GW207 := n9_
              have GE207 := n10_
              have NB189_207 := n11_
              have NB207_189 := n12_
              clear n0_ n1_ n2_ n3_ n4_ n5_ n6_ n7_ n8_ n9_ n10_ n11_ n12_
              clear hb hbox hg
              refine hK.out _ _ ⟨(blk_cell BK189.out 0).trans rfl, (blk_cell BK189.out 1).trans rfl, (blk_cell BK189.out 2).trans rfl, (blk_cell BK189.out 3).trans rfl⟩ (fun hHeld => ?_)
              clear hK K
              refine norm_ (a' := ?_) ?_ ?_
              rotate_left
              · show Act.put _ (some 3) _ = _
                simp only [Act.put, List.setIfInBounds_toArray, List.set_cons_zero, List.set_cons_succ, i64_w, i32_w]
                rfl
              refine one_ (i := 1) (N := some 13) #[true, true, false, false, false, false, true, false, false] rfl rfl (one_of HT_.out (by kernel_rfl)) (by decide) (fun K hK => ?_)
              refine goes_ Try.func5 (by kernel_rfl) rfl #[.int .i64 6, .bool true] (by rfl) rfl rfl (by (try simp only [List.map_toArray, List.map_cons, List.map_nil]); first | done | rfl | (simp only [List.length_drop, List.length_take]; rfl)) ?_
              with_reducible refine (debuggerlaw41_number.calls 6 true t190 t191 t192 t195 _ A4.out).mono ?_
              rintro e w49 ⟨v193, v196, rfl, ho0, ho1, hb⟩
              refine ⟨_, rfl, ?_⟩
              have n0_ := Aside0.mk (Kd.R_elder' (by (with_reducible repeat (first | apply Kd.R_alloc | apply Kd.R_drewN | apply Kd.R_drew)); exact HO168.out) (Kd.R_base ho0) hb)
              have n1_ := Aside0.mk (Kd.R_elder' (by (with_reducible repeat (first | apply Kd.R_alloc | apply Kd.R_drewN | apply Kd.R_drew)); exact HO171.out) (Kd.R_base ho1) hb)
              have n2_ := Aside0.mk (Kd.R_elder' (by (with_reducible repeat (first | apply Kd.R_alloc | apply Kd.R_drewN | apply Kd.R_drew)); exact HO176.out) (Kd.R_base ho0) hb)
              have n3_ := Aside0.mk (Kd.R_elder' (by (with_reducible repeat (first | apply Kd.R_alloc | apply Kd.R_drewN | apply Kd.R_drew)); exact HO179.out) (Kd.R_base ho1) hb)
              have n4_ := Aside0.mk (Kd.R_elder' (by (with_reducible repeat (first | apply Kd.R_alloc | apply Kd.R_drewN | apply Kd.R_drew)); exact HO184.out) (Kd.R_base ho0) hb)
              have n5_ := Aside0.mk (Kd.R_elder' (by (with_reducible repeat (first | apply Kd.R_alloc | apply Kd.R_drewN | apply Kd.R_drew)); exact HO187.out) (Kd.R_base ho1) hb)
              have n6_ := Aside0.mk (Kd.R_lower (Kd.R_new' (Kd.R_new' (Kd.R_new' ho0 (Kd.R_lt (by (with_reducible repeat (first | apply Kd.R_alloc | apply Kd.R_drewN | apply Kd.R_drew)); exact HO168.out))) (Kd.R_lt (by (with_reducible repeat (first | apply Kd.R_alloc | apply Kd.R_drewN | apply Kd.R_drew)); exact HO176.out))) (Kd.R_lt (by (with_reducible repeat (first | apply Kd.R_alloc | apply Kd.R_drewN | apply Kd.R_drew)); exact HO184.out))) (below_size (by repeat (first | (with_reducible first | exact HB.out | apply below_alloc | apply pw_below_drewN | apply below_drew1 | refine below_set ?_ GE189.out | refine below_set ?_ GE207.out) | exact HB.out))))
              have n7_ := Aside0.mk (Kd.R_lower (Kd.R_new' (Kd.R_new' (Kd.R_new' ho1 (Kd.R_lt (by (with_reducible repeat (first | apply Kd.R_alloc | apply Kd.R_drewN | apply Kd.R_drew)); exact HO171.out))) (Kd.R_lt (by (with_reducible repeat (first | apply Kd.R_alloc | apply Kd.R_drewN | apply Kd.R_drew)); exact HO179.out))) (Kd.R_lt (by (with_reducible repeat (first | apply Kd.R_alloc | apply Kd.R_drewN | apply Kd.R_drew)); exact HO187.out))) (below_size (by repeat (first | (with_reducible first | exact HB.out | apply below_alloc | apply pw_below_drewN | apply below_drew1 | refine below_set ?_ GE189.out | refine below_set ?_ GE207.out) | exact HB.out))))
              have n8_ := Aside0.mk (blk_below (g := gb189) (o := .cells #[.int .i64 t180, .int .i64 t181, .slice Ao44 t182.length co44, .slice Ao45 t185.length co45] 25 (0, 0)) (by (with_reducible repeat (first | refine blk_drewN ?_ _ | refine blk_drew ?_ | refine blk_alloc ?_ _)); exact BK189.out) hb)
              have n9_ := Aside0.mk (blk_below (g := gb207) (o := .cells #[.int .i64 0, .int .i64 0, .slice none 0 0, .slice none 0 0] 25 (0, 0)) (by (with_reducible repeat (first | refine blk_drewN ?_ _ | refine blk_drew ?_ | refine blk_alloc ?_ _)); exact BK207.out) hb)
              have n10_ := Aside0.mk (below_step (by repeat (first | (with_reducible first | exact HB.out | apply below_alloc | apply pw_below_drewN | apply below_drew1 | refine below_set ?_ GE189.out | refine below_set ?_ GE207.out) | exact HB.out)) hb)
              clear HO168
              clear HO171
              clear HO176
              clear HO179
              clear HO184
              clear HO187
              clear BK189
              clear BK207
              clear HB
              have HO168 := n0_
              have HO171 := n1_
              have HO176 := n2_
              have HO179 := n3_
              have HO184 := n4_
              have HO187 := n5_
              have HO194 := n6_
              have HO197 := n7_
              have BK189 := n8_
              have BK207 := n9_
              have HB := n10_
              clear n0_ n1_ n2_ n3_ n4_ n5_ n6_ n7_ n8_ n9_ n10_
              (try clear hb)
              (try clear hb2)
              (try clear hk)
              (try clear hi)
              (try clear ho0)
              (try clear ho1)
              obtain ⟨Ao50, co50, eo50⟩ := Kd.R_slice HO194.out
              (first | subst eo50 | (injection eo50 with f1_ f2_ f3_; have f4_ := f1_.symm; have f5_ := f3_.symm; clear f1_ f2_ f3_; subst f4_; subst f5_))
              obtain ⟨Ao51, co51, eo51⟩ := Kd.R_slice HO197.out
              (first | subst eo51 | (injection eo51 with f1_ f2_ f3_; have f4_ := f1_.symm; have f5_ := f3_.symm; clear f1_ f2_ f3_; subst f4_; subst f5_))
              refine hK.out _ _ ⟨(blk_cell BK189.out 0).trans rfl, (blk_cell BK189.out 1).trans rfl, (blk_cell BK189.out 2).trans rfl, (blk_cell BK189.out 3).trans rfl⟩ (fun hHeld => ?_)
              clear hK K
              refine norm_ (a' := ?_) ?_ ?_
              rotate_left
              · show Act.put _ (some 13) _ = _
                simp only [Act.put, List.setIfInBounds_toArray, List.set_cons_zero, List.set_cons_succ, i64_w, i32_w]
                rfl
              refine one_ (i := 2) (N := some 14) #[true, true, true, false, false, false, true, false, false] rfl rfl (one_of HT_.out (by kernel_rfl)) (by decide) (fun K hK => ?_)
              refine goes_ Try.func7 (by kernel_rfl) rfl #[.agg #[.int .i64 t180, .int .i64 t181, .slice Ao44 t182.length co44, .slice Ao45 t185.length co45], .agg #[.int .i64 t190, .int .i64 t191, .slice Ao50 t192.length co50, .slice Ao51 t195.length co51]] (by rfl) rfl rfl (by (try simp only [List.map_toArray, List.map_cons, List.map_nil]); first | done | rfl | (simp only [List.length_drop, List.length_take]; rfl)) ?_
              with_reducible refine (watchpoint_Check.calls k t180 t181 _ _ t182 _ _ t185 t190 t191 _ _ t192 _ _ t195 t198 t199 t200 t203 true _ ?side1 ?side2 ?side3 ?side4 ?side5 ?side6 ?side7 ?side8 A5.out).mono ?_
              (case side1 => repeat (first | exact (Kd.R_reads' HO184.out).2.2 | (with_reducible refine Kd.C_alloc ?_ _) | (with_reducible refine Kd.C_drewN ?_ _) | (with_reducible refine Kd.C_drew ?_)))
              (case side2 => exact (Kd.R_reads' HO184.out).2.1)
              (case side3 => repeat (first | exact (Kd.R_reads' HO187.out).2.2 | (with_reducible refine Kd.C_alloc ?_ _) | (with_reducible refine Kd.C_drewN ?_ _) | (with_reducible refine Kd.C_drew ?_)))
              (case side4 => exact (Kd.R_reads' HO187.out).2.1)
              (case side5 => repeat (first | exact (Kd.R_reads' HO194.out).2.2 | (with_reducible refine Kd.C_alloc ?_ _) | (with_reducible refine Kd.C_drewN ?_ _) | (with_reducible refine Kd.C_drew ?_)))
              (case side6 => exact (Kd.R_reads' HO194.out).2.1)
              (case side7 => repeat (first | exact (Kd.R_reads' HO197.out).2.2 | (with_reducible refine Kd.C_alloc ?_ _) | (with_reducible refine Kd.C_drewN ?_ _) | (with_reducible refine Kd.C_drew ?_)))
              (case side8 => exact (Kd.R_reads' HO197.out).2.1)
              rintro e w52 ⟨v201, v204, rfl, ho0, ho1, hb⟩
              refine ⟨_, rfl, ?_⟩
              have n0_ := Aside0.mk (Kd.R_elder' (by (with_reducible repeat (first | apply Kd.R_alloc | apply Kd.R_drewN | apply Kd.R_drew)); exact HO168.out) (Kd.R_base ho0) hb)
              have n1_ := Aside0.mk (Kd.R_elder' (by (with_reducible repeat (first | apply Kd.R_alloc | apply Kd.R_drewN | apply Kd.R_drew)); exact HO171.out) (Kd.R_base ho1) hb)
              have n2_ := Aside0.mk (Kd.R_elder' (by (with_reducible repeat (first | apply Kd.R_alloc | apply Kd.R_drewN | apply Kd.R_drew)); exact HO176.out) (Kd.R_base ho0) hb)
              have n3_ := Aside0.mk (Kd.R_elder' (by (with_reducible repeat (first | apply Kd.R_alloc | apply Kd.R_drewN | apply Kd.R_drew)); exact HO179.out) (Kd.R_base ho1) hb)
              have n4_ := Aside0.mk (Kd.R_elder' (by (with_reducible repeat (first | apply Kd.R_alloc | apply Kd.R_drewN | apply Kd.R_drew)); exact HO184.out) (Kd.R_base ho0) hb)
              have n5_ := Aside0.mk (Kd.R_elder' (by (with_reducible repeat (first | apply Kd.R_alloc | apply Kd.R_drewN | apply Kd.R_drew)); exact HO187.out) (Kd.R_base ho1) hb)
              have n6_ := Aside0.mk (Kd.R_elder' (by (with_reducible repeat (first | apply Kd.R_alloc | apply Kd.R_drewN | apply Kd.R_drew)); exact HO194.out) (Kd.R_base ho0) hb)
              have n7_ := Aside0.mk (Kd.R_elder' (by (with_reducible repeat (first | apply Kd.R_alloc | apply Kd.R_drewN | apply Kd.R_drew)); exact HO197.out) (Kd.R_base ho1) hb)
              have n8_ := Aside0.mk (Kd.R_lower (Kd.R_new' (Kd.R_new' (Kd.R_new' (Kd.R_new' ho0 (Kd.R_lt (by (with_reducible repeat (first | apply Kd.R_alloc | apply Kd.R_drewN | apply Kd.R_drew)); exact HO168.out))) (Kd.R_lt (by (with_reducible repeat (first | apply Kd.R_alloc | apply Kd.R_drewN | apply Kd.R_drew)); exact HO176.out))) (Kd.R_lt (by (with_reducible repeat (first | apply Kd.R_alloc | apply Kd.R_drewN | apply Kd.R_drew)); exact HO184.out))) (Kd.R_lt (by (with_reducible repeat (first | apply Kd.R_alloc | apply Kd.R_drewN | apply Kd.R_drew)); exact HO194.out))) (below_size (by repeat (first | (with_reducible first | exact HB.out | apply below_alloc | apply pw_below_drewN | apply below_drew1 | refine below_set ?_ GE189.out | refine below_set ?_ GE207.out) | exact HB.out))))
              have n9_ := Aside0.mk (Kd.R_lower (Kd.R_new' (Kd.R_new' (Kd.R_new' (Kd.R_new' ho1 (Kd.R_lt (by (with_reducible repeat (first | apply Kd.R_alloc | apply Kd.R_drewN | apply Kd.R_drew)); exact HO171.out))) (Kd.R_lt (by (with_reducible repeat (first | apply Kd.R_alloc | apply Kd.R_drewN | apply Kd.R_drew)); exact HO179.out))) (Kd.R_lt (by (with_reducible repeat (first | apply Kd.R_alloc | apply Kd.R_drewN | apply Kd.R_drew)); exact HO187.out))) (Kd.R_lt (by (with_reducible repeat (first | apply Kd.R_alloc | apply Kd.R_drewN | apply Kd.R_drew)); exact HO197.out))) (below_size (by repeat (first | (with_reducible first | exact HB.out | apply below_alloc | apply pw_below_drewN | apply below_drew1 | refine below_set ?_ GE189.out | refine below_set ?_ GE207.out) | exact HB.out))))
              have n10_ := Aside0.mk (blk_below (g := gb189) (o := .cells #[.int .i64 t180, .int .i64 t181, .slice Ao44 t182.length co44, .slice Ao45 t185.length co45] 25 (0, 0)) (by (with_reducible repeat (first | refine blk_drewN ?_ _ | refine blk_drew ?_ | refine blk_alloc ?_ _)); exact BK189.out) hb)
              have n11_ := Aside0.mk (blk_below (g := gb207) (o := .cells #[.int .i64 0, .int .i64 0, .slice none 0 0, .slice none 0 0] 25 (0, 0)) (by (with_reducible repeat (first | refine blk_drewN ?_ _ | refine blk_drew ?_ | refine blk_alloc ?_ _)); exact BK207.out) hb)
              have n12_ := Aside0.mk (below_step (by repeat (first | (with_reducible first | exact HB.out | apply below_alloc | apply pw_below_drewN | apply below_drew1 | refine below_set ?_ GE189.out | refine below_set ?_ GE207.out) | exact HB.out)) hb)
              clear HO168
              clear HO171
              clear HO176
              clear HO179
              clear HO184
              clear HO187
              clear HO194
              clear HO197
              clear BK189
              clear BK207
              clear HB
              have HO168 := n0_
              have HO171 := n1_
              have HO176 := n2_
              have HO179 := n3_
              have HO184 := n4_
              have HO187 := n5_
              have HO194 := n6_
              have HO197 := n7_
              have HO202 := n8_
              have HO205 := n9_
              have BK189 := n10_
              have BK207 := n11_
              have HB := n12_
              clear n0_ n1_ n2_ n3_ n4_ n5_ n6_ n7_ n8_ n9_ n10_ n11_ n12_
              (try clear hb)
              (try clear hb2)
              (try clear hk)
              (try clear hi)
              (try clear ho0)
              (try clear ho1)
              refine hK.out _ _ ⟨(blk_cell BK189.out 0).trans rfl, (blk_cell BK189.out 1).trans rfl, (blk_cell BK189.out 2).trans rfl, (blk_cell BK189.out 3).trans rfl⟩ (fun hHeld => ?_)
              clear hK K
              refine norm_ (a' := ?_) ?_ ?_
              rotate_left
              · show Act.put _ (some 14) _ = _
                simp only [Act.put, List.setIfInBounds_toArray, List.set_cons_zero, List.set_cons_succ, i64_w, i32_w]
                rfl
              refine pure_ (i := 3) (N := some 11) (v := ?_) (a' := ?_) #[true, true, true, true, false, false, true, false, false] rfl rfl (any_of HT_.out (by kernel_rfl)) (fun _ _ _ h => h) (Or.inl ⟨by rfl, ?_⟩) ?_ ?_
              rotate_left
              · intro w'
                go_simp
                with_reducible rfl
              rotate_left
              · simp only [Act.put, List.setIfInBounds_toArray, List.set_cons_zero, List.set_cons_succ, i64_w, i32_w]
                rfl
              refine pure_ (i := 4) (N := some 15) (v := ?_) (a' := ?_) #[true, true, true, true, true, false, true, false, false] rfl rfl (any_of HT_.out (by kernel_rfl)) (fun _ _ _ h => h) (Or.inl ⟨by rfl, ?_⟩) ?_ ?_
              rotate_left
              · intro w'
                go_simp
                with_reducible rfl
              rotate_left
              · simp only [Act.put, List.setIfInBounds_toArray, List.set_cons_zero, List.set_cons_succ, i64_w, i32_w]
                rfl
              refine pure_ (i := 5) (N := some 16) (v := ?_) (a' := ?_) #[true, true, true, true, true, true, true, false, false] rfl rfl (any_of HT_.out (by kernel_rfl)) (fun _ _ _ h => h) (Or.inl ⟨by rfl, ?_⟩) ?_ ?_
              rotate_left
              · intro w'
                go_simp
                with_reducible rfl
              rotate_left
              · simp only [Act.put, List.setIfInBounds_toArray, List.set_cons_zero, List.set_cons_succ, i64_w, i32_w]
                rfl
              exact norm_ (by simp only [putAll, Act.put, List.setIfInBounds_toArray, List.set_cons_zero, List.set_cons_succ]) (hCont (.slice Ao50 t192.length co50, .slice Ao51 t195.length co51, v201, v204, gb207) _ ⟨hHeld, (by (with_reducible repeat (first | apply Kd.R_alloc | apply Kd.R_drewN | apply Kd.R_drew)); exact Kd.R_mono HO168.out (fun _ hk => ⟨hk.1.1.1, ⟨hk.1.1.2, ⟨hk.1.2, hk.2⟩⟩⟩)), (by (with_reducible repeat (first | apply Kd.R_alloc | apply Kd.R_drewN | apply Kd.R_drew)); exact Kd.R_mono HO171.out (fun _ hk => ⟨hk.1.1.1, ⟨hk.1.1.2, ⟨hk.1.2, hk.2⟩⟩⟩)), (by (with_reducible repeat (first | apply Kd.R_alloc | apply Kd.R_drewN | apply Kd.R_drew)); exact Kd.R_mono HO176.out (fun _ hk => ⟨hk.1.1.1, ⟨hk.1.1.2, ⟨hk.1.2, hk.2⟩⟩⟩)), (by (with_reducible repeat (first | apply Kd.R_alloc | apply Kd.R_drewN | apply Kd.R_drew)); exact Kd.R_mono HO179.out (fun _ hk => ⟨hk.1.1.1, ⟨hk.1.1.2, ⟨hk.1.2, hk.2⟩⟩⟩)), (by (with_reducible repeat (first | apply Kd.R_alloc | apply Kd.R_drewN | apply Kd.R_drew)); exact Kd.R_mono HO184.out (fun _ hk => ⟨hk.1.1.1, ⟨hk.1.1.2, ⟨hk.1.2, hk.2⟩⟩⟩)), (by (with_reducible repeat (first | apply Kd.R_alloc | apply Kd.R_drewN | apply Kd.R_drew)); exact Kd.R_mono HO187.out (fun _ hk => ⟨hk.1.1.1, ⟨hk.1.1.2, ⟨hk.1.2, hk.2⟩⟩⟩)), (by (with_reducible repeat (first | apply Kd.R_alloc | apply Kd.R_drewN | apply Kd.R_drew)); exact Kd.R_mono HO194.out (fun _ hk => ⟨hk.1.1.1.2, ⟨hk.1.1.2, ⟨hk.1.2, hk.2⟩⟩⟩)), (by (with_reducible repeat (first | apply Kd.R_alloc | apply Kd.R_drewN | apply Kd.R_drew)); exact Kd.R_mono HO197.out (fun _ hk => ⟨hk.1.1.1.2, ⟨hk.1.1.2, ⟨hk.1.2, hk.2⟩⟩⟩)), (by (with_reducible repeat (first | apply Kd.R_alloc | apply Kd.R_drewN | apply Kd.R_drew)); exact Kd.R_mono HO202.out (fun _ hk => ⟨hk.1.1.1.2, ⟨hk.1.1.2, ⟨hk.1.2, hk.2⟩⟩⟩)), (by (with_reducible repeat (first | apply Kd.R_alloc | apply Kd.R_drewN | apply Kd.R_drew)); exact Kd.R_mono HO205.out (fun _ hk => ⟨hk.1.1.1.2, ⟨hk.1.1.2, ⟨hk.1.2, hk.2⟩⟩⟩)), (by (with_reducible repeat (first | refine blk_drewN ?_ _ | refine blk_drew ?_ | refine blk_alloc ?_ _)); exact BK189.out), (by (with_reducible repeat (first | refine blk_drewN ?_ _ | refine blk_drew ?_ | refine blk_alloc ?_ _)); exact BK207.out), GW207.out, GE207.out, NB189_207.out, NB207_189.out, (by repeat (first | (with_reducible first | exact HB.out | apply below_alloc | apply pw_below_drewN | apply below_drew1 | refine below_set ?_ GE189.out | refine below_set ?_ GE207.out) | exact HB.out))⟩)
          rintro ⟨v193, v196, v201, v204, gb207⟩ w53 ⟨hS_, h0_, h1_, h2_, h3_, h4_, h5_, h6_, h7_, h8_, h9_, h10_, h11_, h12_, h13_, h14_, h15_, h16_⟩
          have n0_ : Aside0 (Kd.R Kd.bool 4 w53 w.heap.size (fun k_ => some k_ ≠ (.slice Ao39 t174.length co39 : Value).ownBlock ∧ some k_ ≠ (.slice Ao44 t182.length co44 : Value).ownBlock ∧ some k_ ≠ (v193 : Value).ownBlock ∧ some k_ ≠ (v201 : Value).ownBlock) (.slice Ao37 t166.length co37) t166) := ⟨h0_⟩
          have n1_ : Aside0 (Kd.R (Kd.int .i64) 3 w53 w.heap.size (fun k_ => some k_ ≠ (.slice Ao40 t177.length co40 : Value).ownBlock ∧ some k_ ≠ (.slice Ao45 t185.length co45 : Value).ownBlock ∧ some k_ ≠ (v196 : Value).ownBlock ∧ some k_ ≠ (v204 : Value).ownBlock) (.slice Ao38 t169.length co38) t169) := ⟨h1_⟩
          have n2_ : Aside0 (Kd.R Kd.bool 4 w53 w.heap.size (fun k_ => some k_ ≠ (.slice Ao37 t166.length co37 : Value).ownBlock ∧ some k_ ≠ (.slice Ao44 t182.length co44 : Value).ownBlock ∧ some k_ ≠ (v193 : Value).ownBlock ∧ some k_ ≠ (v201 : Value).ownBlock) (.slice Ao39 t174.length co39) t174) := ⟨h2_⟩
          have n3_ : Aside0 (Kd.R (Kd.int .i64) 3 w53 w.heap.size (fun k_ => some k_ ≠ (.slice Ao38 t169.length co38 : Value).ownBlock ∧ some k_ ≠ (.slice Ao45 t185.length co45 : Value).ownBlock ∧ some k_ ≠ (v196 : Value).ownBlock ∧ some k_ ≠ (v204 : Value).ownBlock) (.slice Ao40 t177.length co40) t177) := ⟨h3_⟩
          have n4_ : Aside0 (Kd.R Kd.bool 4 w53 w.heap.size (fun k_ => some k_ ≠ (.slice Ao37 t166.length co37 : Value).ownBlock ∧ some k_ ≠ (.slice Ao39 t174.length co39 : Value).ownBlock ∧ some k_ ≠ (v193 : Value).ownBlock ∧ some k_ ≠ (v201 : Value).ownBlock) (.slice Ao44 t182.length co44) t182) := ⟨h4_⟩
          have n5_ : Aside0 (Kd.R (Kd.int .i64) 3 w53 w.heap.size (fun k_ => some k_ ≠ (.slice Ao38 t169.length co38 : Value).ownBlock ∧ some k_ ≠ (.slice Ao40 t177.length co40 : Value).ownBlock ∧ some k_ ≠ (v196 : Value).ownBlock ∧ some k_ ≠ (v204 : Value).ownBlock) (.slice Ao45 t185.length co45) t185) := ⟨h5_⟩
          have n6_ : Aside0 (Kd.R Kd.bool 4 w53 w.heap.size (fun k_ => some k_ ≠ (.slice Ao37 t166.length co37 : Value).ownBlock ∧ some k_ ≠ (.slice Ao39 t174.length co39 : Value).ownBlock ∧ some k_ ≠ (.slice Ao44 t182.length co44 : Value).ownBlock ∧ some k_ ≠ (v201 : Value).ownBlock) v193 t192) := ⟨h6_⟩
          have n7_ : Aside0 (Kd.R (Kd.int .i64) 3 w53 w.heap.size (fun k_ => some k_ ≠ (.slice Ao38 t169.length co38 : Value).ownBlock ∧ some k_ ≠ (.slice Ao40 t177.length co40 : Value).ownBlock ∧ some k_ ≠ (.slice Ao45 t185.length co45 : Value).ownBlock ∧ some k_ ≠ (v204 : Value).ownBlock) v196 t195) := ⟨h7_⟩
          have n8_ : Aside0 (Kd.R Kd.bool 4 w53 w.heap.size (fun k_ => some k_ ≠ (.slice Ao37 t166.length co37 : Value).ownBlock ∧ some k_ ≠ (.slice Ao39 t174.length co39 : Value).ownBlock ∧ some k_ ≠ (.slice Ao44 t182.length co44 : Value).ownBlock ∧ some k_ ≠ (v193 : Value).ownBlock) v201 t200) := ⟨h8_⟩
          have n9_ : Aside0 (Kd.R (Kd.int .i64) 3 w53 w.heap.size (fun k_ => some k_ ≠ (.slice Ao38 t169.length co38 : Value).ownBlock ∧ some k_ ≠ (.slice Ao40 t177.length co40 : Value).ownBlock ∧ some k_ ≠ (.slice Ao45 t185.length co45 : Value).ownBlock ∧ some k_ ≠ (v196 : Value).ownBlock) v204 t203) := ⟨h9_⟩
          have n10_ : Aside0 (w53.heap[gb189]? = some (.cells #[.int .i64 t180, .int .i64 t181, .slice Ao44 t182.length co44, .slice Ao45 t185.length co45] 25 (0, 0))) := ⟨h10_⟩
          have n11_ : Aside0 (w53.heap[gb207]? = some (.cells #[.int .i64 0, .int .i64 0, .slice none 0 0, .slice none 0 0] 25 (0, 0))) := ⟨h11_⟩
          have n12_ : Aside0 (w.heap.size ≤ gb207) := ⟨h12_⟩
          have n13_ : Aside0 (w.heap.size ≤ gb207) := ⟨h13_⟩
          have n14_ : Aside0 (gb189 ≠ gb207) := ⟨h14_⟩
          have n15_ : Aside0 (gb207 ≠ gb189) := ⟨h15_⟩
          have n16_ : Aside0 (Below w.heap.size w w53) := ⟨h16_⟩
          clear HO168
          clear HO171
          clear HO176
          clear HO179
          clear HO184
          clear HO187
          clear BK189
          clear HB
          clear h0_ h1_ h2_ h3_ h4_ h5_ h6_ h7_ h8_ h9_ h10_ h11_ h12_ h13_ h14_ h15_ h16_
          have HO168 := n0_
          have HO171 := n1_
          have HO176 := n2_
          have HO179 := n3_
          have HO184 := n4_
          have HO187 := n5_
          have HO194 := n6_
          have HO197 := n7_
          have HO202 := n8_
          have HO205 := n9_
          have BK189 := n10_
          have BK207 := n11_
          have GW207 := n12_
          have GE207 := n13_
          have NB189_207 := n14_
          have NB207_189 := n15_
          have HB := n16_
          clear n0_ n1_ n2_ n3_ n4_ n5_ n6_ n7_ n8_ n9_ n10_ n11_ n12_ n13_ n14_ n15_ n16_
          have hHeld : w53.cell? ⟨gb189, 0, none⟩ = some (.int .i64 t180) ∧ w53.cell? ⟨gb189, 1, none⟩ = some (.int .i64 t181) ∧ w53.cell? ⟨gb189, 2, none⟩ = some (.slice Ao44 t182.length co44) ∧ w53.cell? ⟨gb189, 3, none⟩ = some (.slice Ao45 t185.length co45) := hS_
          obtain ⟨Ao56, co56, eo56⟩ := Kd.R_slice HO202.out
          (first | subst eo56 | (injection eo56 with f1_ f2_ f3_; have f4_ := f1_.symm; have f5_ := f3_.symm; clear f1_ f2_ f3_; subst f4_; subst f5_))
          obtain ⟨Ao58, co58, eo58⟩ := Kd.R_slice HO205.out
          (first | subst eo58 | (injection eo58 with f1_ f2_ f3_; have f4_ := f1_.symm; have f5_ := f3_.symm; clear f1_ f2_ f3_; subst f4_; subst f5_))
          refine norm_ (a' := ?_) ?_ ?_
          rotate_left
          · simp only [putAll, Act.put, List.setIfInBounds_toArray, List.set_cons_zero, List.set_cons_succ]
            rfl
          refine one_ (i := 7) (N := none) #[true, true, true, true, true, true, true, true, false] rfl rfl (one_of HT_.out (by kernel_rfl)) (by decide) (fun K hK => ?_)
          have hs54 : w53.cell? ⟨gb207, 0, none⟩ = some (.int .i64 0) := (blk_cell BK207.out 0).trans rfl
          have hfs54 := blk_frozen BK207.out 0
          have hns54_0 := NB189_207.out
          have hms54_0 := NB207_189.out
          have hs55 : w53.cell? ⟨gb207, 1, none⟩ = some (.int .i64 0) := (blk_cell BK207.out 1).trans rfl
          have hfs55 := blk_frozen BK207.out 1
          have hns55_0 := NB189_207.out
          have hms55_0 := NB207_189.out
          have hs57 : w53.cell? ⟨gb207, 2, none⟩ = some (.slice none 0 0) := (blk_cell BK207.out 2).trans rfl
          have hfs57 := blk_frozen BK207.out 2
          have hns57_0 := NB189_207.out
          have hms57_0 := NB207_189.out
          have hs59 : w53.cell? ⟨gb207, 3, none⟩ = some (.slice none 0 0) := (blk_cell BK207.out 3).trans rfl
          have hfs59 := blk_frozen BK207.out 3
          have hns59_0 := NB189_207.out
          have hms59_0 := NB207_189.out
          refine skip_ (w1 := ?_) (by rfl) rfl ?_ ?_
          rotate_left
          · go_simp
            rfl
          refine hK.out _ _ ⟨((cell_far (p := ⟨gb207, _, none⟩) NB189_207.out _).trans (((cell_far (p := ⟨gb207, _, none⟩) NB189_207.out _).trans (((cell_far (p := ⟨gb207, _, none⟩) NB189_207.out _).trans (((cell_far (p := ⟨gb207, _, none⟩) NB189_207.out _).trans (hHeld.1)))))))), ((cell_far (p := ⟨gb207, _, none⟩) NB189_207.out _).trans (((cell_far (p := ⟨gb207, _, none⟩) NB189_207.out _).trans (((cell_far (p := ⟨gb207, _, none⟩) NB189_207.out _).trans (((cell_far (p := ⟨gb207, _, none⟩) NB189_207.out _).trans (hHeld.2.1)))))))), ((cell_far (p := ⟨gb207, _, none⟩) NB189_207.out _).trans (((cell_far (p := ⟨gb207, _, none⟩) NB189_207.out _).trans (((cell_far (p := ⟨gb207, _, none⟩) NB189_207.out _).trans (((cell_far (p := ⟨gb207, _, none⟩) NB189_207.out _).trans (hHeld.2.2.1)))))))), ((cell_far (p := ⟨gb207, _, none⟩) NB189_207.out _).trans (((cell_far (p := ⟨gb207, _, none⟩) NB189_207.out _).trans (((cell_far (p := ⟨gb207, _, none⟩) NB189_207.out _).trans (((cell_far (p := ⟨gb207, _, none⟩) NB189_207.out _).trans (hHeld.2.2.2))))))))⟩ (fun hHeld => ?_)
          clear hK K
          refine pure_ (i := 8) (N := some 4) (v := ?_) (a' := ?_) #[true, true, true, true, true, true, true, true, true] rfl rfl (any_of HT_.out (by kernel_rfl)) (fun _ _ _ h => h) (Or.inl ⟨by rfl, ?_⟩) ?_ ?_
          rotate_left
          · intro w'
            go_simp
            with_reducible rfl
          rotate_left
          · simp only [Act.put, List.setIfInBounds_toArray, List.set_cons_zero, List.set_cons_succ, i64_w, i32_w]
            rfl
          refine done_ (done_of HT_.out (by kernel_rfl)) ?_
          have hnb60 := NB189_207.out
          have hnc60 := NB207_189.out
          have hcz61_0 : w53.cell? ⟨gb189, 0, none⟩ = some (.int .i64 t180) := (blk_cell BK189.out 0).trans rfl
          have hcz61_1 : w53.cell? ⟨gb189, 1, none⟩ = some (.int .i64 t181) := (blk_cell BK189.out 1).trans rfl
          have hcz61_2 : w53.cell? ⟨gb189, 2, none⟩ = some (.slice Ao44 t182.length co44) := (blk_cell BK189.out 2).trans rfl
          have hcz61_3 : w53.cell? ⟨gb189, 3, none⟩ = some (.slice Ao45 t185.length co45) := (blk_cell BK189.out 3).trans rfl
          have hfz61_0 := blk_frozen BK189.out 0
          have hfz61_1 := blk_frozen BK189.out 1
          have hfz61_2 := blk_frozen BK189.out 2
          have hfz61_3 := blk_frozen BK189.out 3
          have p208 : 0 ≤ (0 : Int) := (by omega)
          have q208 : 0 < (t185.length : Int) := of_decide_eq_true (by first | (with_reducible assumption) | assumption)
          obtain ⟨ad208, e208, hx208_0⟩ := Kd.at_int (Kd.R_reads' HO187.out).2.2 0 p208 q208
          cases e208
          have qi208 : (0 < t185.length) = True := eq_true (by omega)
          (try rw [show ((0 : Int)).toNat = 0 from rfl] at hx208_0)
          (try rw [Addr.add_zero'] at hx208_0)
          have hn208_0 : ad208.block ≠ gb207 := Kd.own_blk (Kd.R_ne HO187.out BK207.out (by decide))
          have hn208_1 : ad208.block ≠ gb207 := Kd.own_blk (Kd.R_ne HO187.out BK207.out (by decide))
          have hn208_2 : ad208.block ≠ gb207 := Kd.own_blk (Kd.R_ne HO187.out BK207.out (by decide))
          have hn208_3 : ad208.block ≠ gb207 := Kd.own_blk (Kd.R_ne HO187.out BK207.out (by decide))
          replace hx208_0 := (cell_far (p := ⟨gb207, 0, none⟩) (by first | (rw [add_block]; exact hn208_0) | (show (Addr.add _ _).block ≠ _; rw [add_block]; exact hn208_0) | exact hn208_0) (.int .i64 t198)).trans hx208_0
          replace hx208_0 := (cell_far (p := ⟨gb207, 1, none⟩) (by first | (rw [add_block]; exact hn208_1) | (show (Addr.add _ _).block ≠ _; rw [add_block]; exact hn208_1) | exact hn208_1) (.int .i64 t199)).trans hx208_0
          replace hx208_0 := (cell_far (p := ⟨gb207, 2, none⟩) (by first | (rw [add_block]; exact hn208_2) | (show (Addr.add _ _).block ≠ _; rw [add_block]; exact hn208_2) | exact hn208_2) (.slice Ao56 t200.length co56)).trans hx208_0
          replace hx208_0 := (cell_far (p := ⟨gb207, 3, none⟩) (by first | (rw [add_block]; exact hn208_3) | (show (Addr.add _ _).block ≠ _; rw [add_block]; exact hn208_3) | exact hn208_3) (.slice Ao58 t203.length co58)).trans hx208_0
          clear hn208_0
          clear hn208_1
          clear hn208_2
          clear hn208_3
          replace p208 := eq_true p208
          replace q208 := eq_true q208
          try go_wp2
          go_ret
          exact ⟨by first | rfl | (simp [errW_none, errW_some] <;> rfl) | (simp [*, errW_none, errW_some] <;> rfl), by repeat (first | (with_reducible first | exact HB.out | apply below_alloc | apply pw_below_drewN | apply below_drew1 | refine below_set ?_ GE189.out | refine below_set ?_ GE207.out) | exact HB.out)⟩
        · rw [if_neg c34] at H
          exact absurd H (by simp)
      · exact absurd (by rw [E3.2.2.2.1]; rfl) c33
    · exact absurd E5.2.2.2.2 c32
end Go.Proofs.Ytgikmhpggfmcnaa.PWatchpointWords

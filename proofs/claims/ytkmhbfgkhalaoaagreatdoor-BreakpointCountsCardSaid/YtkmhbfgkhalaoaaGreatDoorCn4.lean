/- BreakpointCounts: the walk. -/
import Derived.Test.YtkmhbfgkhalaoaaGreatDoorCn3
import Derived.Test.YtkmhbfgkhalaoaaGreatDoorAwB
set_option linter.unusedVariables false
set_option linter.unusedSimpArgs false
namespace Go.Proofs.YtkmhbfgkhalaoaaGreatDoor.LM
open Go Go.RowKit

/-- A call whose answer is told by a contract that leaves the world. -/
theorem call_step {P : Program} {o : Oper} {k : FuncId} {args : Array Operand} {ts : Array TypeId} {a : Act} {w : World} {fn : Func} {R : Value → World → Prop} {next : Act → World → Prop} {Q : Exit → Act → World → Prop} (hop : o.op = .call ⟨.value (.func k), args, ts⟩) (hfn : P.funcs[k]? = some fn) (hb : fn.body.isSome = true) (hnum : (fn.name == "runtime.NumGoroutine") = false)
    (hc : Calls P k (args.map a.eval) w fun e w' => ∃ v, e = .returned v ∧ R v w') (hn : ∀ v w', R v w' → next (a.put o.dst v) w') : o.wpIn (FR none) 0 P a w next Q := by
  have hnone : fn.body.isNone = false := by cases h : fn.body with
    | none => rw [h] at hb; cases hb
    | some _ => rfl
  have hrun : (execOp a.eval o).run P w = .ok (.enter k (args.map a.eval)) w := by
    simp only [execOp, hop, resolve, Act.eval, Deferred.ofValue, invoke, callFunc, Sem.run_bind, Sem.run_pure, Result.andThen_ok, run_program, hfn, hnum, hnone]
    simp
  refine uponIn_step (fun c e => by rw [hop] at e; cases e) ?_
  rw [hrun, Oper.uponIn_enter]
  refine ⟨fun hh => absurd hh Bool.false_ne_true, callsIn_FR.2 (hc.mono ?_)⟩
  rintro e w' ⟨v, rfl, hR⟩
  exact hn v w' hR
/-- An operation that only computes. -/
theorem val_step {P : Program} {o : Oper} {a : Act} {w : World} {v : Value} {next : Act → World → Prop} {Q : Exit → Act → World → Prop} (hd : ∀ c, o.op ≠ .defer c) (hrun : (execOp a.eval o).run P w = .ok (.value v) w) (hn : next (a.put o.dst v) w) : o.wpIn (FR none) 0 P a w next Q := by
  refine uponIn_step hd ?_
  rw [hrun]
  exact hn

theorem wpOps_step {P : Program} {ops : Array Oper} {Q : Exit → Act → World → Prop} {i : Nat} {r : List Nat} {o : Oper} {a : Act} {w : World} (ho : ops[i]? = some o) (hg : o.guard = none) (h : o.wpIn (FR none) 0 P a w (wpOpsIn (FR none) 0 P ops Q r) Q) : wpOpsIn (FR none) 0 P ops Q (i :: r) a w := by
  simp only [wpOpsIn, ho]
  rw [if_pos (by unfold Region.wanted; rw [hg])]
  exact h
noncomputable def opsC (c : Code) : Array Oper := match c with | .region _ ops _ => ops | _ => #[]
noncomputable def c0 : Code := cL cnt
noncomputable def c1 : Code := cL (cR cnt)
noncomputable def c10 : Code := cL (cR (cR (cR (cR cnt))))
theorem cnt_eq : cnt = .seq c0 (.seq c1 (.seq cnt2 (.seq (.seq cnt3 (.block 0 (.loop (.seq cntTest cntBody)))) (.seq c10 .ret)))) := by kernel_rfl
theorem c1_eq : c1 = .region 1 (opsC c1) false := by kernel_rfl
theorem c10_eq : c10 = .region 10 (opsC c10) false := by kernel_rfl
theorem sz1 : (opsC c1).size = 6 := by kernel_rfl
theorem sz10 : (opsC c10).size = 2 := by kernel_rfl
noncomputable def face (o : Oper) : Option Tmp × Op × Option (Nat × Bool) := (o.dst, o.op, o.guard)
theorem face_of {ops : Array Oper} {i : Nat} {d : Option Tmp} {op : Op} (h : (ops[i]?).map face = some (d, op, none)) : ∃ o, ops[i]? = some o ∧ o.dst = d ∧ o.op = op ∧ o.guard = none := by
  cases ho : ops[i]? with
  | none => rw [ho] at h; cases h
  | some o =>
    rw [ho] at h
    have h' := Option.some.inj h
    unfold face at h'
    injection h' with h1 h2
    injection h2 with h2 h3
    exact ⟨o, rfl, h1, h2, h3⟩
theorem o10 : ((opsC c1)[0]?).map face = some (some 8, .move (.tmp 0), none) := by kernel_rfl
theorem o11 : ((opsC c1)[1]?).map face = some (some 9, .call ⟨.value (.func 12), #[.tmp 8, .const (.int .i64 20)], #[3, 3]⟩, none) := by kernel_rfl
theorem o12 : ((opsC c1)[2]?).map face = some (some 10, .move (.tmp 1), none) := by kernel_rfl
theorem o13 : ((opsC c1)[3]?).map face = some (some 11, .call ⟨.value (.func 12), #[.tmp 10, .const (.int .i64 30)], #[3, 3]⟩, none) := by kernel_rfl
theorem o14 : ((opsC c1)[4]?).map face = some (some 0, .assign (.tmp 9), none) := by kernel_rfl
theorem o15 : ((opsC c1)[5]?).map face = some (some 1, .assign (.tmp 11), none) := by kernel_rfl
theorem o100 : ((opsC c10)[0]?).map face = some (some 49, .call ⟨.value (.func 8), #[], #[]⟩, none) := by kernel_rfl
theorem o101 : ((opsC c10)[1]?).map face = some (some 4, .assign (.tmp 49), none) := by kernel_rfl
noncomputable def t0c : Code := cL cntTest
theorem test_eq : cntTest = .seq (.region 4 (opsC t0c) false) (.cond (.tmp 16) .skip (.exit 0)) := by kernel_rfl
theorem szT : (opsC t0c).size = 3 := by kernel_rfl
theorem oT0 : ((opsC t0c)[0]?).map face = some (some 14, .move (.tmp 6), none) := by kernel_rfl
theorem oT1 : ((opsC t0c)[1]?).map face = some (some 15, .move (.tmp 1), none) := by kernel_rfl
theorem oT2 : ((opsC t0c)[2]?).map face = some (some 16, .binOp .lss 3 (.tmp 14) (.tmp 15) 3, none) := by kernel_rfl

theorem put_get {a : Act} {d : Tmp} {v : Value} (h : d < a.tmps.size) : (a.put (some d) v).tmps[d]? = some v := put_at rfl h
theorem put_ne {a : Act} {d t : Tmp} {v : Value} (h : d ≠ t) : (a.put (some d) v).tmps[t]? = a.tmps[t]? := put_off (fun e => h (by cases e; rfl))
theorem eval_tmp {a : Act} {t : Tmp} {v : Value} (h : a.tmps[t]? = some v) : a.eval (.tmp t) = v := by
  simp only [Act.eval]
  rw [Array.getD_eq_getD_getElem?, h]
  rfl

noncomputable abbrev PT := Tryz.prog
theorem run_mv {o : Oper} {x : Operand} (h : o.op = .move x) (a : Act) (w : World) : (execOp a.eval o).run PT w = .ok (.value (a.eval x)) w := by simp [execOp, h]
theorem run_as {o : Oper} {x : Operand} (h : o.op = .assign x) (a : Act) (w : World) : (execOp a.eval o).run PT w = .ok (.value (a.eval x)) w := by simp [execOp, h]

/-- The two calls of Mod. -/
theorem head1 {a : Act} {w : World} {x y : Int} {Q : Exit → Act → World → Prop} (hs : a.tmps.size = 50) (h0 : a.tmps[0]? = some (.int .i64 x)) (h1 : a.tmps[1]? = some (.int .i64 y))
    (hq : ∀ (a' : Act) (I T : Nat), I < 20 → T < 30 → a'.tmps[0]? = some (vi I) → a'.tmps[1]? = some (vi T) → a'.tmps.size = 50 → a'.defers = a.defers → Q .normal a' w) : c1.wpIn (FR none) 0 PT Q a w := by
  rw [c1_eq]
  refine wpIn_region ?_
  rw [sz1]
  show wpOpsIn (FR none) 0 PT (opsC c1) Q [0, 1, 2, 3, 4, 5] a w
  obtain ⟨p0, q0, d0, e0, g0⟩ := face_of o10
  obtain ⟨p1, q1, d1, e1, g1⟩ := face_of o11
  obtain ⟨p2, q2, d2, e2, g2⟩ := face_of o12
  obtain ⟨p3, q3, d3, e3, g3⟩ := face_of o13
  obtain ⟨p4, q4, d4, e4, g4⟩ := face_of o14
  obtain ⟨p5, q5, d5, e5, g5⟩ := face_of o15
  -- 0
  refine wpOps_step q0 g0 (val_step (fun c e => by rw [e0] at e; cases e) (run_mv e0 a w) ?_)
  rw [d0, eval_tmp h0]
  generalize hA : a.put (some 8) (.int .i64 x) = A
  have s1 : A.tmps.size = 50 := by rw [← hA, put_size]; exact hs
  have A8 : A.tmps[8]? = some (.int .i64 x) := by rw [← hA]; exact put_get (by rw [hs]; decide)
  have A1 : A.tmps[1]? = some (.int .i64 y) := by rw [← hA, put_ne (by decide)]; exact h1
  have Ad : A.defers = a.defers := by rw [← hA, put_df]
  clear hA
  -- 1
  refine wpOps_step q1 g1 (call_step (R := fun v w' => ∃ k : Nat, k < 20 ∧ v = vi k ∧ w' = w) e1 Tryz.func12 rfl (by kernel_rfl) ?_ ?_)
  · have : (#[.tmp 8, .const (.int .i64 20)] : Array Operand).map A.eval = #[.int .i64 x, .int .i64 20] := by
      simp only [List.map_toArray, List.map_cons, List.map_nil]
      rw [eval_tmp A8]
      rfl
    rw [this]
    refine (modT x 20 (by decide) w).mono ?_
    rintro e w' ⟨k, hk, rfl, rfl⟩
    exact ⟨_, rfl, k, hk, rfl, rfl⟩
  rintro v w' ⟨I, hI, rfl, rfl⟩
  rw [d1]
  generalize hB : A.put (some 9) (vi I) = B
  have s2 : B.tmps.size = 50 := by rw [← hB, put_size]; exact s1
  have B9 : B.tmps[9]? = some (vi I) := by rw [← hB]; exact put_get (by rw [s1]; decide)
  have B1 : B.tmps[1]? = some (.int .i64 y) := by rw [← hB, put_ne (by decide)]; exact A1
  have Bd : B.defers = a.defers := by rw [← hB, put_df]; exact Ad
  clear hB
  -- 2
  refine wpOps_step q2 g2 (val_step (fun c e => by rw [e2] at e; cases e) (run_mv e2 B w') ?_)
  rw [d2, eval_tmp B1]
  generalize hC : B.put (some 10) (.int .i64 y) = C
  have s3 : C.tmps.size = 50 := by rw [← hC, put_size]; exact s2
  have C9 : C.tmps[9]? = some (vi I) := by rw [← hC, put_ne (by decide)]; exact B9
  have C10 : C.tmps[10]? = some (.int .i64 y) := by rw [← hC]; exact put_get (by rw [s2]; decide)
  have Cd : C.defers = a.defers := by rw [← hC, put_df]; exact Bd
  clear hC
  -- 3
  refine wpOps_step q3 g3 (call_step (R := fun v w'' => ∃ k : Nat, k < 30 ∧ v = vi k ∧ w'' = w') e3 Tryz.func12 rfl (by kernel_rfl) ?_ ?_)
  · have : (#[.tmp 10, .const (.int .i64 30)] : Array Operand).map C.eval = #[.int .i64 y, .int .i64 30] := by
      simp only [List.map_toArray, List.map_cons, List.map_nil]
      rw [eval_tmp C10]
      rfl
    rw [this]
    refine (modT y 30 (by decide) w').mono ?_
    rintro e w2 ⟨k, hk, rfl, rfl⟩
    exact ⟨_, rfl, k, hk, rfl, rfl⟩
  rintro v w2 ⟨T, hT, rfl, rfl⟩
  rw [d3]
  generalize hD : C.put (some 11) (vi T) = D
  have s4 : D.tmps.size = 50 := by rw [← hD, put_size]; exact s3
  have D9 : D.tmps[9]? = some (vi I) := by rw [← hD, put_ne (by decide)]; exact C9
  have D11 : D.tmps[11]? = some (vi T) := by rw [← hD]; exact put_get (by rw [s3]; decide)
  have Dd : D.defers = a.defers := by rw [← hD, put_df]; exact Cd
  clear hD
  -- 4
  refine wpOps_step q4 g4 (val_step (fun c e => by rw [e4] at e; cases e) (run_as e4 D w2) ?_)
  rw [d4, eval_tmp D9]
  generalize hE : D.put (some 0) (vi I) = E
  have s5 : E.tmps.size = 50 := by rw [← hE, put_size]; exact s4
  have E0 : E.tmps[0]? = some (vi I) := by rw [← hE]; exact put_get (by rw [s4]; decide)
  have E11 : E.tmps[11]? = some (vi T) := by rw [← hE, put_ne (by decide)]; exact D11
  have Ed : E.defers = a.defers := by rw [← hE, put_df]; exact Dd
  clear hE
  -- 5
  refine wpOps_step q5 g5 (val_step (fun c e => by rw [e5] at e; cases e) (run_as e5 E w2) ?_)
  rw [d5, eval_tmp E11]
  exact hq _ I T hI hT (by rw [put_ne (by decide)]; exact E0) (put_get (by rw [s5]; decide)) (by rw [put_size]; exact s5) (by rw [put_df]; exact Ed)

/-- The loop's test. -/
theorem test4 {fb : Nat} {μ : Mu} {base : Nat} {w : World} {a : Act} {I i : Nat} {T : Nat} {Q : Exit → Act → World → Prop} (g : Good [] fb μ base (HSt I i) w (tmS I i T) 50 a)
    (hy : i < T → ∀ a', Good [] fb μ base (HSt I i) w (tmS I i T) 50 a' → Q .normal a' w) (hn : ¬ i < T → ∀ a', Good [] fb μ base (HSt I i) w (tmS I i T) 50 a' → Q (.exit 0) a' w) : cntTest.wpIn (FR none) 0 PT Q a w := by
  have keep : ∀ (A : Act) (d : Nat) (v : Value), 13 < d → Good [] fb μ base (HSt I i) w (tmS I i T) 50 A → Good [] fb μ base (HSt I i) w (tmS I i T) 50 (A.put (some d) v) := by
    intro A d v hd G
    refine ⟨G.hw, G.hr, G.hb, fun t u hu => ?_, G.fr, by rw [put_size]; exact G.nt, by rw [put_df]; exact G.sd⟩
    obtain ⟨u', h1, h2⟩ := G.ht t u hu
    have : (t : Nat) < 13 := by rcases tmS_get I i T t u hu with ⟨rfl, _⟩ | ⟨rfl, _⟩ | ⟨rfl, _⟩ | ⟨rfl, _⟩ <;> decide
    exact ⟨u', by rw [put_ne (fun e => by have e : (d : Nat) = (t : Nat) := e; omega)]; exact h1, h2⟩
  have g1 : ∀ A, Good [] fb μ base (HSt I i) w (tmS I i T) 50 A → A.tmps[1]? = some (vi T) := by
    intro A G
    obtain ⟨u', h1, h2⟩ := G.ht 1 (vi T) (by unfold tmS; rw [Tr.get_set, if_neg (by decide), Tr.get_set, if_neg (by decide), Tr.get_set, if_pos rfl]; rfl)
    rw [int_inv h2] at h1
    exact h1
  have g6 : ∀ A, Good [] fb μ base (HSt I i) w (tmS I i T) 50 A → A.tmps[6]? = some (vi i) := by
    intro A G
    obtain ⟨u', h1, h2⟩ := G.ht 6 (vi i) (by unfold tmS; rw [Tr.get_set, if_pos rfl])
    rw [int_inv h2] at h1
    exact h1
  rw [test_eq]
  refine wpIn_seq (wpIn_region ?_)
  rw [szT]
  show wpOpsIn (FR none) 0 PT (opsC t0c) _ [0, 1, 2] a w
  obtain ⟨p0, q0, d0, e0, k0⟩ := face_of oT0
  obtain ⟨p1, q1, d1, e1, k1⟩ := face_of oT1
  obtain ⟨p2, q2, d2, e2, k2⟩ := face_of oT2
  refine wpOps_step q0 k0 (val_step (fun c e => by rw [e0] at e; cases e) (run_mv e0 a w) ?_)
  rw [d0, eval_tmp (g6 a g)]
  have gA := keep a 14 (vi i) (by decide) g
  have A14 : (a.put (some 14) (vi i)).tmps[14]? = some (vi i) := put_get (by rw [g.nt]; decide)
  generalize a.put (some 14) (vi i) = A at gA A14
  refine wpOps_step q1 k1 (val_step (fun c e => by rw [e1] at e; cases e) (run_mv e1 A w) ?_)
  rw [d1, eval_tmp (g1 A gA)]
  have gB := keep A 15 (vi T) (by decide) gA
  have B14 : (A.put (some 15) (vi T)).tmps[14]? = some (vi i) := by rw [put_ne (by decide)]; exact A14
  have B15 : (A.put (some 15) (vi T)).tmps[15]? = some (vi T) := put_get (by rw [gA.nt]; decide)
  generalize A.put (some 15) (vi T) = B at gB B14 B15
  have hrun : (execOp B.eval p2).run PT w = .ok (.value (.bool (decide (i < T)))) w := by
    have hbl : Nat.blt i T = decide (i < T) := by
      cases hb : Nat.blt i T
      · have : ¬ i < T := fun h => by rw [← Nat.blt_eq] at h; rw [h] at hb; cases hb
        simp [this]
      · rw [Nat.blt_eq] at hb; simp [hb]
    have hb : binA PT .lss 3 (vi i) (vi T) = some (.bool (decide (i < T))) := by
      rw [← hbl]
      show fBool (Nat.blt i T) (fun c => some (Value.bool c)) = _
      rw [fBool_eq]
    obtain ⟨h1, h2, h3⟩ := binA_run (μ := μ) w (.tmp 14) (.tmp 15) hb (.flat rfl) (.flat rfl)
    simp [execOp, e2, eval_tmp B14, eval_tmp B15, h1, h2]
  refine wpOps_step q2 k2 (val_step (fun c e => by rw [e2] at e; cases e) hrun ?_)
  rw [d2]
  have gC := keep B 16 (.bool (decide (i < T))) (by decide) gB
  have C16 : (B.put (some 16) (.bool (decide (i < T)))).tmps[16]? = some (.bool (decide (i < T))) := put_get (by rw [gB.nt]; decide)
  generalize B.put (some 16) (.bool (decide (i < T))) = C at gC C16
  show (Code.cond (.tmp 16) .skip (.exit 0)).wpIn (FR none) 0 PT Q C w
  by_cases h : i < T
  · exact wpIn_cond_true (by rw [eval_tmp C16]; simp [h]) (wpIn_skip (hy h C gC))
  · exact wpIn_cond_false (by rw [eval_tmp C16]; simp [h]) (wpIn_exit (hn h C gC))

end Go.Proofs.YtkmhbfgkhalaoaaGreatDoor.LM

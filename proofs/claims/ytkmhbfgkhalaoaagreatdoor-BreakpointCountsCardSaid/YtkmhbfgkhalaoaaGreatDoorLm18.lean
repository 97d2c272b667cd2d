/- Code: the evaluator's answers are the machine's. -/
import Derived.Test.YtkmhbfgkhalaoaaGreatDoorLm17
set_option linter.unusedVariables false
set_option linter.unusedSimpArgs false
set_option linter.unusedSectionVars false
namespace Go.Proofs.YtkmhbfgkhalaoaaGreatDoor.LM
open Go Go.RowKit

theorem Good.step {env : Env} {fb : Nat} {μ μ' : Mu} {base : Nat} {H H' : Heap} {w w' : World} {tm tm' : Tr Value} {nt : Nat} {a : Act} {d : Option Tmp} {v v' : Value} (g : Good env fb μ base H w tm nt a) (hv : VR μ' v v') (hw : HW H') (hr : HR μ' base H' w') (he : Ext μ H w μ' H' w') (hp : putT tm nt d v = some tm') :
    Good env fb μ' base H' w' tm' nt (a.put d v') := by
  obtain ⟨h1, h2, h3⟩ := put_TR hp (g.ht.mono (he.le (g.fr.free H'))) hv g.nt
  exact ⟨hw, hr, Nat.le_trans g.hb he.size, h1, g.fr.ext he, h2, by rw [h3]; exact g.sd.ext hw g.fr he⟩

theorem fn_inv {μ : Mu} {k : FuncId} {xs us : Array Value} {v : Value} (h : VR μ (.func (.func k) xs us) v) : ∃ ys vs : List Value, v = .func (.func k) ⟨ys⟩ ⟨vs⟩ ∧ LR μ xs.toList ys ∧ LR μ us.toList vs := by
  generalize hx : Value.func (.func k) xs us = x at h
  cases h with
  | flat h => subst hx; exact absurd h Bool.false_ne_true
  | fn h0 h1 h2 h3 h4 => cases hx; exact ⟨_, _, rfl, ⟨h1, h2⟩, ⟨h3, h4⟩⟩
  | _ => cases hx
theorem yl_inv {μ : Mu} {b : Nat} {v : Value} (h : VR μ (.func (.yield b) ⟨[]⟩ ⟨[]⟩) v) : ∃ l, v = .func (.yield l) #[] #[] ∧ μ b = some (l, 0, 0) := by
  generalize hx : Value.func (.yield b) ⟨[]⟩ ⟨[]⟩ = x at h
  cases h with
  | flat h => subst hx; exact absurd h Bool.false_ne_true
  | fn h0 h1 h2 h3 h4 => cases hx; exact absurd h0 Bool.false_ne_true
  | yl h => cases hx; exact ⟨_, rfl, h⟩
  | _ => cases hx

/-- The rounds of the loops around are as the evaluator says. -/
def YlOk (P : Program) (env : Env) (yl : Nat → List Value → Heap → Option (Value × Heap)) : Prop :=
  ∀ (b : Nat) (vs : List Value) (H : Heap) (v : Value) (H' : Heap), yl b vs H = some (v, H') → ∀ (l : Nat) (us : List Value) (w : World) (μ : Mu) (base : Nat), HW H → HR μ base H w → base ≤ w.heap.size → Fresh μ H → EnvOk env μ H w →
    μ b = some (l, 0, 0) → LR μ vs us → ∃ f tmps assign body, (Instr.yield l ⟨us⟩).run P w = .ok (.round l f tmps assign body) w ∧
      RoundIn (FR none) 0 P l f tmps assign body w (fun e w' => ∃ v' μ', e = .returned v' ∧ VR μ' v v' ∧ HW H' ∧ HR μ' base H' w' ∧ Ext μ H w μ' H' w')
/-- Functions that the model answers itself. -/
def NatOk (P : Program) (nat : FuncId → List Value → Option Value) : Prop :=
  ∀ (k : FuncId) (vs : List Value) (v : Value), nat k vs = some v → flats vs = true ∧ flat v = true ∧ ∀ w, (callFunc k ⟨vs⟩).run P w = .ok (.value v) w
theorem flatLR_eq {μ : Mu} : ∀ {xs ys : List Value}, LR μ xs ys → flats xs = true → ys = xs := by
  intro xs
  induction xs with
  | nil => intro ys h _; exact h.inv_nil
  | cons x r ih =>
    intro ys h hf
    obtain ⟨y, ys', rfl, hv, hr⟩ := h.inv_cons
    have hf' : (match flat x with | true => flats r | false => false) = true := hf
    split at hf'
    · rename_i hx
      rw [ih hr hf']
      congr 1
      cases hv with
      | flat _ => rfl
      | _ => first | rfl | exact absurd hx Bool.false_ne_true
    · cases hf'
structure CtxOk (P : Program) (env : Env) (cx : Ctx) : Prop where
  call : SoundC P env false cx.call
  yl : YlOk P env cx.yl
  nat : NatOk P cx.nat

theorem uponIn_step {rd : Option Nat} {P : Program} {o : Oper} {a : Act} {w : World} {next : Act → World → Prop} {Q : Exit → Act → World → Prop} (hd : ∀ c, o.op ≠ .defer c) (h : o.uponIn (FR rd) 0 P a next Q ((execOp a.eval o).run P w)) : o.wpIn (FR rd) 0 P a w next Q :=
  ⟨fun _ _ => trivial, by rw [Oper.semAt_eq _ _ _ hd]; exact h⟩

/-- One operation, without what holds of the temporaries behind it. -/
theorem opA_raw {P : Program} (hP : NoNum P) {env : Env} {rd : Option Nat} {ih : Ctx} (hs : CtxOk P env ih) {μ : Mu} {base : Nat} {H H' : Heap} {w : World} {tm : Tr Value} {a : Act} {o : Oper} {v : Value} (hw : HW H) (hr : HR μ base H w) (hb : base ≤ w.heap.size) (ht : TR μ tm a) (hf : Fresh μ H) (hen : EnvOk env μ H w)
    (h : opA P ih H tm o = some (v, H')) {next : Act → World → Prop} {Q : Exit → Act → World → Prop}
    (hn : ∀ v' w' μ', VR μ' v v' → HW H' → HR μ' base H' w' → Ext μ H w μ' H' w' → next (a.put o.dst v') w') : o.wpIn (FR rd) 0 P a w next Q := by
  have pure_ : (∀ c, o.op ≠ .defer c) → OpOk P o a w μ base H v H' → o.wpIn (FR rd) 0 P a w next Q := by
    rintro hd ⟨v', w', μ', hrun, h1, h2, h3, h4⟩
    refine uponIn_step hd ?_
    rcases hrun with hrun | ⟨hrun, rfl⟩
    · rw [hrun]; exact hn _ _ _ h1 h2 h3 h4
    · rw [hrun]; exact hn _ _ _ h1 h2 h3 h4
  unfold opA at h
  split at h
  · rename_i c hop
    have hd : ∀ c, o.op ≠ .defer c := fun c e => by rw [hop] at e; cases e
    unfold sCall at h
    split at h
    · rename_i f args ts
      split at h
      · rename_i k first captured vs hfv hvs
        have hR := ev_eq ht hfv
        have hL := evs_eq ht _ _ hvs
        obtain ⟨f1, c1, hef, hL1, hL2⟩ := fn_inv hR
        dsimp only at h
        split at h
        · rename_i u hu
          cases h
          obtain ⟨n1, n2, n3⟩ := hs.nat _ _ _ hu
          have hLL := flatLR_eq ((hL1.append hL).append hL2) n1
          have hargs : args.map a.eval = ⟨args.toList.map a.eval⟩ := by apply Array.ext'; simp
          have happ : (⟨f1⟩ : Array Value) ++ (⟨args.toList.map a.eval⟩ : Array Value) ++ (⟨c1⟩ : Array Value) = ⟨f1 ++ args.toList.map a.eval ++ c1⟩ := by apply Array.ext'; simp
          have hrun : (execOp a.eval o).run P w = .ok (.value v) w := by
            have := n3 w
            rw [← hLL] at this
            simp only [execOp, hop, resolve, hef, Deferred.ofValue, invoke, Sem.run_bind, Sem.run_pure, Result.andThen_ok, hargs, happ, this]
          exact pure_ hd (.pure hw hr hrun (.flat n2))
        obtain ⟨⟨fn, hfn, hbody⟩, hcalls⟩ := callA_run hs.call hw hr hb hf hen h ((hL1.append hL).append hL2)
        have hrun : (execOp a.eval o).run P w = .ok (.enter k ⟨f1 ++ args.toList.map a.eval ++ c1⟩) w := by
          have hargs : args.map a.eval = ⟨args.toList.map a.eval⟩ := by apply Array.ext'; simp
          have hnn := hP k fn hfn hbody
          have hnone : fn.body.isNone = false := by cases hb : fn.body with
            | none => rw [hb] at hbody; cases hbody
            | some _ => rfl
          have happ : (⟨f1⟩ : Array Value) ++ (⟨args.toList.map a.eval⟩ : Array Value) ++ (⟨c1⟩ : Array Value) = ⟨f1 ++ args.toList.map a.eval ++ c1⟩ := by apply Array.ext'; simp
          simp only [execOp, hop, resolve, hef, Deferred.ofValue, invoke, callFunc, Sem.run_bind, Sem.run_pure, Result.andThen_ok, run_program, hfn, hnn, hnone, hargs, happ]
          simp
        refine uponIn_step hd ?_
        rw [hrun, Oper.uponIn_enter]
        refine ⟨fun hh => absurd hh Bool.false_ne_true, callsIn_FR.2 (hcalls.mono ?_)⟩
        rintro e w' ⟨v', μ', rfl, h1, h2, h3, h4⟩
        exact hn _ _ _ h1 h2 h3 h4
      · rename_i b vs hfv hvs
        have hR := ev_eq ht hfv
        have hL := evs_eq ht _ _ hvs
        obtain ⟨l, hef, hm⟩ := yl_inv hR
        obtain ⟨f, tmps, assign, body, hrun0, hround⟩ := hs.yl b vs H v H' h l _ w μ base hw hr hb hf hen hm hL
        have hrun : (execOp a.eval o).run P w = .ok (.round l f tmps assign body) w := by
          have hargs : args.map a.eval = ⟨args.toList.map a.eval⟩ := by apply Array.ext'; simp
          simp only [execOp, hop, resolve, hef, Deferred.ofValue, invoke, Sem.run_bind, Sem.run_pure, Result.andThen_ok, hargs]
          simpa using hrun0
        refine uponIn_step hd ?_
        rw [hrun, Oper.uponIn_round]
        refine ⟨fun hh => absurd hh Bool.false_ne_true, RoundIn.mono (F := FR none) hround ?_⟩
        rintro e w' ⟨v', μ', rfl, h1, h2, h3, h4⟩
        exact hn _ _ _ h1 h2 h3 h4
      · cases h
    · rename_i b args ts
      split at h
      · rename_i vs hvs
        exact pure_ hd (sBuiltin_ok hw hr hb ht (hf.free H') hop hvs h)
      · cases h
    · cases h
  · refine pure_ (fun c e => ?_) (stepA_ok hw hr hb ht (hf.free H') h)
    rw [e] at h
    cases h

/-- One operation. -/
theorem opA_wp {P : Program} (hP : NoNum P) {env : Env} {fb : Nat} {rd : Option Nat} {ih : Ctx} (hs : CtxOk P env ih) {μ : Mu} {base : Nat} {H H' : Heap} {w : World} {tm tm' : Tr Value} {nt : Nat} {a : Act} {o : Oper} {v : Value} (g : Good env fb μ base H w tm nt a)
    (h : opA P ih H tm o = some (v, H')) (hp : putT tm nt o.dst v = some tm') {next : Act → World → Prop} {Q : Exit → Act → World → Prop}
    (hn : ∀ a' w' μ', Good env fb μ' base H' w' tm' nt a' → Ext μ H w μ' H' w' → next a' w') : o.wpIn (FR rd) 0 P a w next Q :=
  opA_raw hP hs g.hw g.hr g.hb g.ht g.fr g.sd.env h (fun v' w' μ' h1 h2 h3 h4 => hn _ _ _ (g.step h1 h2 h3 h4 hp) h4)

theorem opsA_wp {P : Program} (hP : NoNum P) {env : Env} {fb : Nat} {rd : Option Nat} {ih : Ctx} (hs : CtxOk P env ih) {ops : Array Oper} {nt : Nat} {base : Nat} : ∀ (l : List Oper) (k : Nat), ops.toList.drop k = l →
    ∀ (μ : Mu) (H H' : Heap) (w : World) (tm tm' : Tr Value) (a : Act), Good env fb μ base H w tm nt a → opsA P ih ops.toList nt l tm H = some (tm', H') → ∀ {Q : Exit → Act → World → Prop},
    (∀ a' w' μ', Good env fb μ' base H' w' tm' nt a' → Ext μ H w μ' H' w' → Q .normal a' w') → wpOpsIn (FR rd) 0 P ops Q (List.range' k l.length) a w := by
  intro l
  induction l with
  | nil =>
    intro k hk μ H H' w tm tm' a g h Q hq
    have h' : some (tm, H) = some (tm', H') := h
    cases h'
    exact hq a w μ g (Ext.refl _ _ _)
  | cons o r ihl =>
    intro k hk μ H H' w tm tm' a g h Q hq
    have ho : ops[k]? = some o := by
      have : (ops.toList.drop k)[0]? = some o := by rw [hk]; rfl
      rw [List.getElem?_drop] at this
      simpa using this
    have hr : ops.toList.drop (k + 1) = r := by rw [← List.drop_drop, hk]; rfl
    have h2 : (match wantedA ops.toList tm o with
      | some true => match opA P ih H tm o with
        | some (v, H1) => match putT tm nt o.dst v with
          | some tm1 => opsA P ih ops.toList nt r tm1 H1
          | none => none
        | none => none
      | some false => match putT tm nt o.dst undef with
        | some tm1 => opsA P ih ops.toList nt r tm1 H
        | none => none
      | none => none) = some (tm', H') := h
    clear h
    show wpOpsIn (FR rd) 0 P ops Q (k :: List.range' (k + 1) r.length) a w
    simp only [wpOpsIn, ho]
    split at h2
    · rename_i hwt
      rw [if_pos (wantedA_eq g.ht hwt)]
      split at h2
      · rename_i v H1 hop
        split at h2
        · rename_i tm1 hput
          refine opA_wp hP hs g hop hput (fun a' w' μ' g' e' => ?_)
          exact ihl (k + 1) hr μ' H1 H' w' tm1 tm' a' g' h2 (fun a2 w2 μ2 g2 e2 => hq a2 w2 μ2 g2 (e'.trans g'.hw e2))
        · cases h2
      · cases h2
    · rename_i hwf
      rw [if_neg (by rw [wantedA_eq g.ht hwf]; decide)]
      refine ⟨fun _ _ => trivial, ?_⟩
      split at h2
      · rename_i tm1 hput
        have hu : VR μ undef undef := .tup rfl (fun i x y hx => by simp at hx)
        have g' := g.step hu g.hw g.hr (Ext.refl _ _ _) hput
        exact ihl (k + 1) hr μ H H' w tm1 tm' _ g' h2 hq
      · cases h2
    · cases h2

/-- A region that draws its order is run as the machine runs it, in whatever order. -/
def DrwOk (P : Program) (drw : Drw) : Prop := ∀ (env : Env) (ih : Ctx), CtxOk P env ih → ∀ (rd : Option Nat) (id : Nat) (ops : Array Oper) (nt base fb : Nat) (μ : Mu) (H H' : Heap) (w : World) (tm tm' : Tr Value) (a : Act), Good env fb μ base H w tm nt a → drw ih ops.toList nt tm H = some (tm', H') →
  (Code.region id ops true).wpIn (FR rd) 0 P (Left env fb μ base H w .normal tm' nt H') a w

theorem roundsIn_mono {rd : Option Nat} {P : Program} {c : Code} {Q Q' : Exit → Act → World → Prop} (hq : ∀ e a w, Q e a w → Q' e a w) : ∀ (n : Nat) (a : Act) (w : World), Code.roundsIn (FR rd) 0 P c Q n a w → Code.roundsIn (FR rd) 0 P c Q' n a w := by
  intro n
  induction n with
  | zero => intro a w h; exact h
  | succ n ih =>
    intro a w h
    rw [roundsIn_succ] at h ⊢
    refine wpIn_mono h ?_
    intro e a' w' he
    cases e with
    | normal => exact ih a' w' he
    | exit i => exact hq _ _ _ he
    | goto l => exact hq _ _ _ he
    | ret => exact hq _ _ _ he
    | panic ch => exact hq _ _ _ he
    | outgrown => exact hq _ _ _ he

end Go.Proofs.YtkmhbfgkhalaoaaGreatDoor.LM

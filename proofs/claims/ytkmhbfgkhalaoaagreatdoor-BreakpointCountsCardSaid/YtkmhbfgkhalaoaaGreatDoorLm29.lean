/- Loops over functions; all code. -/
import Derived.Test.YtkmhbfgkhalaoaaGreatDoorLm28
import Derived.Scope
set_option linter.unusedVariables false
set_option linter.unusedSimpArgs false
set_option linter.unusedSectionVars false
namespace Go.Proofs.YtkmhbfgkhalaoaaGreatDoor.LM
open Go Go.RowKit

theorem findE_spec {b : Nat} : ∀ (env : Env) (e : LoopR), findE b env = some e → e ∈ env ∧ e.b = b := by
  intro env
  induction env with
  | nil => intro e h; cases h
  | cons x r ih =>
    intro e h
    have h' : (match Nat.beq x.b b with | true => some x | false => findE b r) = some e := h
    split at h'
    · rename_i hb
      cases h'
      exact ⟨by simp, Nat.eq_of_beq_eq_true hb⟩
    · obtain ⟨h1, h2⟩ := ih e h'
      exact ⟨List.mem_cons_of_mem _ h1, h2⟩
theorem dropE_spec {b : Nat} : ∀ (env : Env) (e : LoopR), e ∈ dropE b env → e ∈ env ∧ e.b ≠ b := by
  intro env
  induction env with
  | nil => intro e h; cases h
  | cons x r ih =>
    intro e h
    have h' : e ∈ (match Nat.beq x.b b with | true => dropE b r | false => x :: dropE b r) := h
    split at h'
    · obtain ⟨h1, h2⟩ := ih e h'
      exact ⟨List.mem_cons_of_mem _ h1, h2⟩
    · rename_i hb
      rcases List.mem_cons.1 h' with rfl | h'
      · exact ⟨by simp, Nat.ne_of_beq_eq_false hb⟩
      · obtain ⟨h1, h2⟩ := ih e h'
        exact ⟨List.mem_cons_of_mem _ h1, h2⟩
theorem EnvOk.sub {env env' : Env} {μ : Mu} {H : Heap} {w : World} (h : EnvOk env μ H w) (hs : ∀ e ∈ env', e ∈ env) : EnvOk env' μ H w :=
  ⟨fun e he => h.1 e (hs e he), fun e he e' he' => h.2 e (hs e he) e' (hs e' he')⟩

theorem stepR_scope {b : Frame} {a : Act} {k : List Item} {cs : List Frame} {w : World} {P : Program} {c : Code} : step P (lone (b.atR a (.code (.scope c) :: k)) cs w) = .next (lone (b.atR a (.code c :: .inScope c :: k)) cs w) :=
  step_lone_go (by simp [stepG, stepG.exec, Frame.atR])
theorem stepR_inScope {b : Frame} {a : Act} {k : List Item} {cs : List Frame} {w : World} {P : Program} {c : Code} : step P (lone (b.atR a (.inScope c :: k)) cs w) = .next (lone (b.atR a k) cs w) :=
  step_lone_go (by simp [stepG, stepG.exec, Frame.atR])
theorem wpIn_scope_straight {F : Fence} {n : Nat} {P : Program} {Q : Exit → Act → World → Prop} {a : Act} {w : World} {c : Code} (h : c.wpIn F n P (Exit.noGoto Q) a w) : (Code.scope c).wpIn F n P Q a w := by
  intro b k cs hro hb hr
  have h0 : (lone (b.atR a (.code (.scope c) :: k)) cs w).fenced P F := fenced_calm hb hr rfl
  obtain ⟨e, a₁, w₁, hq, harr⟩ := h b (.inScope c :: k) cs hro hb hr
  cases e with
  | normal => exact ⟨.normal, a₁, w₁, hq, .head h0 stepR_scope (StepsIn.trans harr (.one (fenced_calm hb hr rfl) stepR_inScope))⟩
  | exit id =>
    have hx : exitTo id (.inScope c :: k) = exitTo id k := by simp [exitTo]
    exact ⟨.exit id, a₁, w₁, hq, fun k' hk => .head h0 stepR_scope (harr.1 k' (by rw [hx]; exact hk)),
      fun hr' hk => let ⟨k₁, h1, h2⟩ := harr.2 hr' (by rw [hx]; exact hk); ⟨k₁, h1, .head h0 stepR_scope h2⟩⟩
  | goto l => exact hq.elim
  | ret => exact ⟨_, a₁, w₁, hq, .of_steps (.one h0 stepR_scope) harr⟩
  | panic ch => exact ⟨_, a₁, w₁, hq, .of_steps (.one h0 stepR_scope) harr⟩
  | outgrown => exact ⟨_, a₁, w₁, hq, .of_steps (.one h0 stepR_scope) harr⟩

theorem putP_run {μ : Mu} {nt : Nat} : ∀ (ps : List Tmp) (vs us : List Value) (tm tm' : Tr Value) (tmps : Array Value), putP nt ps vs tm = some tm' → LR μ vs us → TR μ tm { tmps := tmps, defers := [] } → tmps.size = nt →
    ps.length = us.length ∧ TR μ tm' { tmps := (ps.zip us).foldl (fun tmps (x : Tmp × Value) => tmps.setIfInBounds x.1 x.2) tmps, defers := [] } ∧ ((ps.zip us).foldl (fun tmps (x : Tmp × Value) => tmps.setIfInBounds x.1 x.2) tmps).size = nt := by
  intro ps
  induction ps with
  | nil =>
    intro vs us tm tm' tmps h hL ht hn
    cases vs with
    | nil => cases h; rw [hL.inv_nil]; exact ⟨rfl, ht, hn⟩
    | cons v r => cases h
  | cons p r ih =>
    intro vs us tm tm' tmps h hL ht hn
    cases vs with
    | nil => cases h
    | cons v vr =>
      obtain ⟨u, ur, rfl, hv, hr⟩ := hL.inv_cons
      have h' : (match putT tm nt (some p) v with
        | some tm' => putP nt r vr tm'
        | none => none) = some tm' := h
      split at h'
      · rename_i tm1 hput
        obtain ⟨h1, h2, _⟩ := put_TR hput ht hv hn
        have h2' : (tmps.setIfInBounds p u).size = nt := by simpa [Act.put] using h2
        obtain ⟨g1, g2, g3⟩ := ih vr ur tm1 tm' (tmps.setIfInBounds p u) h' hr (by simpa [Act.put] using h1) h2'
        exact ⟨by simp [g1], by simpa using g2, by simpa using g3⟩
      · cases h'

/-- A round. -/
theorem yieldA_ok {P : Program} {ih : Env → Bool → Eval} (hs : ∀ env inR, SoundC P env inR (ih env inR)) (env : Env) : YlOk P env (yieldA ih env) := by
  intro b vs H v H' h l us w μ base hw hr hb hf hen hm hL
  unfold yieldA at h
  split at h
  · rename_i b0 ps assign body tm nt hfind
    obtain ⟨hmem, hbb⟩ := findE_spec _ _ hfind
    dsimp only at hbb
    subst hbb
    obtain ⟨l0, r, hR⟩ := hen.1 _ hmem
    have hl0 : l0 = l := by have h1 := hR.m; dsimp only at h1; rw [hm] at h1; cases h1; rfl
    subst hl0
    obtain ⟨st0, pe0, fn0, tmps0, params0, as0, bd0, df0⟩ := r
    obtain rfl : st0 = .ready := hR.ready
    obtain rfl : pe0 = none := hR.pend
    obtain rfl : as0 = assign := hR.as
    obtain rfl : bd0 = body := hR.bd
    split at h
    · rename_i tm1 hput
      obtain ⟨q1, q2, q3⟩ := putP_run ps vs us tm tm1 tmps0 hput hL hR.tm hR.nt
      split at h
      · rename_i tm2 H2 hassign
        split at h
        · rename_i tm3 H3 hbody
          cases h
          have hps : params0.toList = ps := hR.ps
          have hpsz : params0.size = ps.length := by rw [← hps]; simp
          have hfold : (params0.zip (⟨us⟩ : Array Value)).foldl (fun tmps (t, a) => tmps.setIfInBounds t a) tmps0 = (ps.zip us).foldl (fun tmps (x : Tmp × Value) => tmps.setIfInBounds x.1 x.2) tmps0 := by
            rw [← Array.foldl_toList, Array.toList_zip, hps]
          refine ⟨fn0, (params0.zip (⟨us⟩ : Array Value)).foldl (fun tmps (t, a) => tmps.setIfInBounds t a) tmps0, as0, bd0, run_yield hR.rec_ (by simp [hpsz, q1]), ?_⟩
          rw [hfold]
          have hsub : ∀ e ∈ dropE b0 env, e ∈ env := fun e he => (dropE_spec _ _ he).1
          have hne : ∀ e ∈ dropE b0 env, ∀ l', μ e.b = some (l', 0, 0) → l' ≠ l0 := by
            intro e he l' hme e'
            subst e'
            obtain ⟨h1, h2⟩ := dropE_spec _ _ he
            exact h2 (hen.2 e h1 _ hmem _ hme hm)
          refine roundIn_of_wpIn (F := FR none) (n := 0) trivial ?_
          have hG : Good (dropE b0 env) w.heap.size μ base H w tm1 nt { tmps := (ps.zip us).foldl (fun tmps (x : Tmp × Value) => tmps.setIfInBounds x.1 x.2) tmps0, defers := [] } :=
            ⟨hw, hr, hb, q2, hf, q3, hen.sub hsub, ⟨[], rfl, List.nodup_nil, fun r hr => (by cases hr)⟩, Nat.le_refl _⟩
          have h1 := hs (dropE b0 env) true as0 tm1 nt H _ _ _ hassign (some l0) rfl _ w μ base w.heap.size hG
          refine wpIn_mono (F := FR (some l0)) h1 ?_
          rintro e a1 w1 ⟨rfl, μ1, g1, E1⟩
          have rec1 : w1.heap[l0]? = some (.loop ⟨.ready, none, fn0, tmps0, params0, as0, bd0, df0⟩) := by rw [E1.keep l0 hR.lt hR.nm]; exact hR.rec_
          have nm1 := hR.nm.ext g1.hw E1 hR.lt
          have lt1 : l0 < w1.heap.size := Nat.lt_of_lt_of_le hR.lt E1.size
          refine ⟨_, run_beginRound rec1 hR.ready, ?_⟩
          have hk2 : ∀ q, q ≠ l0 → (w1.putObj l0 (.loop ⟨.busy, none, fn0, tmps0, params0, as0, bd0, df0⟩)).heap[q]? = w1.heap[q]? := fun q hq => World.putObj_heap_other hq
          have hne1 : ∀ e ∈ dropE b0 env, μ1 e.b ≠ some (l0, 0, 0) := by
            intro e he hc
            obtain ⟨l', _, hRe⟩ := hen.1 e (hsub e he)
            rw [E1.mu _ (.inl hRe.b)] at hc
            exact hne e he l0 hc rfl
          have G2 : Good (dropE b0 env) w.heap.size μ1 base H2 (w1.putObj l0 (.loop ⟨.busy, none, fn0, tmps0, params0, as0, bd0, df0⟩)) tm2 nt a1 := by
            refine ⟨g1.hw, g1.hr.off nm1 World.putObj_size hk2, by rw [World.putObj_size]; exact g1.hb, g1.ht, g1.fr, g1.nt, g1.sd.env.off World.putObj_size hk2 hne1, ?_, by rw [World.putObj_size]; exact g1.sd.fb⟩
            obtain ⟨rs, m1, m2, m3⟩ := g1.sd.marks
            refine ⟨rs, m1, m2, fun q hq => ?_⟩
            obtain ⟨k1, k2, k3, k4⟩ := m3 q hq
            exact ⟨k1, by rw [World.putObj_size]; exact k2, k3, by rw [hk2 q (fun e => by rw [e, rec1] at k4; cases k4)]; exact k4⟩
          have h2 := hs (dropE b0 env) true bd0 tm2 nt H2 _ _ _ hbody (some l0) rfl a1 _ μ1 base w.heap.size G2
          refine wpIn_mono (F := FR (some l0)) h2 ?_
          rintro e a3 w3 ⟨rfl, μ3, g3, E3⟩
          have rec2 : (w1.putObj l0 (.loop ⟨.busy, none, fn0, tmps0, params0, as0, bd0, df0⟩)).heap[l0]? = some (.loop ⟨.busy, none, fn0, tmps0, params0, as0, bd0, df0⟩) := World.putObj_heap_same lt1
          have rec3 : w3.heap[l0]? = some (.loop ⟨.busy, none, fn0, tmps0, params0, as0, bd0, df0⟩) := by
            rw [E3.keep l0 (by rw [World.putObj_size]; exact lt1) nm1]; exact rec2
          have lt3 : l0 < w3.heap.size := Nat.lt_of_lt_of_le (by rw [World.putObj_size]; exact lt1) E3.size
          have nm3 := nm1.ext g3.hw E3 (by rw [World.putObj_size]; exact lt1)
          show ∃ v w', (Instr.endRound l0 none).run P w3 = .ok v w' ∧ _
          refine ⟨_, _, run_endRound none rec3, ?_⟩
          show ∃ v' μ', _
          have hk4 : ∀ q, q ≠ l0 → (w3.putObj l0 (.loop ⟨.ready, none, fn0, tmps0, params0, as0, bd0, df0⟩)).heap[q]? = w3.heap[q]? := fun q hq => World.putObj_heap_other hq
          refine ⟨.bool true, μ3, rfl, .flat rfl, g3.hw, g3.hr.off nm3 World.putObj_size hk4, ?_⟩
          have E13 : Ext μ1 H2 w1 μ3 H' (w3.putObj l0 (.loop ⟨.ready, none, fn0, tmps0, params0, as0, bd0, df0⟩)) := by
            refine ⟨E3.next, E3.mu, E3.back, E3.unm, fun q hq hno => ?_, fun b r d lim x1 x2 x3 => ?_, ?_, E3.os, E3.tape, E3.output⟩
            · by_cases e : q = l0
              · subst e; rw [World.putObj_heap_same lt3]; exact rec1.symm
              · rw [hk4 q e, E3.keep q (by rw [World.putObj_size]; exact hq) hno, hk2 q e]
            · have := E3.fresh b r d lim x1 x2 x3
              rwa [World.putObj_size] at this
            · have := E3.size
              rw [World.putObj_size] at this ⊢
              exact this
          exact E1.trans g1.hw E13
        · cases h
      · cases h
    · cases h
  · cases h

/-- A loop over a function. -/
theorem rangeA_ok {P : Program} (hP : NoNum P) {ih : Env → Bool → Eval} (hs : ∀ env inR, SoundC P env inR (ih env inR)) {env : Env} {fb : Nat} {μ : Mu} {base : Nat} {H H' : Heap} {w : World} {tm tm' : Tr Value} {nt : Nat} {a : Act} {g : Operand} {ps : Array Tmp} {assign body : Code} {r : Ex}
    (G : Good env fb μ base H w tm nt a) (h : rangeA P ih env g ps assign body tm nt H = some (r, tm', H')) : (Code.rangeFunc g ps assign body).wpIn (FR none) 0 P (Left env fb μ base H w r tm' nt H') a w := by
  obtain ⟨nx, bl⟩ := H
  unfold rangeA at h
  dsimp only at h
  split at h
  · rename_i k first captured hg
    split at h
    · rename_i v0 H2 hcall
      cases h
      obtain ⟨f1, c1, hef, hL1, hL2⟩ := fn_inv (ev_eq G.ht hg)
      refine wpIn_rangeFunc (F := FR none) (fun fn _ => ?_)
      -- the record
      let rec0 : Loop := { state := .ready, pending := none, fn := fn, tmps := a.tmps, params := ps, assign := assign, body := body, defers := w.heap.size }
      let w1 : World := (w.alloc (.deferred (some []))).alloc (.loop rec0)
      have hs1 : w1.heap.size = w.heap.size + 2 := by show ((w.alloc _).alloc _).heap.size = _; simp
      have hold : ∀ q, q < w.heap.size → w1.heap[q]? = w.heap[q]? := fun q hq => (heap_alloc_old _ _ q (by simp; omega)).trans (heap_alloc_old w _ q hq)
      have hat1 : w1.heap[w.heap.size + 1]? = some (.loop rec0) := by
        have := World.alloc_heap_new (w.alloc (.deferred (some []))) (.loop rec0)
        rwa [World.size_alloc] at this
      have hat0 : w1.heap[w.heap.size]? = some (.deferred (some [])) := (heap_alloc_old _ _ _ (by simp)).trans (World.alloc_heap_new w _)
      let l : Nat := w.heap.size + 1
      let μ1 : Mu := upd μ nx (l, 0, 0)
      let H1 : Heap := ⟨nx + 1, bl⟩
      have hnx : μ nx = none := G.fr nx (Nat.le_refl _)
      have hup : ∀ b x, μ b = some x → μ1 b = some x := by
        intro b x hx; show upd μ nx _ b = _; unfold upd; rw [if_neg (fun e => by rw [e, hnx] at hx; cases hx)]; exact hx
      have hmo : ∀ b, b ≠ nx → μ1 b = μ b := fun b hb => by show upd μ nx _ b = _; unfold upd; rw [if_neg hb]
      have hmn : μ1 nx = some (l, 0, 0) := by show upd μ nx _ nx = _; unfold upd; rw [if_pos rfl]
      have hdom : ∀ b B, bl.get b = some B → b ≠ nx := fun b B hb e => by have := G.hw.dom b B hb; dsimp only at this; omega
      have hw1 : HW H1 := ⟨fun b B hb => Nat.lt_succ_of_lt (G.hw.dom b B hb), fun b B hb => Nat.lt_succ_of_lt (G.hw.chlt b B hb), G.hw.anc, G.hw.uniq, fun b B x hb hx => Nat.lt_succ_of_lt (G.hw.ancdom b B x hb hx), G.hw.ancs⟩
      have hr1 : HR μ1 base H1 w1 := by
        have hc : ∀ q i, q < w.heap.size → w1.cell? ⟨q, i, none⟩ = w.cell? ⟨q, i, none⟩ := fun q i hq => by simp [World.cell?, hold q hq]
        have hfz : ∀ q i, q < w.heap.size → w1.fro ⟨q, i, none⟩ = w.fro ⟨q, i, none⟩ := fun q i hq => by simp [World.fro, hold q hq]
        have hr := G.hr
        refine ⟨fun b B q d lim hb hm => ?_, fun b B q d lim i hb hm hi => ?_, fun b B q d lim b' B' d' lim' hb hm hb' hm' => ?_, fun b B q d lim hb hm x hx => ?_, fun b B x X q d lim d' lim' hb hst hx hX hp hm hm' => ?_⟩
        · rw [hmo b (hdom b B hb)] at hm
          obtain ⟨g1, g2, g3, g4⟩ := hr.live b B q d lim hb hm
          exact ⟨g1, by omega, g3, fun i hi => by rw [hc q i g2, hfz q i g2]; exact g4 i hi⟩
        · rw [hmo b (hdom b B hb)] at hm
          obtain ⟨g1, v, g2, g3⟩ := hr.cell b B q d lim i hb hm hi
          exact ⟨g1, v, by rw [hc q _ (hr.live b B q d lim hb hm).2.1]; exact g2, g3.mono hup⟩
        · rw [hmo b (hdom b B hb)] at hm
          rw [hmo b' (hdom b' B' hb')] at hm'
          exact hr.chain b B q d lim b' B' d' lim' hb hm hb' hm'
        · rw [hmo b (hdom b B hb)] at hm
          obtain ⟨y, hy⟩ := hr.ancm b B q d lim hb hm x hx
          exact ⟨y, hup x y hy⟩
        · rw [hmo b (hdom b B hb)] at hm
          rw [hmo x (hdom x X hX)] at hm'
          exact hr.below b B x X q d lim d' lim' hb hst hx hX hp hm hm'
      have hf1 : Fresh μ1 H1 := fun b hb => by
        have hb' : nx + 1 ≤ b := hb
        rw [hmo b (by omega)]; exact G.fr b (by show nx ≤ b; omega)
      have E1 : Ext μ ⟨nx, bl⟩ w μ1 H1 w1 := by
        refine ⟨Nat.le_succ _, fun b hb => hmo b ?_, fun b B' _ h => ⟨B', h⟩, fun _ _ _ => rfl, fun q hq _ => hold q hq, fun b q d lim h1 h2 hm => ?_, by omega, rfl, rfl, rfl⟩
        · rcases hb with hb | hb
          · exact Nat.ne_of_lt hb
          · have : nx + 1 ≤ b := hb
            omega
        · have e : b = nx := by
            have h1' : nx ≤ b := h1
            have h2' : b < nx + 1 := h2
            omega
          rw [e, hmn] at hm
          cases hm
          exact .inl (Nat.le_succ _)
      have hnm : ∀ q, w.heap.size ≤ q → NoMap μ1 H1 q := by
        intro q hq b B d lim hb hm
        rw [hmo b (hdom b B hb)] at hm
        have := (G.hr.live b B q d lim hb hm).2.1
        omega
      have hen1 : EnvOk (⟨nx, ps.toList, assign, body, tm, nt⟩ :: env) μ1 H1 w1 := by
        have h0 := G.sd.env.ext hw1 G.fr E1
        refine ⟨fun e he => ?_, fun e he e' he' l' h1 h2 => ?_⟩
        · rcases List.mem_cons.1 he with rfl | he
          · exact ⟨l, rec0, Nat.lt_succ_self _, hmn, by rw [hs1]; omega, hnm l (Nat.le_succ _), hat1, rfl, rfl, rfl, rfl, rfl, G.ht.mono hup, G.nt⟩
          · exact h0.1 e he
        · have hlt : ∀ e ∈ env, ∀ l', μ1 e.b = some (l', 0, 0) → l' ≠ l := by
            intro e he l' hm
            obtain ⟨l2, r2, hR⟩ := G.sd.env.1 e he
            have := hR.lt
            rw [hup _ _ hR.m] at hm
            cases hm
            show _ ≠ w.heap.size + 1
            omega
          rcases List.mem_cons.1 he with rfl | he <;> rcases List.mem_cons.1 he' with rfl | he'
          · rfl
          · dsimp only at h1
            rw [hmn] at h1
            cases h1
            exact absurd rfl (hlt e' he' _ h2)
          · dsimp only at h2
            rw [hmn] at h2
            cases h2
            exact absurd rfl (hlt e (by assumption) _ h1)
          · exact h0.2 e (by assumption) e' he' l' h1 h2
      have hLy : LR μ1 (first.toList ++ [.func (.yield nx) ⟨[]⟩ ⟨[]⟩] ++ captured.toList) (f1 ++ [.func (.yield l) ⟨[]⟩ ⟨[]⟩] ++ c1) :=
        ((hL1.mono hup).append (LR.nil.cons (.yl hmn))).append (hL2.mono hup)
      have hb1 : base ≤ w1.heap.size := by have := G.hb; omega
      obtain ⟨⟨fn', hfn', hbody'⟩, hcalls⟩ := callA_run (hs (⟨nx, ps.toList, assign, body, tm, nt⟩ :: env) false) hw1 hr1 hb1 hf1 hen1 hcall hLy
      have hnn := hP k fn' hfn' hbody'
      have hnone : fn'.body.isNone = false := by cases hb : fn'.body with
        | none => rw [hb] at hbody'; cases hbody'
        | some _ => rfl
      refine ⟨l, [mark w.heap.size], w1, { target := .fn (.func k) ⟨c1⟩, args := ⟨f1 ++ [.func (.yield l) ⟨[]⟩ ⟨[]⟩]⟩ }, w1, k, ⟨f1 ++ [.func (.yield l) ⟨[]⟩ ⟨[]⟩] ++ c1⟩, w1, run_enterLoop_outer _ _ _ _ _, ?_, fun _ _ => trivial, ?_, fun hh => absurd hh Bool.false_ne_true, ?_⟩
      · simp only [resolve, rangeCall, hef, Deferred.ofValue, Sem.run_bind, Sem.run_pure, Result.andThen_ok]
        simp [Act.eval]
      · simp only [invoke, callFunc, Sem.run_bind, Sem.run_pure, Result.andThen_ok, run_program, hfn', hnn, hnone]
        simp
      · refine callsIn_FR.2 (hcalls.mono ?_)
        rintro e w2 ⟨v', μ2, rfl, hV, hw2, hr2, E2⟩
        have lt1 : l < w1.heap.size := by rw [hs1]; exact Nat.lt_succ_self _
        have lt0 : w.heap.size < w1.heap.size := by omega
        have hnml := hnm l (Nat.le_succ _)
        have hnm0 := hnm w.heap.size (Nat.le_refl _)
        have rec2 : w2.heap[l]? = some (.loop rec0) := by rw [E2.keep l lt1 hnml]; exact hat1
        have def2 : w2.heap[w.heap.size]? = some (.deferred (some [])) := by rw [E2.keep _ lt0 hnm0]; exact hat0
        show ∃ jump w4, (Instr.endLoop l).run P w2 = .ok jump w4 ∧ _
        refine ⟨none, _, run_endLoop rec2 (fun h => by cases h), ?_⟩
        have hk : ∀ q, q ≠ l → (w2.putObj l (.loop { rec0 with state := .exhausted })).heap[q]? = w2.heap[q]? := fun q hq => World.putObj_heap_other hq
        have E12 := E1.trans hw1 E2
        have E3 : Ext μ ⟨nx, bl⟩ w μ2 H' (w2.putObj l (.loop { rec0 with state := .exhausted })) := E12.off (r := l) (Nat.le_succ _) World.putObj_size hk rfl rfl rfl
        have hf2 : Fresh μ2 H' := hf1.ext E2
        refine ⟨rfl, μ2, ⟨hw2, hr2.off (hnml.ext hw2 E2 lt1) World.putObj_size hk, ?_, ?_, hf2, G.nt, ?_⟩, E3⟩
        · have := E12.size
          have := G.hb
          rw [World.putObj_size]
          omega
        · exact fun t u hu => G.ht.mono (E12.le (G.fr.free _)) t u hu
        · have hsd := G.sd.ext hw2 G.fr E3
          refine ⟨hsd.env, ?_, hsd.fb⟩
          obtain ⟨rs, m1, m2, m3⟩ := hsd.marks
          obtain ⟨rs0, n1, n2, n3⟩ := G.sd.marks
          have hrs : rs = rs0 := by
            have : rs.map mark = rs0.map mark := by rw [← m1, ← n1]
            have hinj : ∀ (xs ys : List Nat), xs.map mark = ys.map mark → xs = ys := by
              intro xs
              induction xs with
              | nil => intro ys h; cases ys with
                | nil => rfl
                | cons y ys => cases h
              | cons x xs ih => intro ys h; cases ys with
                | nil => cases h
                | cons y ys =>
                  simp only [List.map_cons, List.cons.injEq, mark, Deferred.mk.injEq, and_true] at h
                  obtain ⟨h1, h2⟩ := h
                  cases h1
                  rw [ih ys h2]
            exact hinj _ _ this
          subst hrs
          refine ⟨w.heap.size :: rs, by rw [List.map_cons, ← n1]; rfl, List.nodup_cons.2 ⟨fun hm => ?_, m2⟩, fun q hq => ?_⟩
          · have := (n3 _ hm).2.1; omega
          · rcases List.mem_cons.1 hq with rfl | hq
            · refine ⟨G.sd.fb, ?_, ?_, ?_⟩
              · rw [World.putObj_size]; have := E2.size; omega
              · exact hnm0.ext hw2 E2 lt0
              · rw [hk _ (by show w.heap.size ≠ w.heap.size + 1; omega)]; exact def2
            · exact m3 q hq
    · cases h
  · cases h

structure SoundN (P : Program) (n : Nat) (ih : Env → Bool → Eval) : Prop where
  all : ∀ env inR, SoundC P env inR (ih env inR)
  loops : ∀ (env : Env) (inR : Bool) (b : Code) (tm : Tr Value) (nt : Nat) (H : Heap) (r : Ex) (tm' : Tr Value) (H' : Heap), ih env inR (.loop b) tm nt H = some (r, tm', H') →
    ∀ (rd : Option Nat), rd.isSome = inR → ∀ (a : Act) (w : World) (μ : Mu) (base fb : Nat), Good env fb μ base H w tm nt a → Code.roundsIn (FR rd) 0 P b (Left env fb μ base H w r tm' nt H') n a w

theorem loop_sound {P : Program} {n : Nat} {nat : FuncId → List Value → Option Value} {drw : Drw} {ih : Env → Bool → Eval} (hs : SoundN P n ih) {env : Env} {inR : Bool} {b : Code} {tm : Tr Value} {nt : Nat} {H : Heap} {r : Ex} {tm' : Tr Value} {H' : Heap} (h : exF P nat drw ih env inR (ih env inR) (.loop b) tm nt H = some (r, tm', H'))
    {rd : Option Nat} (hrd : rd.isSome = inR) {a : Act} {w : World} {μ : Mu} {base fb : Nat} (g : Good env fb μ base H w tm nt a) : Code.roundsIn (FR rd) 0 P b (Left env fb μ base H w r tm' nt H') (n + 1) a w := by
  have h' : (match ih env inR b tm nt H with
    | some (.normal, tm', H') => ih env inR (.loop b) tm' nt H'
    | r => r) = some (r, tm', H') := h
  clear h
  rw [roundsIn_succ]
  split at h'
  · rename_i tm1 H1 h1
    refine wpIn_mono (hs.all env inR b tm nt H _ _ _ h1 rd hrd a w μ base fb g) ?_
    rintro e a' w' ⟨rfl, μ', g', e'⟩
    refine roundsIn_mono ?_ n a' w' (hs.loops env inR b tm1 nt H1 _ _ _ h' rd hrd a' w' μ' base fb g')
    rintro e2 a2 w2 ⟨rfl, μ2, g2, e2⟩
    exact ⟨rfl, μ2, g2, e'.trans g'.hw e2⟩
  · rename_i hne
    refine wpIn_mono (hs.all env inR b tm nt H _ _ _ h' rd hrd a w μ base fb g) ?_
    rintro e a' w' ⟨rfl, rest⟩
    cases r with
    | normal => exact absurd h' (hne tm' H')
    | exit i => exact ⟨rfl, rest⟩
    | ret => exact ⟨rfl, rest⟩

theorem exF_sound {P : Program} (hP : NoNum P) {nat : FuncId → List Value → Option Value} {drw : Drw} (hn : NatOk P nat) (hd : DrwOk P drw) {n : Nat} {ih : Env → Bool → Eval} (hsn : SoundN P n ih) : SoundN P (n + 1) (fun env inR => exF P nat drw ih env inR (ih env inR)) := by
  refine ⟨?_, fun env inR b tm nt H r tm' H' h rd hrd a w μ base fb g => loop_sound hsn h hrd g⟩
  intro env inR c tm nt H r tm' H' h rd hrd a w μ base fb g
  have hs := hsn.all
  have hcx : CtxOk P env (ctxA nat ih env) := ⟨hs env false, yieldA_ok hs env, hn⟩
  have hwhole := h
  unfold exF at h
  split at h
  · cases h; exact wpIn_skip ⟨rfl, μ, g, Ext.refl _ _ _⟩
  · cases h; exact wpIn_label ⟨rfl, μ, g, Ext.refl _ _ _⟩
  · cases h; exact wpIn_ret ⟨rfl, μ, g, Ext.refl _ _ _⟩
  · cases h; exact wpIn_exit ⟨rfl, μ, g, Ext.refl _ _ _⟩
  · -- seq
    rename_i x y
    split at h
    · rename_i tm1 H1 h1
      refine wpIn_seq (wpIn_mono (hs env inR x tm nt H _ _ _ h1 rd hrd a w μ base fb g) ?_)
      rintro e a' w' ⟨rfl, μ', g', e'⟩
      show y.wpIn (FR rd) 0 P _ a' w'
      refine wpIn_mono (hs env inR y tm1 nt H1 _ _ _ h rd hrd a' w' μ' base fb g') ?_
      rintro e2 a2 w2 ⟨rfl, μ2, g2, e2⟩
      exact ⟨rfl, μ2, g2, e'.trans g'.hw e2⟩
    · rename_i hne
      refine wpIn_seq (wpIn_mono (hs env inR x tm nt H _ _ _ h rd hrd a w μ base fb g) ?_)
      rintro e a' w' ⟨rfl, rest⟩
      cases r with
      | normal => exact absurd h (hne tm' H')
      | exit i => exact ⟨rfl, rest⟩
      | ret => exact ⟨rfl, rest⟩
  · -- cond
    rename_i o x y
    split at h
    · rename_i hc
      exact wpIn_cond_true (bool_inv (ev_eq g.ht hc)) (hs env inR x tm nt H _ _ _ h rd hrd a w μ base fb g)
    · rename_i hc
      exact wpIn_cond_false (bool_inv (ev_eq g.ht hc)) (hs env inR y tm nt H _ _ _ h rd hrd a w μ base fb g)
    · cases h
  · -- block
    rename_i id b
    split at h
    · rename_i j tm1 H1 h1
      refine wpIn_block (wpIn_mono (hs env inR b tm nt H _ _ _ h1 rd hrd a w μ base fb g) ?_)
      rintro e a' w' ⟨rfl, rest⟩
      cases hj : Nat.beq j id <;> rw [hj] at h <;> simp only [cond_true, cond_false] at h
      · have hne : ¬ j = id := Nat.ne_of_beq_eq_false hj
        cases h
        show (if j = id then _ else _)
        rw [if_neg hne]
        exact ⟨rfl, rest⟩
      · have he : j = id := Nat.eq_of_beq_eq_true hj
        cases h
        show (if j = id then _ else _)
        rw [if_pos he]
        exact ⟨rfl, rest⟩
    · rename_i hne
      refine wpIn_block (wpIn_mono (hs env inR b tm nt H _ _ _ h rd hrd a w μ base fb g) ?_)
      rintro e a' w' ⟨rfl, rest⟩
      cases r with
      | normal => exact ⟨rfl, rest⟩
      | exit i => exact absurd h (hne i tm' H')
      | ret => exact ⟨rfl, rest⟩
  · -- loop
    rename_i b
    exact wpIn_loop_rounds (n + 1) (loop_sound hsn hwhole hrd g)
  · -- scope
    rename_i b
    refine wpIn_scope_straight (wpIn_mono (hs env inR b tm nt H _ _ _ h rd hrd a w μ base fb g) ?_)
    rintro e a' w' ⟨rfl, rest⟩
    cases r with
    | normal => exact ⟨rfl, rest⟩
    | exit i => exact ⟨rfl, rest⟩
    | ret => exact ⟨rfl, rest⟩
  · -- region
    rename_i id ops
    split at h
    · rename_i tm1 H1 h1
      cases h
      refine wpIn_region ?_
      rw [List.range_eq_range']
      have := opsA_wp hP (rd := rd) hcx (ops := ops) (base := base) ops.toList 0 rfl μ H H' w tm tm' a g h1 (Q := Left env fb μ base H w .normal tm' nt H') (fun a' w' μ' g' e' => ⟨rfl, μ', g', e'⟩)
      simpa using this
    · cases h
  · rename_i id ops
    split at h
    · rename_i tm1 H1 h1
      cases h
      exact hd env _ hcx rd id ops nt base fb μ H H' w tm tm' a g h1
    · cases h
  · -- a loop over a function
    split at h
    · cases h
    · cases rd with
      | some l => cases hrd
      | none => exact rangeA_ok hP hs g h
  · cases h

theorem ex_sound {P : Program} (hP : NoNum P) {nat : FuncId → List Value → Option Value} {drw : Drw} (hn : NatOk P nat) (hd : DrwOk P drw) : ∀ n, SoundN P n (ex P nat drw n) := by
  intro n
  induction n with
  | zero => exact ⟨fun env inR c tm nt H r tm' H' h => (by cases h), fun env inR b tm nt H r tm' H' h => (by cases h)⟩
  | succ n ih => exact exF_sound hP hn hd ih

end Go.Proofs.YtkmhbfgkhalaoaaGreatDoor.LM

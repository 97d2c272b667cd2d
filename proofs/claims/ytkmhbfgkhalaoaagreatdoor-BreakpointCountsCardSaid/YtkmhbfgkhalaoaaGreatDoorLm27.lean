/- The steps of a region that is run in some order. -/
import Derived.Test.YtkmhbfgkhalaoaaGreatDoorLm26
set_option linter.unusedVariables false
set_option linter.unusedSimpArgs false
set_option linter.unusedSectionVars false
namespace Go.Proofs.YtkmhbfgkhalaoaaGreatDoor.LM
open Go Go.RowKit

theorem putT_inv {tm tm' : Tr Value} {nt : Nat} {d : Option Tmp} {v : Value} (h : putT tm nt d v = some tm') : (∀ t, d = some t → t < nt) ∧ ∀ t, tm'.get t = if d = some t then some v else tm.get t := by
  cases d with
  | none => cases h; exact ⟨fun t e => by (cases e), fun t => by simp⟩
  | some x =>
    simp only [putT] at h
    cases hl : Nat.blt x nt <;> rw [hl] at h <;> simp only [cond_true, cond_false] at h
    · cases h
    · rw [Tr.put_eq] at h
      cases h
      refine ⟨fun t e => ?_, fun t => ?_⟩
      · cases e; rwa [Nat.blt_eq] at hl
      · rw [Tr.get_set]
        by_cases e : t = x
        · subst e; simp
        · rw [if_neg e, if_neg (fun h => e (by cases h; rfl))]

theorem put_at {a : Act} {d : Option Tmp} {v : Value} {t : Tmp} (h : d = some t) (ht : t < a.tmps.size) : (a.put d v).tmps[t]? = some v := by
  subst h
  simp [Act.put, ht]
theorem put_off {a : Act} {d : Option Tmp} {v : Value} {t : Tmp} (h : d ≠ some t) : (a.put d v).tmps[t]? = a.tmps[t]? := by
  cases d with
  | none => rfl
  | some x =>
    have : x ≠ t := fun e => h (by rw [e])
    simp [Act.put, Array.getElem?_setIfInBounds_ne this]
theorem put_size {a : Act} {d : Option Tmp} {v : Value} : (a.put d v).tmps.size = a.tmps.size := by cases d <;> simp [Act.put]
theorem put_df {a : Act} {d : Option Tmp} {v : Value} : (a.put d v).defers = a.defers := by cases d <;> rfl

section
variable {P : Program} {ih : Ctx} {env : Env} {fb : Nat} {rd : Option Nat} {ops : Array Oper} {nt base : Nat} {μ0 : Mu} {H0 : Heap} {w0 : World} {listed : Array Bool} {a : Act} {w : World} {μ : Mu} {E : List Ent} {D : List Nat} {W : List Rd} {tm : Tr Value} {H : Heap} {c0 : List Pl} {rest : List Stage}

theorem RunOk.move {μ' : Mu} {H' : Heap} {e : Ent} (h : RunOk P ih ops H0 H μ e) (hq : e.k = .quiet → opA P ih H' e.tm e.o = some (e.v, H'))
    (hm : ∀ b B, e.k = .made b → H.bl.get b = some B → μ b = none → b < H.next → H'.bl.get b = some B ∧ μ' b = none ∧ b < H'.next) : RunOk P ih ops H0 H' μ' e := by
  obtain ⟨i, o, etm, v, k⟩ := e
  cases k with
  | skip => exact h
  | quiet => exact ⟨h.1, h.2.1, hq rfl⟩
  | made b =>
    obtain ⟨h1, h2, ⟨X, B, h3, h4, h5⟩, h6, h7, h8⟩ := h
    obtain ⟨g1, g2, g3⟩ := hm b B rfl h5 h6 h8
    exact ⟨h1, h2, ⟨X, B, h3, h4, g1⟩, g2, h7, g3⟩

theorem kindA_defer {c : Call} {o : Oper} (h : o.op = .defer c) : kindA P o = .pure := by unfold kindA; rw [h]
theorem map_Side {b n : Nat} {w w' : World} {ds : List Deferred} (h : Side env fb μ H w ds) (hf : Fresh μ H) (hn : μ b = none) (hb : b < H.next) (hsz : w'.heap.size = w.heap.size + 1) (hkeep : ∀ r, r < w.heap.size → w'.heap[r]? = w.heap[r]?)
    (hup : ∀ k x, μ k = some x → upd μ b (w.heap.size, 0, n) k = some x) : Side env fb (upd μ b (w.heap.size, 0, n)) H w' ds := by
  have hnm : ∀ r, r < w.heap.size → NoMap μ H r → NoMap (upd μ b (w.heap.size, 0, n)) H r := by
    intro r hr h k K d lim hk hm
    unfold upd at hm
    split at hm
    · cases hm; omega
    · exact h k K d lim hk hm
  refine ⟨⟨fun e he => ?_, fun e he e' he' l h1 h2 => ?_⟩, ?_, by have := h.fb; omega⟩
  · obtain ⟨l, r, g⟩ := h.env.1 e he
    exact ⟨l, r, g.b, hup _ _ g.m, by have := g.lt; omega, hnm l g.lt g.nm, by rw [hkeep l g.lt]; exact g.rec_, g.ready, g.pend, g.ps, g.as, g.bd, g.tm.mono hup, g.nt⟩
  · obtain ⟨l1, _, g⟩ := h.env.1 e he
    obtain ⟨l2, _, g'⟩ := h.env.1 e' he'
    rw [hup _ _ g.m] at h1
    rw [hup _ _ g'.m] at h2
    cases h1
    cases h2
    exact h.env.2 e he e' he' l g.m g'.m
  · obtain ⟨rs, m1, m2, m3⟩ := h.marks
    refine ⟨rs, m1, m2, fun r hr => ?_⟩
    obtain ⟨g1, g2, g3, g4⟩ := m3 r hr
    exact ⟨g1, by omega, hnm r g2 g3, by rw [hkeep r g2]; exact g4⟩
theorem add_Side {B : Blk} {w : World} {ds : List Deferred} (h : Side env fb μ H w ds) (hn : μ H.next = none) : Side env fb μ ⟨H.next + 1, H.bl.set H.next B⟩ w ds := by
  have hnm : ∀ r, NoMap μ H r → NoMap μ ⟨H.next + 1, H.bl.set H.next B⟩ r := by
    intro r h k K d lim hk hm
    simp only [Tr.get_set] at hk
    split at hk
    · rename_i e; rw [e, hn] at hm; cases hm
    · exact h k K d lim hk hm
  refine ⟨⟨fun e he => ?_, h.env.2⟩, ?_, h.fb⟩
  · obtain ⟨l, r, g⟩ := h.env.1 e he
    exact ⟨l, r, Nat.lt_succ_of_lt g.b, g.m, g.lt, hnm l g.nm, g.rec_, g.ready, g.pend, g.ps, g.as, g.bd, g.tm, g.nt⟩
  · obtain ⟨rs, m1, m2, m3⟩ := h.marks
    refine ⟨rs, m1, m2, fun r hr => ?_⟩
    obtain ⟨g1, g2, g3, g4⟩ := m3 r hr
    exact ⟨g1, g2, hnm r g3, g4⟩

/-- An entry has been done by the machine. -/
theorem VI.done (hp : PF ops c0 rest) (hv : VI P ih env fb ops nt base μ0 H0 w0 listed a w μ E D W tm H) {e : Ent} (he : e ∈ E) (hu : Unl listed e.i) (hr : ∀ p ∈ predsA e.o, ¬ Unl listed p)
    {v' : Value} {w' : World} {μ' : Mu} (hle : ∀ b x, μ b = some x → μ' b = some x) (hV : VR μ' e.v v') (hr' : HR μ' base H w') (hb' : base ≤ w'.heap.size) (hf' : Fresh μ' H) (hx' : Ext μ0 H0 w0 μ' H w') (hsd : Side env fb μ' H w' a.defers)
    (hm : ∀ e' ∈ E, e'.i ≠ e.i → Unl listed e'.i → ∀ b, e'.k = .made b → μ b = none → μ' b = none) : VI P ih env fb ops nt base μ0 H0 w0 (listed.setIfInBounds e.i true) (a.put e.o.dst v') w' μ' E D W tm H := by
  have hnew : ∀ t, e.o.dst = some t → (a.put e.o.dst v').tmps[t]? = some v' := fun t ht => put_at ht (by rw [hv.ntq]; exact hv.dn e he t ht)
  refine ⟨hv.hw, hr', hb', hf', hx', by rw [put_size]; exact hv.ntq, by rw [put_df]; exact hsd, by simp [hv.sz], hv.ord, hv.eo, hv.eD, hv.dn, ?_, ?_, ?_, ?_, hv.dist, hv.mlt, hv.ov, hv.tv, ?_, ?_⟩
  · intro i hi hl; exact hv.u1 i hi (unl_set.1 hl).1
  · intro i hi hD
    refine unl_set.2 ⟨hv.u2 i hi hD, fun e' => hD ?_⟩
    rw [e']; exact hv.eD e he
  · intro e2 he2 hl
    obtain ⟨hl1, hl2⟩ := unl_set.1 hl
    have hrun := hv.run e2 he2 hl1
    refine hrun.move (fun hk => ?_) (fun b B hk h1 h2 h3 => ⟨h1, hm e2 he2 hl2 hl1 b hk h2, h3⟩)
    unfold RunOk at hrun
    rw [hk] at hrun
    exact hrun.2.2
  · intro e2 he2 hl hk hkk
    exact hv.wat e2 he2 (unl_set.1 hl).1 hk hkk
  · intro e2 he2 hl t ht u hu2
    obtain ⟨hl1, hl2⟩ := unl_set.1 hl
    have hin : e.i ∈ predsA e2.o → e.o.dst = some t → (∃ v'', (a.put e.o.dst v').tmps[t]? = some v'' ∧ VR μ' u v'') := by
      intro hpm hd
      have := hv.ov e2 he2 e he hpm t hd
      rw [hu2] at this
      cases this
      exact ⟨v', hnew t hd, hV⟩
    rcases hv.opv e2 he2 hl1 t ht u hu2 with ⟨e', he', hl', hd', hpm⟩ | ⟨v'', h1, h2⟩
    · by_cases hi : e'.i = e.i
      · have ho : e'.o = e.o := by
          have := hv.eo e' he'
          rw [hi, hv.eo e he] at this
          exact (Option.some.inj this).symm
        rw [ho] at hd'
        rw [hi] at hpm
        exact .inr (hin hpm hd')
      · exact .inl ⟨e', he', unl_set.2 ⟨hl', hi⟩, hd', hpm⟩
    · by_cases hd : e.o.dst = some t
      · rcases hp.apart e2.i e2.o (hv.eo e2 he2) t ht e.i e.o (hv.eo e he) hd with h | h | h
        · exact absurd h.symm hl2
        · exact .inr (hin h hd)
        · exact absurd hl1 (hr e2.i h)
      · exact .inr ⟨v'', by rw [put_off hd]; exact h1, h2.mono hle⟩
  · intro t u hu2
    rcases hv.tms t u hu2 with ⟨e', he', hl', hd'⟩ | ⟨v'', h1, h2⟩
    · by_cases hi : e'.i = e.i
      · have ho : e'.o = e.o := by
          have := hv.eo e' he'
          rw [hi, hv.eo e he] at this
          exact (Option.some.inj this).symm
        rw [ho] at hd'
        have := hv.tv e he t hd'
        rw [hu2] at this
        cases this
        exact .inr ⟨v', hnew t hd', hV⟩
      · exact .inl ⟨e', he', unl_set.2 ⟨hl', hi⟩, hd'⟩
    · by_cases hd : e.o.dst = some t
      · have := hv.tv e he t hd
        rw [hu2] at this
        cases this
        exact .inr ⟨v', hnew t hd, hV⟩
      · exact .inr ⟨v'', by rw [put_off hd]; exact h1, h2.mono hle⟩

/-- The machine does what an entry says. -/
theorem VI.exec (hP : NoNum P) (hs : CtxOk P env ih) (hp : PF ops c0 rest) (hv : VI P ih env fb ops nt base μ0 H0 w0 listed a w μ E D W tm H) {e : Ent} (he : e ∈ E) (hu : Unl listed e.i) (hr : ∀ p ∈ predsA e.o, ¬ Unl listed p)
    {K : Act → World → Prop} {Q : Exit → Act → World → Prop} (hK : ∀ a' w' μ', VI P ih env fb ops nt base μ0 H0 w0 (listed.setIfInBounds e.i true) a' w' μ' E D W tm H → K a' w') : wpOpIn (FR rd) 0 P ops Q e.i K a w := by
  have ht : TR μ (rst e.tm (looksL ops.toList e.o)) a := by
    intro t u hu2
    rw [rst_get] at hu2
    split at hu2
    · rename_i hm
      rcases hv.opv e he hu t hm u hu2 with ⟨e', he', hl', hd', hpm⟩ | h
      · exact absurd hl' (hr e'.i hpm)
      · exact h
    · cases hu2
  have hrun := hv.run e he hu
  unfold wpOpIn
  rw [hv.eo e he]
  dsimp only
  unfold RunOk at hrun
  split at hrun
  · -- not wanted
    obtain ⟨h1, h2⟩ := hrun
    have hw := wantedA_eq (ops := ops) ht (by rw [wantedA_rst]; exact h1)
    rw [if_neg (by rw [hw]; decide)]
    refine ⟨fun _ _ => trivial, hK _ _ μ (hv.done hp he hu hr (fun _ _ h => h) ?_ hv.hr hv.hb hv.fr hv.ext hv.sd (fun _ _ _ _ _ _ h => h))⟩
    rw [h2]
    exact .tup rfl (fun i x y hx => by simp at hx)
  · -- quiet
    obtain ⟨h1, h2, h3⟩ := hrun
    have hw := wantedA_eq (ops := ops) ht (by rw [wantedA_rst]; exact h1)
    rw [if_pos hw]
    refine opA_raw hP hs hv.hw hv.hr hv.hb ht hv.fr hv.sd.env (by rw [opA_congr ev_rst]; exact h3) (fun v' w' μ' hV _ hr' hx' => ?_)
    refine hK _ _ μ' (hv.done hp he hu hr (hx'.le (hv.fr.free H)) hV hr' (Nat.le_trans hv.hb hx'.size) (hv.fr.ext hx') (hv.ext.trans hv.hw hx') (hv.sd.ext hv.hw hv.fr hx') (fun e' he' _ hl' b hk hn => ?_))
    rw [hx'.mu b (Nat.lt_or_ge b H.next)]
    exact hn
  · -- made
    rename_i b hk
    obtain ⟨h1, h2, ⟨X, B, h3, h4, h5⟩, h6, h7, h8⟩ := hrun
    have hw := wantedA_eq (ops := ops) ht (by rw [wantedA_rst]; exact h1)
    rw [if_pos hw]
    obtain ⟨B', hX, hM⟩ := makes_ok (w := w) h2 ht (by rw [opA_congr ev_rst]; exact h4)
    have hB : B' = B := by
      injection hX with hX1 hX2
      have := congrArg (fun t => Tr.get t b) hX2
      simp only [Tr.get_set, h3, if_true] at this
      exact (Option.some.inj this).symm
    subst hB
    rw [h3] at hM
    obtain ⟨_, _, han, v', w', cs, hrun, hle, hc, hsz, hkeep, hcn, hfn, e1, e2, e3, hVR⟩ := hM
    have hup : ∀ k x, μ k = some x → upd μ b (w.heap.size, 0, cs.size) k = some x := by
      intro k x hx; unfold upd; rw [if_neg (fun e => by rw [e, h6] at hx; cases hx)]; exact hx
    refine uponIn_step (fun c e => ?_) ?_
    · rw [kindA_defer e] at h2; cases h2
    rw [hrun]
    refine hK _ _ (upd μ b (w.heap.size, 0, cs.size)) (hv.done hp he hu hr hup (hVR _ (by unfold upd; rw [if_pos rfl])) (map_HR hv.hr hv.hb h5 h6 han hle hc hsz hkeep hcn hfn)
      (by have := hv.hb; omega) (fun k hk => ?_) (map_Ext hv.ext h7 h8 hsz hkeep e1 e2 e3) (map_Side hv.sd hv.fr h6 h8 hsz hkeep hup) (fun e' he' hne hl' b' hk' hn => ?_))
    · unfold upd
      rw [if_neg (by omega)]
      exact hv.fr k hk
    · unfold upd
      rw [if_neg ?_]
      · exact hn
      · intro eb
        subst eb
        exact hne (hv.dist e' he' e he b' hk' hk)

/-- One operation more has been run by the evaluator. -/
theorem VI.add (hp : PF ops c0 rest) (hv : VI P ih env fb ops nt base μ0 H0 w0 listed a w μ E D W tm H) {e : Ent} (heo : ops[e.i]? = some e.o) (hD : e.i ∉ D) (hpr : ∀ p ∈ predsA e.o, p ∈ D) (hetm : e.tm = tm)
    {tm' : Tr Value} (hput : putT tm nt e.o.dst e.v = some tm') {H' : Heap} {W' : List Rd} (hw' : HW H') (hr' : HR μ base H' w) (hf' : Fresh μ H') (hx' : Ext μ0 H0 w0 μ H' w) (hsd : Side env fb μ H' w a.defers) (hnx : H.next ≤ H'.next)
    (hrun : ∀ e' ∈ E, Unl listed e'.i → RunOk P ih ops H0 H' μ e') (hrunE : RunOk P ih ops H0 H' μ e) (hW : ∀ r ∈ W, r ∈ W') (hWe : e.k = .quiet → kindA P e.o = .reads → e.rd ∈ W')
    (hmk : ∀ b, e.k = .made b → H.next ≤ b ∧ b < H'.next) : VI P ih env fb ops nt base μ0 H0 w0 listed a w μ (e :: E) (e.i :: D) W' tm' H' := by
  obtain ⟨hdn, hget⟩ := putT_inv hput
  have hi : e.i < ops.size := (Array.getElem?_eq_some_iff.1 heo).1
  have hue : Unl listed e.i := hv.u2 e.i hi hD
  have hnotin : ∀ e2 ∈ E, ∀ t, e.o.dst = some t → e2.o.dst ≠ some t := by
    intro e2 he2 t hd hd2
    have := hp.dsts e2.i e.i e2.o e.o t (hv.eo e2 he2) heo hd2 hd
    exact hD (by rw [← this]; exact hv.eD e2 he2)
  refine ⟨hw', hr', hv.hb, hf', hx', hv.ntq, hsd, hv.sz, hv.ord.cons heo hD hpr, ?_, ?_, ?_, ?_, ?_, ?_, ?_, ?_, ?_, ?_, ?_, ?_, ?_⟩
  · intro e2 he2
    rcases List.mem_cons.1 he2 with rfl | he2
    · exact heo
    · exact hv.eo e2 he2
  · intro e2 he2
    rcases List.mem_cons.1 he2 with rfl | he2
    · exact List.mem_cons_self
    · exact List.mem_cons_of_mem _ (hv.eD e2 he2)
  · intro e2 he2
    rcases List.mem_cons.1 he2 with rfl | he2
    · exact hdn
    · exact hv.dn e2 he2
  · intro i hi hl
    rcases List.mem_cons.1 hi with rfl | hi
    · exact ⟨e, List.mem_cons_self, rfl⟩
    · obtain ⟨e2, he2, h⟩ := hv.u1 i hi hl
      exact ⟨e2, List.mem_cons_of_mem _ he2, h⟩
  · intro i hi hn
    exact hv.u2 i hi (fun h => hn (List.mem_cons_of_mem _ h))
  · intro e2 he2 hl
    rcases List.mem_cons.1 he2 with rfl | he2
    · exact hrunE
    · exact hrun e2 he2 hl
  · intro e2 he2 hl hk hkk
    rcases List.mem_cons.1 he2 with rfl | he2
    · exact hWe hk hkk
    · exact hW _ (hv.wat e2 he2 hl hk hkk)
  · intro e2 he2 e3 he3 b hk2 hk3
    rcases List.mem_cons.1 he2 with rfl | g2 <;> rcases List.mem_cons.1 he3 with rfl | g3
    · rfl
    · have h1 := (hmk b hk2).1
      have h2 := hv.mlt e3 g3 b hk3
      omega
    · have h1 := (hmk b hk3).1
      have h2 := hv.mlt e2 g2 b hk2
      omega
    · exact hv.dist e2 g2 e3 g3 b hk2 hk3
  · intro e2 he2 b hk2
    rcases List.mem_cons.1 he2 with rfl | he2
    · exact (hmk b hk2).2
    · exact Nat.lt_of_lt_of_le (hv.mlt e2 he2 b hk2) hnx
  · intro e2 he2 e3 he3 hpm t hd
    rcases List.mem_cons.1 he2 with rfl | g2
    · rcases List.mem_cons.1 he3 with rfl | he3
      · exact absurd (hpr _ hpm) hD
      · rw [hetm]; exact hv.tv e3 he3 t hd
    · rcases List.mem_cons.1 he3 with rfl | he3
      · exact absurd (hv.ord.closed (hv.eD e2 g2) (hv.eo e2 g2) _ hpm) hD
      · exact hv.ov e2 g2 e3 he3 hpm t hd
  · intro e2 he2 t hd
    rcases List.mem_cons.1 he2 with rfl | he2
    · rw [hget t, if_pos hd]
    · rw [hget t, if_neg (fun h => hnotin e2 he2 t h hd)]
      exact hv.tv e2 he2 t hd
  · intro e2 he2 hl t ht u hu
    rcases List.mem_cons.1 he2 with rfl | he2
    · rw [hetm] at hu
      rcases hv.tms t u hu with ⟨e', he', hl', hd'⟩ | h
      · rcases hp.apart e2.i e2.o heo t ht e'.i e'.o (hv.eo e' he') hd' with h | h | h
        · exact absurd (by rw [← h]; exact hv.eD e' he') hD
        · exact .inl ⟨e', List.mem_cons_of_mem _ he', hl', hd', h⟩
        · exact absurd (hv.ord.closed (hv.eD e' he') (hv.eo e' he') _ h) hD
      · exact .inr h
    · rcases hv.opv e2 he2 hl t ht u hu with ⟨e', he', h⟩ | h
      · exact .inl ⟨e', List.mem_cons_of_mem _ he', h⟩
      · exact .inr h
  · intro t u hu
    rw [hget t] at hu
    split at hu
    · rename_i hd
      exact .inl ⟨e, List.mem_cons_self, hue, hd⟩
    · rcases hv.tms t u hu with ⟨e', he', h⟩ | h
      · exact .inl ⟨e', List.mem_cons_of_mem _ he', h⟩
      · exact .inr h

/-- The cheap operations of a stage. -/
theorem VI.cheap (hp : PF ops c0 rest) : ∀ (l : List Pl) (D D' : List Nat) (E : List Ent) (W W' : List Rd) (tm tm' : Tr Value) (H H' : Heap), (∀ p ∈ l, ops[p.1]? = some p.2) → inOrder l D = some D' →
    VI P ih env fb ops nt base μ0 H0 w0 listed a w μ E D W tm H → cheapA P ih ops.toList nt l W tm H = some (W', tm', H') → ∃ E', VI P ih env fb ops nt base μ0 H0 w0 listed a w μ E' D' W' tm' H' := by
  intro l
  induction l with
  | nil =>
    intro D D' E W W' tm tm' H H' _ ho hv h
    cases ho
    cases h
    exact ⟨E, hv⟩
  | cons p r ihl =>
    intro D D' E W W' tm tm' H H' hpl ho hv h
    obtain ⟨hD, hpr, ho'⟩ := inOrder_cons ho
    have heo := hpl p (by simp)
    have hpl' : ∀ q ∈ r, ops[q.1]? = some q.2 := fun q hq => hpl q (List.mem_cons_of_mem _ hq)
    have h' : (match wantedA ops.toList tm p.2 with
      | some true => match opA P ih H tm p.2 with
        | some (v, H1) => match putT tm nt p.2.dst v with
          | some tm1 => match kindA P p.2 with
            | .pure => cheapA P ih ops.toList nt r W tm1 H1
            | .makes => cheapA P ih ops.toList nt r W tm1 H1
            | .reads => cheapA P ih ops.toList nt r (⟨p.1, p.2, tm, v⟩ :: W) tm1 H1
            | .chain => none
          | none => none
        | none => none
      | some false => match putT tm nt p.2.dst undef with
        | some tm1 => cheapA P ih ops.toList nt r W tm1 H
        | none => none
      | none => none) = some (W', tm', H') := h
    clear h
    split at h'
    · rename_i hwt
      split at h'
      · rename_i v H1 hop
        split at h'
        · rename_i tm1 hput
          split at h'
          · rename_i hk
            have hq := quiet_same (by rw [hk]; rfl) hop
            subst hq
            have hv1 := hv.add hp (e := ⟨p.1, p.2, tm, v, .quiet⟩) heo hD hpr rfl hput (W' := W) hv.hw hv.hr hv.fr hv.ext hv.sd (Nat.le_refl _) hv.run ⟨hwt, .inl hk, hop⟩ (fun _ h => h) (fun _ hkk => by rw [hk] at hkk; cases hkk) (fun b hb => by cases hb)
            exact ihl _ _ _ _ _ _ _ _ _ hpl' ho' hv1 h'
          · rename_i hk
            obtain ⟨B, rfl, hch, han⟩ := makes_shape hk hop
            have hn : μ H.next = none := hv.fr H.next (Nat.le_refl _)
            have hv1 := hv.add hp (e := ⟨p.1, p.2, tm, v, .made H.next⟩) heo hD hpr rfl hput (W' := W) (add_HW hv.hw hch han) (add_HR hv.hr hn) (fun k hk => hv.fr k (Nat.le_of_succ_le hk)) (add_Ext hv.ext hn) (add_Side hv.sd hn) (Nat.le_succ _)
              (fun e' he' hl' => by
                have hr := hv.run e' he' hl'
                refine hr.move (fun hkq => ?_) (fun b B hkb h1 h2 h3 => ⟨?_, h2, Nat.lt_succ_of_lt h3⟩)
                · unfold RunOk at hr
                  rw [hkq] at hr
                  obtain ⟨_, g2, g3⟩ := hr
                  rcases g2 with g2 | g2
                  · exact pure_any g2 g3 _
                  · exact reads_grow hv.hw g2 g3
                · show (H.bl.set H.next _).get b = _
                  rw [Tr.get_set, if_neg (Nat.ne_of_lt h3)]; exact h1)
              ⟨hwt, hk, ⟨H, B, rfl, hop, by show (H.bl.set H.next B).get H.next = _; rw [Tr.get_set, if_pos rfl]⟩, hn, hv.ext.next, Nat.lt_succ_self _⟩ (fun _ h => h) (fun hkq => by cases hkq) (fun b hb => by cases hb; exact ⟨Nat.le_refl _, Nat.lt_succ_self _⟩)
            exact ihl _ _ _ _ _ _ _ _ _ hpl' ho' hv1 h'
          · rename_i hk
            have hq := quiet_same (by rw [hk]; rfl) hop
            subst hq
            have hv1 := hv.add hp (e := ⟨p.1, p.2, tm, v, .quiet⟩) heo hD hpr rfl hput (W' := ⟨p.1, p.2, tm, v⟩ :: W) hv.hw hv.hr hv.fr hv.ext hv.sd (Nat.le_refl _) hv.run ⟨hwt, .inr hk, hop⟩ (fun _ h => List.mem_cons_of_mem _ h) (fun _ _ => List.mem_cons_self) (fun b hb => by cases hb)
            exact ihl _ _ _ _ _ _ _ _ _ hpl' ho' hv1 h'
          · cases h'
        · cases h'
      · cases h'
    · rename_i hwf
      split at h'
      · rename_i tm1 hput
        have hv1 := hv.add hp (e := ⟨p.1, p.2, tm, undef, .skip⟩) heo hD hpr rfl hput (W' := W) hv.hw hv.hr hv.fr hv.ext hv.sd (Nat.le_refl _) hv.run ⟨hwf, rfl⟩ (fun _ h => h) (fun hkq => by cases hkq) (fun b hb => by cases hb)
        exact ihl _ _ _ _ _ _ _ _ _ hpl' ho' hv1 h'
      · cases h'
    · cases h'

theorem again_spec {H1 : Heap} {R : List Nat} : ∀ (W W' : List Rd), again P ih H1 R W = some W' → ∀ r ∈ W, r.i ∉ R → r ∈ W' ∧ ∃ H2, opA P ih H1 r.tm r.o = some (r.v, H2) := by
  intro W
  induction W with
  | nil => intro W' _ r hr; cases hr
  | cons x s ihw =>
    intro W' h r hr hn
    have h' : (match memN x.i R with
      | true => again P ih H1 R s
      | false => match opA P ih H1 x.tm x.o with
        | some (v, _) => match veq x.v v with
          | true => match again P ih H1 R s with
            | some W => some (x :: W)
            | none => none
          | false => none
        | none => none) = some W' := h
    clear h
    split at h'
    · rename_i hm
      rcases List.mem_cons.1 hr with rfl | hr
      · exact absurd ((memN_iff _ _).1 hm) hn
      · exact ihw W' h' r hr hn
    · split at h'
      · rename_i v H2 hop
        split at h'
        · rename_i hq
          split at h'
          · rename_i W1 hW1
            cases h'
            rcases List.mem_cons.1 hr with rfl | hr
            · exact ⟨List.mem_cons_self, H2, by rw [veq_eq hq]; exact hop⟩
            · obtain ⟨h1, h2⟩ := ihw W1 hW1 r hr hn
              exact ⟨List.mem_cons_of_mem _ h1, h2⟩
          · cases h'
        · cases h'
      · cases h'

/-- What holds behind a chain operation. -/
theorem VI.chained (hp : PF ops c0 rest) (hv : VI P ih env fb ops nt base μ0 H0 w0 listed a w μ E D W tm H) {c : Nat} {o : Oper} (hco : ops[c]? = some o) (hD : c ∉ D) (hpr : ∀ p ∈ predsA o, p ∈ D) (hr : ∀ p ∈ predsA o, ¬ Unl listed p)
    {v v' : Value} {tm' : Tr Value} (hput : putT tm nt o.dst v = some tm') {H' : Heap} {w' : World} {μ' : Mu} {W' : List Rd} (hV : VR μ' v v') (hw' : HW H') (hr' : HR μ' base H' w') (hx' : Ext μ H w μ' H' w')
    (hW : ∀ r ∈ W, r.i ∉ predsA o → r ∈ W' ∧ ((kindA P r.o = .reads) → opA P ih H r.tm r.o = some (r.v, H) → opA P ih H' r.tm r.o = some (r.v, H'))) :
    VI P ih env fb ops nt base μ0 H0 w0 (listed.setIfInBounds c true) (a.put o.dst v') w' μ' E (c :: D) W' tm' H' := by
  obtain ⟨hdn, hget⟩ := putT_inv hput
  have hle := hx'.le (hv.fr.free H')
  have hnew : ∀ t, o.dst = some t → (a.put o.dst v').tmps[t]? = some v' := fun t ht => put_at ht (by rw [hv.ntq]; exact hdn t ht)
  have hnotin : ∀ e2 ∈ E, ∀ t, o.dst = some t → e2.o.dst ≠ some t := by
    intro e2 he2 t hd hd2
    have := hp.dsts e2.i c e2.o o t (hv.eo e2 he2) hco hd2 hd
    exact hD (by rw [← this]; exact hv.eD e2 he2)
  have hout : ∀ e2 ∈ E, Unl listed e2.i → e2.i ∉ predsA o := fun e2 he2 hl hm => hr _ hm hl
  refine ⟨hw', hr', Nat.le_trans hv.hb hx'.size, hv.fr.ext hx', hv.ext.trans hv.hw hx', by rw [put_size]; exact hv.ntq, by rw [put_df]; exact hv.sd.ext hw' hv.fr hx', by simp [hv.sz], hv.ord.cons hco hD hpr, hv.eo, ?_, hv.dn, ?_, ?_, ?_, ?_, hv.dist, ?_, hv.ov, ?_, ?_, ?_⟩
  · intro e2 he2; exact List.mem_cons_of_mem _ (hv.eD e2 he2)
  · intro i hi hl
    obtain ⟨h1, h2⟩ := unl_set.1 hl
    rcases List.mem_cons.1 hi with rfl | hi
    · exact absurd rfl h2
    · exact hv.u1 i hi h1
  · intro i hi hn
    exact unl_set.2 ⟨hv.u2 i hi (fun h => hn (List.mem_cons_of_mem _ h)), fun e => hn (by rw [e]; exact List.mem_cons_self)⟩
  · intro e2 he2 hl
    obtain ⟨hl1, hl2⟩ := unl_set.1 hl
    have hrun := hv.run e2 he2 hl1
    refine hrun.move (fun hkq => ?_) (fun b B hkb h1 h2 h3 => ⟨?_, ?_, ?_⟩)
    · unfold RunOk at hrun
      rw [hkq] at hrun
      obtain ⟨_, g2, g3⟩ := hrun
      rcases g2 with g2 | g2
      · exact pure_any g2 g3 _
      · exact (hW e2.rd (hv.wat e2 he2 hl1 hkq g2) (hout e2 he2 hl1)).2 g2 g3
    · rw [hx'.unm b h3 h2]; exact h1
    · rw [hx'.mu b (.inl h3)]; exact h2
    · exact Nat.lt_of_lt_of_le h3 hx'.next
  · intro e2 he2 hl hkq hkk
    obtain ⟨hl1, hl2⟩ := unl_set.1 hl
    exact (hW e2.rd (hv.wat e2 he2 hl1 hkq hkk) (hout e2 he2 hl1)).1
  · intro e2 he2 b hk2
    exact Nat.lt_of_lt_of_le (hv.mlt e2 he2 b hk2) hx'.next
  · intro e2 he2 t hd
    rw [hget t, if_neg (fun h => hnotin e2 he2 t h hd)]
    exact hv.tv e2 he2 t hd
  · intro e2 he2 hl t ht u hu
    obtain ⟨hl1, hl2⟩ := unl_set.1 hl
    rcases hv.opv e2 he2 hl1 t ht u hu with ⟨e', he', hl', hd', hpm⟩ | ⟨u', h1, h2⟩
    · refine .inl ⟨e', he', unl_set.2 ⟨hl', fun e => hD ?_⟩, hd', hpm⟩
      rw [← e]; exact hv.eD e' he'
    · have hne : o.dst ≠ some t := by
        intro hd
        rcases hp.apart e2.i e2.o (hv.eo e2 he2) t ht c o hco hd with h | h | h
        · exact hl2 h.symm
        · exact hD (hv.ord.closed (hv.eD e2 he2) (hv.eo e2 he2) _ h)
        · exact hout e2 he2 hl1 h
      exact .inr ⟨u', by rw [put_off hne]; exact h1, h2.mono hle⟩
  · intro t u hu
    rw [hget t] at hu
    split at hu
    · rename_i hd
      cases hu
      exact .inr ⟨v', hnew t hd, hV⟩
    · rename_i hd
      rcases hv.tms t u hu with ⟨e', he', hl', hd'⟩ | ⟨u', h1, h2⟩
      · refine .inl ⟨e', he', unl_set.2 ⟨hl', fun e => hD ?_⟩, hd'⟩
        rw [← e]; exact hv.eD e' he'
      · exact .inr ⟨u', by rw [put_off hd]; exact h1, h2.mono hle⟩

end
end Go.Proofs.YtkmhbfgkhalaoaaGreatDoor.LM

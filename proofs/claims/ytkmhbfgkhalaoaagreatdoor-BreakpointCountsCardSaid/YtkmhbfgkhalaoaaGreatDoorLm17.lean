/- Operations of a region, one behind the other; calls. -/
import Derived.Test.YtkmhbfgkhalaoaaGreatDoorLm16
import Derived.OrdersIn
import Derived.LoopNIn
import Derived.RangeFuncRecord
set_option linter.unusedVariables false
set_option linter.unusedSimpArgs false
set_option linter.unusedSectionVars false
namespace Go.Proofs.YtkmhbfgkhalaoaaGreatDoor.LM
open Go Go.RowKit

def Fresh (μ : Mu) (H : Heap) : Prop := ∀ b, H.next ≤ b → μ b = none
theorem Fresh.free {μ : Mu} {H : Heap} (h : Fresh μ H) (H' : Heap) : Free μ H H' := fun b hb _ => h b hb
theorem Fresh.ext {μ μ' : Mu} {H H' : Heap} {w w' : World} (h : Fresh μ H) (e : Ext μ H w μ' H' w') : Fresh μ' H' := fun b hb => by
  rw [e.mu b (.inr hb)]; exact h b (Nat.le_trans e.next hb)

/-- The fence that asks nothing, in a frame or in a round. -/
def FR (rd : Option Nat) : Fence := { Fence.wide with round := rd }
theorem FR_room (rd : Option Nat) (n : Nat) : (FR rd).room n := room_wide n
theorem callsIn_FR {rd : Option Nat} {n : Nat} {P : Program} {f : FuncId} {args : Array Value} {w : World} {R : Ending → World → Prop} : CallsIn (FR rd) n P f args w R ↔ Calls P f args w R := callsIn_wide (n := n)

/-- No block that lives stands in this row of the machine. -/
def NoMap (μ : Mu) (H : Heap) (r : Nat) : Prop := ∀ b B d lim, H.bl.get b = some B → μ b ≠ some (r, d, lim)
theorem NoMap.ext {μ μ' : Mu} {H H' : Heap} {w w' : World} (hw' : HW H') (he : Ext μ H w μ' H' w') {r : Nat} (hr : r < w.heap.size) (h : NoMap μ H r) : NoMap μ' H' r := by
  intro b B d lim hg hm
  by_cases hb : b < H.next
  · obtain ⟨B0, h0⟩ := he.back b B hb hg
    exact h b B0 d lim h0 (by rw [← he.mu b (.inl hb)]; exact hm)
  · rcases he.fresh b r d lim (by omega) (hw'.dom b B hg) hm with hf | ⟨b0, B0, d0, l0, h0, h1⟩
    · omega
    · exact h b0 B0 d0 l0 h0 h1

structure RecOk (μ : Mu) (H : Heap) (w : World) (e : LoopR) (l : Nat) (r : Loop) : Prop where
  b : e.b < H.next
  m : μ e.b = some (l, 0, 0)
  lt : l < w.heap.size
  nm : NoMap μ H l
  rec_ : w.heap[l]? = some (.loop r)
  ready : r.state = .ready
  pend : r.pending = none
  ps : r.params.toList = e.ps
  as : r.assign = e.assign
  bd : r.body = e.body
  tm : TR μ e.tm { tmps := r.tmps, defers := [] }
  nt : r.tmps.size = e.nt
/-- The loops around are ready. -/
def EnvOk (env : Env) (μ : Mu) (H : Heap) (w : World) : Prop :=
  (∀ e ∈ env, ∃ l r, RecOk μ H w e l r) ∧ ∀ e ∈ env, ∀ e' ∈ env, ∀ l, μ e.b = some (l, 0, 0) → μ e'.b = some (l, 0, 0) → e.b = e'.b
theorem EnvOk.nil {μ : Mu} {H : Heap} {w : World} : EnvOk [] μ H w := ⟨fun e he => (by cases he), fun e he => (by cases he)⟩
theorem RecOk.ext {μ μ' : Mu} {H H' : Heap} {w w' : World} (hw' : HW H') (hf : Fresh μ H) (he : Ext μ H w μ' H' w') {e : LoopR} {l : Nat} {r : Loop} (h : RecOk μ H w e l r) : RecOk μ' H' w' e l r :=
  ⟨Nat.lt_of_lt_of_le h.b he.next, by rw [he.mu _ (.inl h.b)]; exact h.m, Nat.lt_of_lt_of_le h.lt he.size, h.nm.ext hw' he h.lt, by rw [he.keep l h.lt h.nm]; exact h.rec_, h.ready, h.pend, h.ps, h.as, h.bd,
    h.tm.mono (he.le (hf.free H')), h.nt⟩
theorem EnvOk.ext {env : Env} {μ μ' : Mu} {H H' : Heap} {w w' : World} (hw' : HW H') (hf : Fresh μ H) (he : Ext μ H w μ' H' w') (h : EnvOk env μ H w) : EnvOk env μ' H' w' := by
  refine ⟨fun e hm => ?_, fun e hm e' hm' l h1 h2 => ?_⟩
  · obtain ⟨l, r, hr⟩ := h.1 e hm
    exact ⟨l, r, hr.ext hw' hf he⟩
  · obtain ⟨_, _, hr⟩ := h.1 e hm
    obtain ⟨_, _, hr'⟩ := h.1 e' hm'
    rw [he.mu _ (.inl hr.b)] at h1
    rw [he.mu _ (.inl hr'.b)] at h2
    exact h.2 e hm e' hm' l h1 h2

def mark (r : Nat) : Deferred := { target := .collected r, args := #[] }
/-- The deferred calls of a frame: marks of loops over functions, none of which has deferred anything. -/
def Marks (fb : Nat) (μ : Mu) (H : Heap) (w : World) (ds : List Deferred) : Prop :=
  ∃ rs : List Nat, ds = rs.map mark ∧ rs.Nodup ∧ ∀ r ∈ rs, fb ≤ r ∧ r < w.heap.size ∧ NoMap μ H r ∧ w.heap[r]? = some (.deferred (some []))
theorem Marks.ext {fb : Nat} {μ μ' : Mu} {H H' : Heap} {w w' : World} {ds : List Deferred} (hw' : HW H') (he : Ext μ H w μ' H' w') (h : Marks fb μ H w ds) : Marks fb μ' H' w' ds := by
  obtain ⟨rs, h1, h2, h3⟩ := h
  refine ⟨rs, h1, h2, fun r hr => ?_⟩
  obtain ⟨g1, g2, g3, g4⟩ := h3 r hr
  exact ⟨g1, Nat.lt_of_lt_of_le g2 he.size, g3.ext hw' he g2, by rw [he.keep r g2 g3]; exact g4⟩
structure Side (env : Env) (fb : Nat) (μ : Mu) (H : Heap) (w : World) (ds : List Deferred) : Prop where
  env : EnvOk env μ H w
  marks : Marks fb μ H w ds
  fb : fb ≤ w.heap.size
theorem Side.ext {env : Env} {fb : Nat} {μ μ' : Mu} {H H' : Heap} {w w' : World} {ds : List Deferred} (hw' : HW H') (hf : Fresh μ H) (he : Ext μ H w μ' H' w') (h : Side env fb μ H w ds) : Side env fb μ' H' w' ds :=
  ⟨h.env.ext hw' hf he, h.marks.ext hw' he, Nat.le_trans h.fb he.size⟩

/-- A row of the machine in which no block stands is changed. -/
theorem HR.off {μ : Mu} {base : Nat} {H : Heap} {w w' : World} (h : HR μ base H w) {r : Nat} (hn : NoMap μ H r) (hs : w'.heap.size = w.heap.size) (hk : ∀ q, q ≠ r → w'.heap[q]? = w.heap[q]?) : HR μ base H w' := by
  have hc : ∀ q i, q ≠ r → w'.cell? ⟨q, i, none⟩ = w.cell? ⟨q, i, none⟩ := fun q i hq => by simp [World.cell?, hk q hq]
  have hf : ∀ q i, q ≠ r → w'.fro ⟨q, i, none⟩ = w.fro ⟨q, i, none⟩ := fun q i hq => by simp [World.fro, hk q hq]
  have hne : ∀ b B q d lim, H.bl.get b = some B → μ b = some (q, d, lim) → q ≠ r := fun b B q d lim h1 h2 e => hn b B d lim h1 (by rw [← e]; exact h2)
  refine ⟨fun b B q d lim h1 h2 => ?_, fun b B q d lim i h1 h2 h3 => ?_, h.chain, h.ancm, h.below⟩
  · obtain ⟨g1, g2, g3, g4⟩ := h.live b B q d lim h1 h2
    refine ⟨g1, by rw [hs]; exact g2, g3, fun i hi => ?_⟩
    rw [hc q i (hne b B q d lim h1 h2), hf q i (hne b B q d lim h1 h2)]
    exact g4 i hi
  · rw [hc q _ (hne b B q d lim h1 h2)]
    exact h.cell b B q d lim i h1 h2 h3
theorem Ext.off {μ μ' : Mu} {H H' : Heap} {w w' w'' : World} (h : Ext μ H w μ' H' w') {r : Nat} (hr : w.heap.size ≤ r) (hs : w''.heap.size = w'.heap.size) (hk : ∀ q, q ≠ r → w''.heap[q]? = w'.heap[q]?)
    (h1 : w''.os = w'.os) (h2 : w''.tape = w'.tape) (h3 : w''.output = w'.output) : Ext μ H w μ' H' w'' :=
  ⟨h.next, h.mu, h.back, h.unm, fun q hq hno => by rw [hk q (by omega)]; exact h.keep q hq hno, h.fresh, by rw [hs]; exact h.size, h1.trans h.os, h2.trans h.tape, h3.trans h.output⟩
theorem EnvOk.off {env : Env} {μ : Mu} {H : Heap} {w w' : World} (h : EnvOk env μ H w) {r : Nat} (hs : w'.heap.size = w.heap.size) (hk : ∀ q, q ≠ r → w'.heap[q]? = w.heap[q]?) (hne : ∀ e ∈ env, μ e.b ≠ some (r, 0, 0)) : EnvOk env μ H w' := by
  refine ⟨fun e he => ?_, h.2⟩
  obtain ⟨l, q, hr⟩ := h.1 e he
  have hl : l ≠ r := fun e' => hne e he (by rw [hr.m, e'])
  exact ⟨l, q, hr.b, hr.m, by rw [hs]; exact hr.lt, hr.nm, by rw [hk l hl]; exact hr.rec_, hr.ready, hr.pend, hr.ps, hr.as, hr.bd, hr.tm, hr.nt⟩

/-- What holds of the machine at a state of the evaluator. -/
structure Good (env : Env) (fb : Nat) (μ : Mu) (base : Nat) (H : Heap) (w : World) (tm : Tr Value) (nt : Nat) (a : Act) : Prop where
  hw : HW H
  hr : HR μ base H w
  hb : base ≤ w.heap.size
  ht : TR μ tm a
  fr : Fresh μ H
  nt : a.tmps.size = nt
  sd : Side env fb μ H w a.defers

theorem put_TR {μ : Mu} {tm tm' : Tr Value} {nt : Nat} {d : Option Tmp} {v v' : Value} {a : Act} (h : putT tm nt d v = some tm') (ht : TR μ tm a) (hv : VR μ v v') (hn : a.tmps.size = nt) :
    TR μ tm' (a.put d v') ∧ (a.put d v').tmps.size = nt ∧ (a.put d v').defers = a.defers := by
  cases d with
  | none => cases h; exact ⟨ht, hn, rfl⟩
  | some t =>
    simp only [putT] at h
    cases hl : Nat.blt t nt <;> rw [hl] at h <;> simp only [cond_true, cond_false] at h
    · cases h
    · rw [Tr.put_eq] at h
      cases h
      have hlt : t < nt := by rwa [Nat.blt_eq] at hl
      refine ⟨fun k u hk => ?_, by simp [Act.put, hn], rfl⟩
      rw [Tr.get_set] at hk
      by_cases e : k = t
      · subst e
        rw [if_pos rfl] at hk
        cases hk
        exact ⟨v', by simp [Act.put, hn, hlt], hv⟩
      · rw [if_neg e] at hk
        obtain ⟨u', h1, h2⟩ := ht k u hk
        exact ⟨u', by simp [Act.put, Array.getElem?_setIfInBounds_ne (Ne.symm e), h1], h2⟩

theorem not_bool {μ : Mu} {v v' : Value} (h : VR μ v v') (hv : ∀ b, v ≠ .bool b) : ∀ b, v' ≠ .bool b := by
  intro b e
  subst e
  cases h
  exact hv b rfl

theorem wantedA_eq {μ : Mu} {tm : Tr Value} {a : Act} (ht : TR μ tm a) {ops : Array Oper} {o : Oper} {b : Bool} (h : wantedA ops.toList tm o = some b) : Region.wanted o (yielded ops a.tmps) = b := by
  unfold wantedA at h
  unfold Region.wanted
  split at h
  · rename_i hg; cases h; rw [hg]
  · rename_i j want hg
    rw [hg]
    rw [nth_eq] at h
    split at h
    · rename_i g hj
      split at h
      · rename_i d hd
        have hj' : ops[j]? = some g := by simpa using hj
        split at h
        · rename_i c hc
          cases h
          obtain ⟨v', h1, h2⟩ := ht d _ hc
          rw [bool_inv h2] at h1
          simp only [yielded, hj', hd, Option.bind_some, h1]
          cases c <;> cases want <;> rfl
        · rename_i v hv hc
          cases h
          obtain ⟨v', h1, h2⟩ := ht d _ hc
          have hn := not_bool h2 (fun b e => by rw [e] at hv; exact hv b rfl)
          simp only [yielded, hj', hd, Option.bind_some, h1]
          cases v' <;> first | rfl | exact absurd rfl (hn _)
        · cases h
      · cases h
    · cases h

def exitOf : Ex → Exit
  | .normal => .normal
  | .exit i => .exit i
  | .ret => .ret

/-- What a run leaves. -/
def Left (env : Env) (fb : Nat) (μ : Mu) (base : Nat) (H : Heap) (w : World) (r : Ex) (tm' : Tr Value) (nt : Nat) (H' : Heap) (e : Exit) (a' : Act) (w' : World) : Prop :=
  e = exitOf r ∧ ∃ μ', Good env fb μ' base H' w' tm' nt a' ∧ Ext μ H w μ' H' w'
/-- The evaluator's answers are the machine's. -/
def SoundC (P : Program) (env : Env) (inR : Bool) (ih : Eval) : Prop := ∀ (c : Code) (tm : Tr Value) (nt : Nat) (H : Heap) (r : Ex) (tm' : Tr Value) (H' : Heap), ih c tm nt H = some (r, tm', H') →
  ∀ (rd : Option Nat), rd.isSome = inR → ∀ (a : Act) (w : World) (μ : Mu) (base fb : Nat), Good env fb μ base H w tm nt a →
    c.wpIn (FR rd) 0 P (Left env fb μ base H w r tm' nt H') a w

/-- No function of the program is one that the model answers itself though it has a body. -/
def NoNum (P : Program) : Prop := ∀ (k : Nat) (fn : Func), P.funcs[k]? = some fn → fn.body.isSome = true → (fn.name == "runtime.NumGoroutine") = false

def resM (tmps : Array Value) (x : ResultVar) : Sem Value := match x with
  | .tmp t => pure (tmps.getD t undef)
  | .cell p t => do loadVar t (← asAddr (tmps.getD p undef))
theorem results_eq (fn : Func) (tmps : Array Value) : results fn tmps = (do let vs ← fn.results.mapM (resM tmps); pure (if h : vs.size = 1 then vs[0] else .tuple vs)) := rfl

theorem ldRes_run {P : Program} {μ : Mu} {base : Nat} {H : Heap} {w : World} {tm : Tr Value} {a : Act} (hr : HR μ base H w) (ht : TR μ tm a) : ∀ (rs : List ResultVar) (vs : List Value), ldRes P H tm rs = some vs →
    ∃ us, (rs.mapM (resM a.tmps)).run P w = .ok us w ∧ LR μ vs us := by
  intro rs
  induction rs with
  | nil => intro vs h; cases h; exact ⟨[], by simp, LR.nil⟩
  | cons x r ih =>
    intro vs h
    cases x with
    | tmp t =>
      simp only [ldRes] at h
      split at h
      · rename_i v l hv hl
        cases h
        obtain ⟨us, h1, h2⟩ := ih _ hl
        obtain ⟨v', h3, h4⟩ := ht t v hv
        refine ⟨v' :: us, ?_, h2.cons h4⟩
        have e : a.tmps.getD t undef = v' := by rw [Array.getD_eq_getD_getElem?, h3]; rfl
        simp only [List.mapM_cons, resM, Sem.run_bind, Sem.run_pure, Result.andThen_ok, e, h1]
      · cases h
    | cell p t =>
      simp only [ldRes] at h
      split at h
      · rename_i ad hp
        split at h
        · rename_i v l hv hl
          cases h
          obtain ⟨us, h1, h2⟩ := ih _ hl
          obtain ⟨p', h3, h4⟩ := ht p _ hp
          obtain ⟨v', h5, h6⟩ := ldT_run hr hv h4
          refine ⟨v' :: us, ?_, h2.cons h6⟩
          have e : a.tmps.getD p undef = p' := by rw [Array.getD_eq_getD_getElem?, h3]; rfl
          obtain ⟨b, o, r', d, lim, rfl, rfl, hm⟩ := ptr_inv h4
          have h5' : (loadVar t ⟨r', d + o, none⟩).run P w = .ok v' w := by simpa [Instr.loadAt, Instr.sureAddr] using h5
          simp [List.mapM_cons, resM, e, asAddr, h5', h1]
        · cases h
      · cases h

theorem putC_args {μ : Mu} {vs us : List Value} (h : LR μ vs us) (n : Nat) (hn : us.length ≤ n) {β : Type} (f : Tr Value → β) :
    ∃ tm, putC vs .nil 0 f = f tm ∧ TR μ tm { tmps := (⟨us⟩ : Array Value) ++ Array.replicate (n - us.length) undef, defers := [] } := by
  obtain ⟨tm, e, hg⟩ := putC_eq vs .nil 0 f
  refine ⟨tm, e, fun t v ht => ?_⟩
  rw [hg t] at ht
  by_cases hlt : t < vs.length
  · rw [if_pos (by omega)] at ht
    obtain ⟨u, hu, hR⟩ := h.get (by simpa using ht)
    refine ⟨u, ?_, hR⟩
    have hl : t < us.length := by rw [← h.1]; exact hlt
    simp only
    rw [Array.getElem?_append_left (by simpa using hl)]
    simpa using hu
  · rw [if_neg (by omega)] at ht
    cases ht

/-- The marks are passed on the way out. -/
theorem leaves_marks {P : Program} {fn : Func} {tmps : Array Value} {R : Ending → World → Prop} {fb : Nat} {μ : Mu} {base : Nat} {H : Heap} : ∀ (rs : List Nat) (w : World), rs.Nodup →
    (∀ r ∈ rs, fb ≤ r ∧ r < w.heap.size ∧ NoMap μ H r ∧ w.heap[r]? = some (.deferred (some []))) → HR μ base H w →
    (∀ w', HR μ base H w' → w'.heap.size = w.heap.size → (∀ q, q < fb → w'.heap[q]? = w.heap[q]?) → w'.os = w.os → w'.tape = w.tape → w'.output = w.output → ∃ v, (results fn tmps).run P w' = .ok v w' ∧ R (.returned v) w') →
    LeavesInM (FR none) 0 P fn tmps R (rs.map mark) .returning w := by
  intro rs
  induction rs with
  | nil => intro w _ _ hr hf; exact hf w hr rfl (fun _ _ => rfl) rfl rfl rfl
  | cons r rs ih =>
    intro w hn hm hr hf
    obtain ⟨hn1, hn2⟩ := List.nodup_cons.1 hn
    obtain ⟨g1, g2, g3, g4⟩ := hm r (by simp)
    refine ⟨by simp, .inl ⟨r, _, rfl, run_takeDeferred g4, ?_⟩⟩
    have hk : ∀ q, q ≠ r → (w.putObj r (.deferred none)).heap[q]? = w.heap[q]? := fun q hq => World.putObj_heap_other hq
    refine ih _ hn2 (fun q hq => ?_) (hr.off g3 World.putObj_size hk) (fun w' h1 h2 h3 h4 h5 h6 => ?_)
    · obtain ⟨k1, k2, k3, k4⟩ := hm q (List.mem_cons_of_mem _ hq)
      exact ⟨k1, by rw [World.putObj_size]; exact k2, k3, by rw [hk q (fun e => hn1 (by rw [← e]; exact hq))]; exact k4⟩
    · exact hf w' h1 (by rw [h2, World.putObj_size]) (fun q hq => by rw [h3 q hq]; exact hk q (by omega)) h4 h5 h6

/-- A call of a function of the program. -/
theorem callA_run {P : Program} {env : Env} {ih : Eval} (hs : SoundC P env false ih) {μ : Mu} {base : Nat} {H H' : Heap} {w : World} (hw : HW H) (hr : HR μ base H w) (hb : base ≤ w.heap.size) (hf : Fresh μ H) (hen : EnvOk env μ H w) {f : FuncId} {vs us : List Value} {v : Value}
    (h : callA P ih H f vs = some (v, H')) (hL : LR μ vs us) :
    (∃ fn, P.funcs[f]? = some fn ∧ fn.body.isSome = true) ∧ Calls P f ⟨us⟩ w fun e w' => ∃ v' μ', e = .returned v' ∧ VR μ' v v' ∧ HW H' ∧ HR μ' base H' w' ∧ Ext μ H w μ' H' w' := by
  unfold callA at h
  split at h
  · cases h
  · rename_i fn hfn
    split at h
    · cases h
    · rename_i c hc
      refine ⟨⟨fn, hfn, by rw [hc]; rfl⟩, ?_⟩
      cases hle : Nat.ble vs.length fn.ntmps <;> rw [hle] at h <;> simp only [cond_true, cond_false] at h
      · cases h
      · have hle' : us.length ≤ fn.ntmps := by rw [← hL.1]; exact Nat.le_of_ble_eq_true hle
        obtain ⟨tm0, e0, ht0⟩ := putC_args hL fn.ntmps hle' (fun tm0 => finA P fn.results.toList (ih c tm0 fn.ntmps H))
        rw [e0] at h
        have key : ∀ (r : Ex) (tm' : Tr Value) (H1 : Heap), (r = .normal ∨ r = .ret) → ih c tm0 fn.ntmps H = some (r, tm', H1) → resA P H1 tm' fn.results.toList = some (v, H') → Calls P f ⟨us⟩ w fun e w' => ∃ v' μ', e = .returned v' ∧ VR μ' v v' ∧ HW H' ∧ HR μ' base H' w' ∧ Ext μ H w μ' H' w' := by
          intro r tm' H1 hrr hih hres
          have hG : Good env w.heap.size μ base H w tm0 fn.ntmps { tmps := (⟨us⟩ : Array Value) ++ Array.replicate (fn.ntmps - us.length) undef, defers := [] } :=
            ⟨hw, hr, hb, ht0, hf, by simp; omega, hen, ⟨[], rfl, List.nodup_nil, fun r hr => by cases hr⟩, Nat.le_refl _⟩
          have hwp := hs c tm0 fn.ntmps H r tm' H1 hih none rfl _ w μ base w.heap.size hG
          refine callsIn_FR.1 (callsIn_of_wp_marks (F := FR none) (n := 0) (args := ⟨us⟩) hfn hc trivial (wpIn_mono hwp ?_) rfl)
          rintro e a' w' ⟨he, μ', hG', hE⟩
          have fin : LeavesInM (FR none) 0 P fn a'.tmps (fun e w' => ∃ v' μ', e = .returned v' ∧ VR μ' v v' ∧ HW H' ∧ HR μ' base H' w' ∧ Ext μ H w μ' H' w') a'.defers .returning w' := by
            obtain ⟨rs, m1, m2, m3⟩ := hG'.sd.marks
            rw [m1]
            refine leaves_marks (fb := w.heap.size) (μ := μ') (base := base) (H := H1) rs w' m2 m3 hG'.hr (fun w2 k1 k2 k3 k4 k5 k6 => ?_)
            have hE2 : Ext μ H w μ' H1 w2 := ⟨hE.next, hE.mu, hE.back, hE.unm, fun q hq hno => by rw [k3 q hq]; exact hE.keep q hq hno, hE.fresh, by rw [k2]; exact hE.size, k4.trans hE.os, k5.trans hE.tape, k6.trans hE.output⟩
            unfold resA at hres
            cases hl : ldRes P H1 tm' fn.results.toList with
            | none => rw [hl] at hres; cases hres
            | some ls =>
              rw [hl] at hres
              obtain ⟨ys, h1, h2⟩ := ldRes_run k1 hG'.ht _ _ hl
              have hmap : (fn.results.mapM (resM a'.tmps)).run P w2 = .ok ⟨ys⟩ w2 := by
                rw [Array.mapM_eq_mapM_toList]
                simp [h1]
              have hrun : (results fn a'.tmps).run P w2 = .ok (if h : (⟨ys⟩ : Array Value).size = 1 then (⟨ys⟩ : Array Value)[0] else .tuple ⟨ys⟩) w2 := by
                rw [results_eq, Sem.run_bind, hmap]
                rfl
              refine ⟨_, hrun, _, μ', rfl, ?_⟩
              match ls, h2, hres with
              | [], h2, hres =>
                cases hres
                have := h2.inv_nil
                subst this
                exact ⟨.tup rfl (fun i x y hx => by simp at hx), hG'.hw, k1, hE2⟩
              | [x], h2, hres =>
                cases hres
                obtain ⟨y, ys', rfl, g1, g2⟩ := h2.inv_cons
                have := g2.inv_nil
                subst this
                exact ⟨g1, hG'.hw, k1, hE2⟩
              | x :: x2 :: r, h2, hres =>
                cases hres
                have hl2 := h2.1
                simp at hl2
                rw [dif_neg (by simp; omega)]
                exact ⟨.tup h2.1 h2.2, hG'.hw, k1, hE2⟩
          rcases hrr with rfl | rfl
          · subst he; exact fin
          · subst he; exact fin
        cases hih : ih c tm0 fn.ntmps H with
        | none => rw [hih] at h; cases h
        | some x =>
          obtain ⟨r, tm', H1⟩ := x
          rw [hih] at h
          cases r with
          | normal => exact key .normal tm' H1 (.inl rfl) hih h
          | ret => exact key .ret tm' H1 (.inr rfl) hih h
          | exit i => cases h

end Go.Proofs.YtkmhbfgkhalaoaaGreatDoor.LM

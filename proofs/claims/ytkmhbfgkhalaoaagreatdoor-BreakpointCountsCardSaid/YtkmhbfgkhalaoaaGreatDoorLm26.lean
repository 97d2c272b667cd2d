/- What holds while a region is run in some order. -/
import Derived.Test.YtkmhbfgkhalaoaaGreatDoorLm25
set_option linter.unusedVariables false
set_option linter.unusedSimpArgs false
set_option linter.unusedSectionVars false
namespace Go.Proofs.YtkmhbfgkhalaoaaGreatDoor.LM
open Go Go.RowKit

theorem opTmps_mem : ∀ (l : List Operand) (t : Tmp), (.tmp t) ∈ l → t ∈ looksL.opTmps l := by
  intro l
  induction l with
  | nil => intro t h; cases h
  | cons x r ih =>
    intro t h
    show t ∈ (match x with | .tmp t => t :: looksL.opTmps r | _ => looksL.opTmps r)
    rcases List.mem_cons.1 h with rfl | g
    · exact List.mem_cons_self
    · cases x <;> first | exact List.mem_cons_of_mem _ (ih t g) | exact ih t g
theorem looksL_ops (ops : List Oper) (o : Oper) (t : Tmp) (h : t ∈ looksL.opTmps o.op.operands.toList) : t ∈ looksL ops o := by
  unfold looksL
  split
  · split
    · split
      · exact List.mem_cons_of_mem _ h
      · exact h
    · exact h
  · exact h
theorem ev_rst {ops : List Oper} {tm : Tr Value} {o : Oper} : ∀ x ∈ o.op.operands, ev (rst tm (looksL ops o)) x = ev tm x := by
  intro x hx
  cases x with
  | tmp t =>
    show (rst tm (looksL ops o)).get t = tm.get t
    rw [rst_get, if_pos (looksL_ops ops o t (opTmps_mem _ t (by simpa using hx)))]
  | _ => rfl
theorem wantedA_rst (ops : List Oper) (tm : Tr Value) (o : Oper) : wantedA ops (rst tm (looksL ops o)) o = wantedA ops tm o := by
  unfold wantedA
  cases hg : o.guard with
  | none => rfl
  | some g =>
    obtain ⟨j, want⟩ := g
    dsimp only
    cases hj : nth ops j with
    | none => rfl
    | some q =>
      dsimp only
      cases hd : q.dst with
      | none => rfl
      | some d =>
        dsimp only
        have : d ∈ looksL ops o := by
          unfold looksL
          rw [hg]
          dsimp only
          rw [hj]
          dsimp only
          rw [hd]
          exact List.mem_cons_self
        rw [rst_get, if_pos this]

theorem newL_shape {X X' : Heap} {cs : List Value} {mk : Nat → Value} {v : Value} (h : newL X cs (fun H' b => some (mk b, H')) = some (v, X')) : ∃ B : Blk, X' = ⟨X.next + 1, X.bl.set X.next B⟩ ∧ B.chain = X.next ∧ B.anc = [] := by
  obtain ⟨c, e, hc⟩ := newL_eq X cs (fun H' b => some (mk b, H'))
  rw [e] at h
  have h' := Option.some.inj h
  cases h'
  exact ⟨_, rfl, rfl, rfl⟩

theorem makes_shape {P : Program} {ih : Ctx} {X X' : Heap} {tm : Tr Value} {o : Oper} {v : Value} (hk : kindA P o = .makes) (h : opA P ih X tm o = some (v, X')) :
    ∃ B : Blk, X' = ⟨X.next + 1, X.bl.set X.next B⟩ ∧ B.chain = X.next ∧ B.anc = [] := by
  unfold kindA at hk
  unfold opA at h
  split at h
  · rename_i c hop
    rw [hop] at hk
    split at hk <;> first | (cases hk; done) | (rename_i h0; cases h0)
  · generalize hop : o.op = op at h hk
    cases op <;> simp only [stepA] at h <;> first
      | (cases hk; done)
      | (cases h; done)
      | skip
    case alloc t =>
      unfold sAlloc at h
      split at h
      · rename_i z cs hz
        split at h
        · generalize Nat.blt 64 (z :: cs).length = bb at h
          cases bb <;> simp only [cond_true, cond_false] at h
          · exact newL_shape h
          · split at h
            · unfold newB at h
              obtain ⟨nx, bl⟩ := X
              dsimp only at h
              rw [fNat_eq, Tr.put_eq] at h
              have h' := Option.some.inj h
              cases h'
              exact ⟨_, rfl, rfl, rfl⟩
            · cases h
        · cases h
      · exact newL_shape h
      · cases h
    case box t x =>
      unfold sBox at h
      split at h
      · split at h
        · exact newL_shape h
        · cases h
      · cases h
    case buildSlice t n ps =>
      unfold sBuildSlice at h
      split at h
      · split at h
        · rename_i z zs hz hzs
          generalize (Nat.ble (Nat.mul n z) 16777216 && Nat.blt n 4294967296 && Nat.beq zs.length z && flats zs) = bb at h
          cases bb <;> simp only [cond_true, cond_false] at h
          · cases h
          · split at h
            · split at h
              · rw [fSp_eq] at h
                exact newL_shape h
              · cases h
            · cases h
        · cases h
      · cases h
    case makeSlice t x y =>
      unfold sMake at h
      split at h
      · split at h
        · rename_i zs i hzs hi
          generalize (Nat.ble _ _ && _ && _ && _ && _) = bb at h
          cases bb <;> simp only [cond_true, cond_false] at h
          · cases h
          · exact newL_shape h
        · cases h
      · cases h
    case convert s d x =>
      unfold sConv at h
      split at h
      · unfold convH at h
        split at h
        · rename_i e0 a0 n0 c0 hs hd hx
          simp only [hs, hd] at hk
          cases hk
        · split at h
          · rw [fL0_eq] at h
            simp only [fNat_eq] at h
            exact newL_shape h
          · cases h
        · rename_i e0 e a n c hs hd hx
          simp only [hs, hd] at hk
          cases hk
        · rename_i h1 h2
          exfalso
          have hsd : P.underlying s = some .string ∧ ∃ e, P.underlying d = some (.slice e) := kind_gen _ _ hk
          obtain ⟨hs, e, hd⟩ := hsd
          simp [convA, hs, hd] at h
      · cases h

def Unl (listed : Array Bool) (i : Nat) : Prop := listed.getD i true = false
theorem Unl.lt {listed : Array Bool} {i : Nat} (h : Unl listed i) : i < listed.size := by
  rcases Nat.lt_or_ge i listed.size with h' | h'
  · exact h'
  · unfold Unl at h
    simp [Array.getD_eq_getD_getElem?, Array.getElem?_eq_none h'] at h
theorem unl_set {listed : Array Bool} {i k : Nat} : Unl (listed.setIfInBounds k true) i ↔ Unl listed i ∧ i ≠ k := by
  unfold Unl
  by_cases e : i = k
  · subst e
    simp only [ne_eq, not_true_eq_false, and_false, iff_false]
    rcases Nat.lt_or_ge i listed.size with h' | h'
    · simp [Array.getD_eq_getD_getElem?, h']
    · simp [Array.getD_eq_getD_getElem?, h']
  · rw [getD_set_ne true (Ne.symm e)]
    simp [e]
theorem listed_not {listed : Array Bool} {p : Nat} (h : listed.getD p false = true) : ¬ Unl listed p := by
  intro hu
  have hlt := hu.lt
  unfold Unl at hu
  simp [Array.getD_eq_getD_getElem?, hlt] at h hu
  rw [h] at hu
  cases hu
theorem not_listed {listed : Array Bool} {p : Nat} (hp : p < listed.size) (h : ¬ Unl listed p) : listed.getD p false = true := by
  unfold Unl at h
  simp [Array.getD_eq_getD_getElem?, hp] at h ⊢
  exact h

inductive EK where
  | skip | quiet | made (b : Nat)
structure Ent where
  i : Nat
  o : Oper
  tm : Tr Value
  v : Value
  k : EK
def Ent.rd (e : Ent) : Rd := ⟨e.i, e.o, e.tm, e.v⟩

/-- What the machine has still to do for an entry. -/
def RunOk (P : Program) (ih : Ctx) (ops : Array Oper) (H0 H : Heap) (μ : Mu) (e : Ent) : Prop :=
  match e.k with
  | .skip => wantedA ops.toList e.tm e.o = some false ∧ e.v = undef
  | .quiet => wantedA ops.toList e.tm e.o = some true ∧ (kindA P e.o = .pure ∨ kindA P e.o = .reads) ∧ opA P ih H e.tm e.o = some (e.v, H)
  | .made b => wantedA ops.toList e.tm e.o = some true ∧ kindA P e.o = .makes ∧ (∃ X B, X.next = b ∧ opA P ih X e.tm e.o = some (e.v, ⟨b + 1, X.bl.set b B⟩) ∧ H.bl.get b = some B) ∧ μ b = none ∧ H0.next ≤ b ∧ b < H.next

structure VI (P : Program) (ih : Ctx) (env : Env) (fb : Nat) (ops : Array Oper) (nt base : Nat) (μ0 : Mu) (H0 : Heap) (w0 : World) (listed : Array Bool) (a : Act) (w : World) (μ : Mu) (E : List Ent) (D : List Nat) (W : List Rd) (tm : Tr Value) (H : Heap) : Prop where
  hw : HW H
  hr : HR μ base H w
  hb : base ≤ w.heap.size
  fr : Fresh μ H
  ext : Ext μ0 H0 w0 μ H w
  ntq : a.tmps.size = nt
  sd : Side env fb μ H w a.defers
  sz : listed.size = ops.size
  ord : Ord ops D
  eo : ∀ e ∈ E, ops[e.i]? = some e.o
  eD : ∀ e ∈ E, e.i ∈ D
  dn : ∀ e ∈ E, ∀ t, e.o.dst = some t → t < nt
  u1 : ∀ i ∈ D, Unl listed i → ∃ e ∈ E, e.i = i
  u2 : ∀ i, i < ops.size → i ∉ D → Unl listed i
  run : ∀ e ∈ E, Unl listed e.i → RunOk P ih ops H0 H μ e
  wat : ∀ e ∈ E, Unl listed e.i → e.k = .quiet → kindA P e.o = .reads → e.rd ∈ W
  dist : ∀ e ∈ E, ∀ e' ∈ E, ∀ b, e.k = .made b → e'.k = .made b → e.i = e'.i
  mlt : ∀ e ∈ E, ∀ b, e.k = .made b → b < H.next
  ov : ∀ e ∈ E, ∀ e' ∈ E, e'.i ∈ predsA e.o → ∀ t, e'.o.dst = some t → e.tm.get t = some e'.v
  tv : ∀ e ∈ E, ∀ t, e.o.dst = some t → tm.get t = some e.v
  opv : ∀ e ∈ E, Unl listed e.i → ∀ t ∈ looksL ops.toList e.o, ∀ v, e.tm.get t = some v → (∃ e' ∈ E, Unl listed e'.i ∧ e'.o.dst = some t ∧ e'.i ∈ predsA e.o) ∨ ∃ v', a.tmps[t]? = some v' ∧ VR μ v v'
  tms : ∀ t v, tm.get t = some v → (∃ e' ∈ E, Unl listed e'.i ∧ e'.o.dst = some t) ∨ ∃ v', a.tmps[t]? = some v' ∧ VR μ v v'

end Go.Proofs.YtkmhbfgkhalaoaaGreatDoor.LM

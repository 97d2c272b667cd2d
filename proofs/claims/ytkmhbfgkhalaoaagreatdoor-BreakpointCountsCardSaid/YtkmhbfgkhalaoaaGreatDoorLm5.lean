/- Operations that compute, read, store or make memory: the evaluator's answer is the machine's. -/
import Derived.Test.YtkmhbfgkhalaoaaGreatDoorLm4
set_option linter.unusedVariables false
set_option linter.unusedSimpArgs false
set_option linter.unusedSectionVars false
namespace Go.Proofs.YtkmhbfgkhalaoaaGreatDoor.LM
open Go Go.RowKit

def TR (μ : Mu) (tm : Tr Value) (a : Act) : Prop := ∀ t v, tm.get t = some v → ∃ v', a.tmps[t]? = some v' ∧ VR μ v v'

theorem TR.mono {μ μ' : Mu} (hm : ∀ b x, μ b = some x → μ' b = some x) {tm : Tr Value} {a : Act} (h : TR μ tm a) : TR μ' tm a := fun t v hv =>
  let ⟨v', h1, h2⟩ := h t v hv; ⟨v', h1, h2.mono hm⟩

theorem flats_eq (l : List Value) : flats l = true → ∀ v ∈ l, flat v = true := by
  induction l with
  | nil => intro _ v hv; cases hv
  | cons x r ih =>
    intro h v hv
    have h' : (match flat x with | true => flats r | false => false) = true := h
    cases hx : flat x <;> rw [hx] at h'
    · cases h'
    · rcases List.mem_cons.1 hv with rfl | hm
      · exact hx
      · exact ih h' v hm
theorem LR.flats {μ : Mu} {l : List Value} (h : flats l = true) : LR μ l l :=
  ⟨rfl, fun i x y hx hy => by rw [hx] at hy; cases hy; exact .flat (flats_eq l h x (List.mem_of_getElem? hx))⟩
theorem cst_eq {μ : Mu} {v : Value} (h : cst v = true) : VR μ v v := by
  cases v with
  | agg c => obtain ⟨l⟩ := c; exact .agg rfl (LR.flats h).2
  | tuple c => obtain ⟨l⟩ := c; exact .tup rfl (LR.flats h).2
  | func f x y =>
    obtain ⟨x⟩ := x
    obtain ⟨y⟩ := y
    have h' : (match plainF f with | true => (match flats x with | true => flats y | false => false) | false => false) = true := h
    cases hf : plainF f <;> rw [hf] at h'
    · cases h'
    · cases hx : flats x <;> rw [hx] at h'
      · cases h'
      · exact .fn hf rfl (LR.flats hx).2 rfl (LR.flats h').2
  | slice a l c => exact .flat h
  | pointer a => exact .flat h
  | _ => exact .flat h

theorem ev_eq {μ : Mu} {tm : Tr Value} {a : Act} (ht : TR μ tm a) {x : Operand} {v : Value} (h : ev tm x = some v) : VR μ v (a.eval x) := by
  cases x with
  | tmp t =>
    obtain ⟨v', h1, h2⟩ := ht t v h
    simp only [Act.eval]
    rw [Array.getD_eq_getD_getElem?, h1]
    exact h2
  | const u =>
    simp only [ev] at h
    split at h
    · rename_i hc; cases h; exact cst_eq hc
    · cases h
  | func f =>
    simp only [ev] at h
    cases h
    exact .fn rfl rfl (LR.nil).2 rfl (LR.nil).2
  | global g => simp [ev] at h

theorem evs_eq {μ : Mu} {tm : Tr Value} {a : Act} (ht : TR μ tm a) : ∀ (l : List Operand) (vs : List Value), evs tm l = some vs → LR μ vs (l.map a.eval) := by
  intro l
  induction l with
  | nil => intro vs h; cases h; exact LR.nil
  | cons o r ih =>
    intro vs h
    have h' : (match ev tm o with
      | some v => match evs tm r with
        | some vs => some (v :: vs)
        | none => none
      | none => none) = some vs := h
    split at h'
    · rename_i v hv
      split at h'
      · rename_i us hus
        cases h'
        exact (ih us hus).cons (ev_eq ht hv)
      · cases h'
    · cases h'

/-- What an operation does, as the evaluator says. -/
def OpOk (P : Program) (o : Oper) (a : Act) (w : World) (μ : Mu) (base : Nat) (H : Heap) (v : Value) (H' : Heap) : Prop :=
  ∃ v' w' μ', ((execOp a.eval o).run P w = .ok (.value v') w' ∨ ((execOp a.eval o).run P w = .ok .skip w' ∧ v' = undef)) ∧ VR μ' v v' ∧ HW H' ∧ HR μ' base H' w' ∧ Ext μ H w μ' H' w'

theorem OpOk.pure {P : Program} {o : Oper} {a : Act} {w : World} {μ : Mu} {base : Nat} {H : Heap} {v v' : Value} (hw : HW H) (hr : HR μ base H w)
    (h : (execOp a.eval o).run P w = .ok (.value v') w) (hv : VR μ v v') : OpOk P o a w μ base H v H := ⟨v', w, μ, .inl h, hv, hw, hr, Ext.refl _ _ _⟩

theorem bool_inv {μ : Mu} {b : Bool} {v : Value} (h : VR μ (.bool b) v) : v = .bool b := by cases h; rfl
theorem int_inv {μ : Mu} {k : IntKind} {n : Int} {v : Value} (h : VR μ (.int k n) v) : v = .int k n := by cases h; rfl
theorem string_inv {μ : Mu} {s : ByteArray} {v : Value} (h : VR μ (.string s) v) : v = .string s := by cases h; rfl

section
variable {P : Program} {o : Oper} {a : Act} {w : World} {μ : Mu} {base : Nat} {H H' : Heap} {tm : Tr Value} {v : Value}
  (hw : HW H) (hr : HR μ base H w) (hb : base ≤ w.heap.size) (ht : TR μ tm a) (hf : Free μ H H')
include hw hr hb ht hf

theorem sMove_ok {x : Operand} (ho : o.op = .move x ∨ o.op = .assign x) (h : sMove H tm x = some (v, H')) : OpOk P o a w μ base H v H' := by
  unfold sMove at h
  split at h
  · rename_i u hu
    cases h
    refine .pure hw hr ?_ (ev_eq ht hu)
    rcases ho with ho | ho <;> simp [execOp, ho]
  · cases h

end
end Go.Proofs.YtkmhbfgkhalaoaaGreatDoor.LM

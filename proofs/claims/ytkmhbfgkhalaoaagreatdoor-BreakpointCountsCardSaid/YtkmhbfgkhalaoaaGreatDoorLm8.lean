/- Binary and unary operations. -/
import Derived.Test.YtkmhbfgkhalaoaaGreatDoorLm7
set_option linter.unusedVariables false
set_option linter.unusedSimpArgs false
set_option linter.unusedSectionVars false
namespace Go.Proofs.YtkmhbfgkhalaoaaGreatDoor.LM
open Go Go.RowKit

theorem cmp1 (a b : Int) : ieq a b = (a == b) := by rw [Bool.eq_iff_iff, ieq_eq, beq_iff_eq]
theorem cmp2 (a b : Int) : ilt a b = decide (a < b) := by rw [Bool.eq_iff_iff, ilt_eq, decide_eq_true_iff]

theorem binI_run {P : Program} (w : World) (t : TypeId) {op : BinOp} {k : IntKind} {a b : Int} {v : Value} (hs : op ≠ .shl ∧ op ≠ .shr) (h : binI op k a b = some v) : (binOp op t (.int k a) (.int k b)).run P w = .ok v w ∧ flat v = true := by
  have hdiv : ieq b 0 = false → b ≠ 0 := fun h e => by subst e; exact absurd h (by decide)
  cases op
  all_goals try (exact absurd rfl hs.1)
  all_goals try (exact absurd rfl hs.2)
  all_goals simp only [binI] at h
  case add => rw [wrp_eq, addI_eq] at h; cases h; exact ⟨by simp [binOp, Op.intArith], rfl⟩
  case sub => rw [wrp_eq, subI_eq] at h; cases h; exact ⟨by simp [binOp, Op.intArith], rfl⟩
  case mul => rw [wrp_eq, mulI_eq] at h; cases h; exact ⟨by simp [binOp, Op.intArith], rfl⟩
  case quo =>
    cases hb : ieq b 0 <;> rw [hb] at h <;> simp only [cond_true, cond_false] at h
    · rw [wrp_eq, divI_eq] at h; cases h; exact ⟨by simp [binOp, Op.intDiv, hdiv hb], rfl⟩
    · cases h
  case rem =>
    cases hb : ieq b 0 <;> rw [hb] at h <;> simp only [cond_true, cond_false] at h
    · rw [fInt_eq, modI_eq] at h; cases h; exact ⟨by simp [binOp, Op.intDiv, hdiv hb], rfl⟩
    · cases h
  case and => rw [fInt_eq] at h; cases h; exact ⟨by simp [binOp, Op.intBits], rfl⟩
  case or => rw [fInt_eq] at h; cases h; exact ⟨by simp [binOp, Op.intBits], rfl⟩
  case xor => rw [fInt_eq] at h; cases h; exact ⟨by simp [binOp, Op.intBits], rfl⟩
  case andNot => rw [fInt_eq] at h; cases h; exact ⟨by simp [binOp, Op.intBits], rfl⟩
  case eql => rw [fBool_eq, cmp1] at h; cases h; exact ⟨by simp [binOp, Op.intCmp], rfl⟩
  case neq => rw [fBool_eq, cmp1] at h; cases h; exact ⟨by simp [binOp, Op.intCmp, bne], rfl⟩
  case lss => rw [fBool_eq, cmp2] at h; cases h; exact ⟨by simp [binOp, Op.intCmp], rfl⟩
  case leq => rw [fBool_eq, cmp2] at h; cases h; have e : (!decide (b < a)) = decide (a ≤ b) := by rw [Bool.eq_iff_iff]; simp [Int.not_lt]
              exact ⟨by rw [e]; simp [binOp, Op.intCmp], rfl⟩
  case gtr => rw [fBool_eq, cmp2] at h; cases h; exact ⟨by simp [binOp, Op.intCmp], rfl⟩
  case geq => rw [fBool_eq, cmp2] at h; cases h; have e : (!decide (a < b)) = decide (b ≤ a) := by rw [Bool.eq_iff_iff]; simp [Int.not_lt]
              exact ⟨by rw [e]; simp [binOp, Op.intCmp], rfl⟩

theorem ptr_none {μ : Mu} {v : Value} (h : VR μ (.pointer none) v) : v = .pointer none := by cases h; rfl
theorem ptr_any {μ : Mu} {a : Option Addr} {v : Value} (h : VR μ (.pointer a) v) : ∃ a', v = .pointer a' ∧ a'.isNone = a.isNone := by
  cases a with
  | none => exact ⟨none, ptr_none h, rfl⟩
  | some a => obtain ⟨b, o, r, d, lim, rfl, rfl, hm⟩ := ptr_inv h; exact ⟨_, rfl, rfl⟩

theorem eq_ptr {P : Program} (w : World) (d : Nat) {t e : TypeId} (hu : P.underlying t = some (.pointer e)) (a : Option Addr) : (Op.equalIn (d + 1) t (.pointer a) (.pointer none)).run P w = .ok a.isNone w := by
  cases a with
  | none => simp only [Op.equalIn, Sem.run_bind, run_underlying hu, Result.andThen_ok]; rfl
  | some q => simp only [Op.equalIn, Sem.run_bind, run_underlying hu, Result.andThen_ok]; rfl

theorem binA_run {P : Program} {μ : Mu} (w : World) {op : BinOp} {t : TypeId} {x y x' y' v : Value} (X Y : Operand) (h : binA P op t x y = some v) (hx : VR μ x x') (hy : VR μ y y') :
    (eqGuard op t X Y x' y').run P w = .ok () w ∧ (binOp op t x' y').run P w = .ok v w ∧ flat v = true := by
  have h0 := h
  unfold binA at h
  split at h
  · rename_i k a k' b
    rw [int_inv hx, int_inv hy]
    refine ⟨by cases op <;> simp [eqGuard], ?_⟩
    split at h
    · cases hb : ilt b 0 <;> rw [hb] at h <;> simp only [cond_true, cond_false] at h
      · rw [fInt_eq] at h
        cases h
        have hb' : ¬ b < 0 := fun e => by rw [ilt_eq.2 e] at hb; cases hb
        exact ⟨by simp [binOp, Op.shift, hb'], rfl⟩
      · cases h
    · cases hb : ilt b 0 <;> rw [hb] at h <;> simp only [cond_true, cond_false] at h
      · rw [fInt_eq] at h
        cases h
        have hb' : ¬ b < 0 := fun e => by rw [ilt_eq.2 e] at hb; cases hb
        exact ⟨by simp [binOp, Op.shift, hb'], rfl⟩
      · cases h
    · rename_i h1 h2
      cases hk : keq k k' <;> rw [hk] at h <;> simp only [cond_true, cond_false] at h
      · cases h
      · rw [← keq_eq hk]
        exact binI_run w t ⟨h1, h2⟩ h
  · rename_i a b
    rw [string_inv hx, string_inv hy]
    refine ⟨by cases op <;> simp [eqGuard], ?_⟩
    split at h
    · rw [fBool_eq, beqB_eq] at h; cases h
      exact ⟨by simp [binOp_string_eql, ByteArray.toList_eq], rfl⟩
    · rw [fBool_eq, beqB_eq] at h; cases h
      exact ⟨by simp [binOp_string_neq, ByteArray.toList_eq], rfl⟩
    · cases hs : Nat.ble (a.data.toList.length + b.data.toList.length) 9223372036854775807 <;> rw [hs] at h <;> simp only [cond_true, cond_false] at h
      · cases h
      · rw [fBs_eq] at h
        cases h
        have hl := Nat.le_of_ble_eq_true hs
        refine ⟨?_, rfl⟩
        rw [binOp_string_add, run_string_add_sum (P := P) (w := w) a b (by have e1 : a.size = a.data.toList.length := Array.length_toList.symm; have e2 : b.size = b.data.toList.length := Array.length_toList.symm; rw [e1, e2]; exact hl)]
        congr 2
    · cases h
  · rename_i a b
    rw [bool_inv hx, bool_inv hy]
    refine ⟨by cases op <;> simp [eqGuard], ?_⟩
    split at h
    · rename_i hu
      have heq : (Op.equal t (.bool a) (.bool b)).run P w = .ok (a == b) w := run_equalIn_bool w 9999 t a b hu
      split at h
      · rw [fBool_eq] at h; cases h
        exact ⟨by simp [binOp, heq], rfl⟩
      · rw [fBool_eq] at h; cases h
        exact ⟨by simp [binOp, heq], rfl⟩
      · cases h
    · cases h
  · rename_i a b
    split at h
    · split at h
      · cases h
      · rename_i hg
        split at h
        · rename_i c hc
          rw [fBool_eq] at h; cases h
          have := eqT_run w 10000 t _ _ _ _ c hc hx hy
          obtain ⟨us, rfl, _⟩ := agg_inv hx
          obtain ⟨vs, rfl, _⟩ := agg_inv hy
          exact ⟨run_eqGuard_agg w _ t X Y _ _ hg, by rw [run_eql_struct, this]; rfl, rfl⟩
        · cases h
    · split at h
      · cases h
      · rename_i hg
        split at h
        · rename_i c hc
          rw [fBool_eq] at h; cases h
          have := eqT_run w 10000 t _ _ _ _ c hc hx hy
          obtain ⟨us, rfl, _⟩ := agg_inv hx
          obtain ⟨vs, rfl, _⟩ := agg_inv hy
          exact ⟨run_eqGuard_agg w _ t X Y _ _ hg, by rw [run_neq_struct, this]; rfl, rfl⟩
        · cases h
    · cases h
  · rename_i a
    rw [ptr_none hy]
    obtain ⟨a', rfl, ha⟩ := ptr_any hx
    refine ⟨by cases op <;> simp [eqGuard], ?_⟩
    split at h
    · rename_i e hu
      have heq : (Op.equal t (.pointer a') (.pointer none)).run P w = .ok a.isNone w := by rw [← ha]; exact eq_ptr w 9999 hu a'
      split at h
      · rw [fBool_eq] at h; cases h
        exact ⟨by simp [binOp, heq], rfl⟩
      · rw [fBool_eq] at h; cases h
        refine ⟨?_, rfl⟩
        have e2 : a.isSome = !a.isNone := by cases a <;> rfl
        rw [e2]
        simp only [binOp, Sem.run_bind, heq, Result.andThen_ok, Sem.run_pure]
      · cases h
    · cases h
  · cases h

theorem unA_run {P : Program} {μ : Mu} (w : World) {op : UnOp} {x x' v : Value} (h : unA op x = some v) (hx : VR μ x x') : (Op.unary op x').run P w = .ok v w ∧ flat v = true := by
  unfold unA at h
  split at h
  · rw [fBool_eq] at h; cases h; rw [bool_inv hx]; exact ⟨by simp [Op.unary], rfl⟩
  · rw [fInt_eq] at h; cases h; rw [int_inv hx]; exact ⟨by simp [Op.unary, Op.intArith], rfl⟩
  · rw [fInt_eq] at h; cases h; rw [int_inv hx]; exact ⟨by simp [Op.unary, Op.intBits], rfl⟩
  · cases h

section
variable {P : Program} {o : Oper} {a : Act} {w : World} {μ : Mu} {base : Nat} {H H' : Heap} {tm : Tr Value} {v : Value}
  (hw : HW H) (hr : HR μ base H w) (hb : base ≤ w.heap.size) (ht : TR μ tm a) (hf : Free μ H H')
include hw hr hb ht hf

theorem sBin_ok {op : BinOp} {t yt : TypeId} {x y : Operand} (ho : o.op = .binOp op t x y yt) (h : sBin P H tm op t x y = some (v, H')) : OpOk P o a w μ base H v H' := by
  unfold sBin at h
  split at h
  · rename_i p q hp hq
    split at h
    · rename_i u hu
      cases h
      obtain ⟨h1, h2, h3⟩ := binA_run w x y hu (ev_eq ht hp) (ev_eq ht hq)
      exact .pure hw hr (by simp [execOp, ho, h1, h2]) (.flat h3)
    · cases h
  · cases h

theorem sUn_ok {op : UnOp} {t : TypeId} {x : Operand} (ho : o.op = .unOp op t x) (h : sUn P H tm op x = some (v, H')) : OpOk P o a w μ base H v H' := by
  unfold sUn at h
  split at h
  · rename_i p hp
    split at h
    · rename_i u hu
      cases h
      obtain ⟨h1, h2⟩ := unA_run (P := P) w hu (ev_eq ht hp)
      exact .pure hw hr (by simp [execOp, ho, h1]) (.flat h2)
    · cases h
  · cases h

end
end Go.Proofs.YtkmhbfgkhalaoaaGreatDoor.LM

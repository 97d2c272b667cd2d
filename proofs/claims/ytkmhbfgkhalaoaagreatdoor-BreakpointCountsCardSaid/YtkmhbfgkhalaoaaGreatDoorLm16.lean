/- Builtins, and every operation that is no call of a function. -/
import Derived.Test.YtkmhbfgkhalaoaaGreatDoorLm15
set_option linter.unusedVariables false
set_option linter.unusedSimpArgs false
set_option linter.unusedSectionVars false
namespace Go.Proofs.YtkmhbfgkhalaoaaGreatDoor.LM
open Go Go.RowKit

theorem run_builtin {P : Program} (w : World) (ρ : Operand → Value) (o : Oper) {b : Builtin} {args : Array Operand} {ts : Array TypeId} (ho : o.op = .call ⟨.builtin b, args, ts⟩) :
    ∃ cs, (execOp ρ o).run P w = (builtin b ts o.type cs (args.map ρ)).run P w := by
  simp only [execOp, ho, resolve, invoke, Sem.run_bind, Sem.run_pure, Result.andThen_ok]
  exact ⟨_, rfl⟩

theorem max_case {n m : Int} : (bif ilt n m then m else n) = if m > n then m else n := by
  cases h : ilt n m
  · have : ¬ n < m := fun e => by rw [ilt_eq.2 e] at h; cases h
    rw [cond_false, if_neg this]
  · rw [cond_true, if_pos (ilt_eq.1 h)]
theorem min_case {n m : Int} : (bif ilt m n then m else n) = if m < n then m else n := by
  cases h : ilt m n
  · have : ¬ m < n := fun e => by rw [ilt_eq.2 e] at h; cases h
    rw [cond_false, if_neg this]
  · rw [cond_true, if_pos (ilt_eq.1 h)]

section
variable {P : Program} {o : Oper} {a : Act} {w : World} {μ : Mu} {base : Nat} {H H' : Heap} {tm : Tr Value} {v : Value}
  (hw : HW H) (hr : HR μ base H w) (hb : base ≤ w.heap.size) (ht : TR μ tm a) (hf : Free μ H H')
include hw hr hb ht hf

theorem sBuiltin_ok {b : Builtin} {args : Array Operand} {ts : Array TypeId} (ho : o.op = .call ⟨.builtin b, args, ts⟩) {vs : List Value} (hvs : evs tm args.toList = some vs) (h : sBuiltin P H b vs ts = some (v, H')) : OpOk P o a w μ base H v H' := by
  have hL := evs_eq ht _ _ hvs
  have hargs : args.map a.eval = ⟨args.toList.map a.eval⟩ := by apply Array.ext'; simp
  obtain ⟨cs, hrun⟩ := run_builtin (P := P) w a.eval o ho
  rw [hargs] at hrun
  generalize args.toList.map a.eval = us at hL hrun
  unfold sBuiltin at h
  split at h
  · -- len
    split at h
    · rename_i x t hts
      obtain ⟨y, ys, rfl, hx, hy⟩ := hL.inv_cons
      have := hy.inv_nil
      subst this
      split at h
      · rename_i e aa n c hu
        cases h
        have hlen : ∃ A c', y = .slice A n c' := by
          cases aa with
          | none => obtain ⟨rfl, ⟨_, rfl⟩ | ⟨_, A, c', rfl⟩⟩ := sl0_inv hx; exact ⟨_, _, rfl⟩; exact ⟨_, _, rfl⟩
          | some q => obtain ⟨b, oo, r, d, lim, c', rfl, rfl, _⟩ := sl_inv hx; exact ⟨_, _, rfl⟩
        obtain ⟨A, c', rfl⟩ := hlen
        exact .pure hw hr (by rw [hrun]; simp [builtin, Builtin.len_, hts, run_underlying hu, goInt]) (.flat rfl)
      · rename_i s hu
        rw [fNat_eq] at h
        cases h
        rw [string_inv hx] at hrun
        have e : s.data.toList.length = s.size := Array.length_toList
        rw [e]
        exact .pure hw hr (by rw [hrun]; simp [builtin, Builtin.len_, hts, run_underlying hu, goInt]) (.flat rfl)
      · rename_i n e hu
        rw [fNat_eq] at h
        cases h
        exact .pure hw hr (by rw [hrun]; simp [builtin, Builtin.len_, hts, run_underlying hu, goInt]) (.flat rfl)
      · cases h
    · cases h
  · -- append
    split at h
    · rename_i s x t t' hts hts'
      obtain ⟨y, ys, rfl, hs, hy⟩ := hL.inv_cons
      obtain ⟨z, zs, rfl, hx, hz⟩ := hy.inv_cons
      have := hz.inv_nil
      subst this
      have key : ∀ {e : TypeId} {d : TypeDesc}, P.underlying t = some (.slice e) → P.underlying t' = some d → ((∃ e', d = .slice e') ∨ d = .string) → appA P H e s x = some (v, H') → OpOk P o a w μ base H v H' := by
        intro e d hu hu' hd h
        obtain ⟨v', w', μ', h1, h2, h3, h4, h5⟩ := appA_run (ty := o.type) hw hr hb hf hu hu' hd h hs hx
        refine ⟨v', w', μ', .inl ?_, h2, h3, h4, h5⟩
        have e1 : Builtin.append_ ts o.type ⟨[y, z]⟩ = Builtin.append_ #[t, t'] o.type #[y, z] := by
          unfold Builtin.append_
          rw [hts, hts']
          rfl
        rw [hrun]
        show ((do pure (Next.value (← Builtin.append_ ts o.type ⟨[y, z]⟩)) : Sem Next)).run P w = _
        rw [e1]
        simp [h1]
      split at h
      · rename_i e e' hu hu'
        exact key hu hu' (.inl ⟨_, rfl⟩) h
      · rename_i e hu hu'
        exact key hu hu' (.inr rfl) h
      · cases h
    · cases h
  · -- max
    split at h
    · rename_i k n k' m
      dsimp only at h
      rw [fInt_eq] at h
      cases h
      obtain ⟨y, ys, rfl, h1, hy⟩ := hL.inv_cons
      obtain ⟨z, zs, rfl, h2, hz⟩ := hy.inv_cons
      have := hz.inv_nil
      subst this
      rw [int_inv h1, int_inv h2] at hrun
      exact .pure hw hr (by rw [hrun, max_case]; simp only [builtin, Sem.run_bind]; rw [run_max_int2]; rfl) (.flat rfl)
    · rename_i k n k' m k'' l
      dsimp only at h
      rw [fInt_eq] at h
      cases h
      obtain ⟨y, ys, rfl, h1, hy⟩ := hL.inv_cons
      obtain ⟨z, zs, rfl, h2, hz⟩ := hy.inv_cons
      obtain ⟨q, qs, rfl, h3, hq⟩ := hz.inv_cons
      have := hq.inv_nil
      subst this
      rw [int_inv h1, int_inv h2, int_inv h3] at hrun
      exact .pure hw hr (by rw [hrun, max_case, max_case]; simp only [builtin, Sem.run_bind]; rw [run_max_int3]; rfl) (.flat rfl)
    · cases h
  · -- min
    split at h
    · rename_i k n k' m
      dsimp only at h
      rw [fInt_eq] at h
      cases h
      obtain ⟨y, ys, rfl, h1, hy⟩ := hL.inv_cons
      obtain ⟨z, zs, rfl, h2, hz⟩ := hy.inv_cons
      have := hz.inv_nil
      subst this
      rw [int_inv h1, int_inv h2] at hrun
      exact .pure hw hr (by rw [hrun, min_case]; simp only [builtin, Sem.run_bind]; rw [run_min_int2]; rfl) (.flat rfl)
    · rename_i k n k' m k'' l
      dsimp only at h
      rw [fInt_eq] at h
      cases h
      obtain ⟨y, ys, rfl, h1, hy⟩ := hL.inv_cons
      obtain ⟨z, zs, rfl, h2, hz⟩ := hy.inv_cons
      obtain ⟨q, qs, rfl, h3, hq⟩ := hz.inv_cons
      have := hq.inv_nil
      subst this
      rw [int_inv h1, int_inv h2, int_inv h3] at hrun
      exact .pure hw hr (by rw [hrun, min_case, min_case]; simp only [builtin, Sem.run_bind]; rw [run_min_int3]; rfl) (.flat rfl)
    · cases h
  · -- copy
    split at h
    · rename_i ad n c x t hts
      obtain ⟨y, ys, rfl, hs, hy⟩ := hL.inv_cons
      obtain ⟨z, zs, rfl, hx, hz⟩ := hy.inv_cons
      have := hz.inv_nil
      subst this
      split at h
      · rename_i e m hu hm
        split at h
        · rename_i sz hsz
          rw [fNat_eq] at h
          split at h
          · rename_i cs' hcs
            split at h
            · rename_i H1 hwr
              cases h
              obtain ⟨b, oo, r, d, lim, c', rfl, rfl, hmu, _⟩ := sl_inv hs
              obtain ⟨news, hLn, hfn⟩ := firstA_run (P := P) hr hcs hx
              have hlen := lenA_run (P := P) w hm hx
              obtain ⟨g1, g2, g3, g4, g5, g6⟩ := wr_row hw hr hwr hmu hLn
              have hst := run_storeCells_cells (P := P) r (d + oo) news 0 w (fun j hj => (g5 j hj).1) (fun j hj => (g5 j hj).2) g6
              refine ⟨_, _, μ, .inl ?_, .flat rfl, g1, g2, g3⟩
              rw [hrun]
              have hmin : Nat.min m n = min m n := rfl
              simp [builtin, Builtin.copy_, hts, run_underlying hu, hlen, sizeOf_run w hsz, hmin, hfn w rfl, hst, goInt]
            · cases h
          · cases h
        · cases h
      · cases h
    · cases h
  · cases h

theorem stepA_ok (h : stepA P H tm o.op = some (v, H')) : OpOk P o a w μ base H v H' := by
  generalize hop : o.op = op at h
  cases op <;> simp only [stepA] at h <;> first
    | exact absurd h (by simp)
    | exact sMove_ok hw hr hb ht hf (.inl hop) h
    | exact sMove_ok hw hr hb ht hf (.inr hop) h
    | exact sPick_ok hw hr hb ht hf hop h
    | exact sAlloc_ok hw hr hb ht hf hop h
    | exact sBox_ok hw hr hb ht hf hop h
    | exact sBuild_ok hw hr hb ht hf hop h
    | exact sBuildSlice_ok hw hr hb ht hf hop h
    | exact sLoad_ok hw hr hb ht hf hop h
    | exact sStore_ok hw hr hb ht hf hop h
    | exact sNil_ok hw hr hb ht hf hop h
    | exact sBin_ok hw hr hb ht hf hop h
    | exact sUn_ok hw hr hb ht hf hop h
    | exact sConv_ok hw hr hb ht hf hop h
    | exact sMake_ok hw hr hb ht hf hop h
    | exact sSlice_ok hw hr hb ht hf hop h
    | exact sFieldAddr_ok hw hr hb ht hf hop h
    | exact sField_ok hw hr hb ht hf hop h
    | exact sIndexAddr_ok hw hr hb ht hf hop h
    | exact sIndex_ok hw hr hb ht hf hop h
    | exact sExtract_ok hw hr hb ht hf hop h
    | exact sFunc_ok hw hr hb ht hf hop h

end
end Go.Proofs.YtkmhbfgkhalaoaaGreatDoor.LM

/- Operations: what computes, reads, stores or makes memory. -/
import Derived.Test.YtkmhbfgkhalaoaaGreatDoorLm5
set_option linter.unusedVariables false
set_option linter.unusedSimpArgs false
set_option linter.unusedSectionVars false
namespace Go.Proofs.YtkmhbfgkhalaoaaGreatDoor.LM
open Go Go.RowKit

theorem cells_of (v : Value) : v.cells = ⟨cellsOf v⟩ := by cases v <;> rfl
theorem VR.cells {μ : Mu} {v u : Value} (h : VR μ v u) : LR μ (cellsOf v) (cellsOf u) := by
  cases h with
  | agg hn hs => exact ⟨hn, hs⟩
  | flat h => cases v with
    | agg c => exact absurd h Bool.false_ne_true
    | _ => exact LR.nil.cons (.flat h)
  | ptr h => exact LR.nil.cons (.ptr h)
  | sl h1 h2 h3 => exact LR.nil.cons (.sl h1 h2 h3)
  | emp => exact LR.nil.cons .emp
  | tup h1 h2 => exact LR.nil.cons (.tup h1 h2)
  | fn h0 h1 h2 h3 h4 => exact LR.nil.cons (.fn h0 h1 h2 h3 h4)
  | yl h => exact LR.nil.cons (.yl h)
theorem one_of {μ : Mu} {xs ys : List Value} (h : LR μ xs ys) (h1 : one xs = true) : ∀ v ∈ ys, v.oneCell' = true := by
  intro v hv
  obtain ⟨j, hj⟩ := List.getElem?_of_mem hv
  have hlt : j < xs.length := by rw [h.1]; exact (List.getElem?_eq_some_iff.1 hj).1
  rw [(h.2 j xs[j] v (List.getElem?_eq_getElem hlt) hj).one]
  exact one_eq xs h1 _ (List.getElem_mem hlt)

theorem zero_run {P : Program} {t : TypeId} {cs : List Value} (w : World) (h : zeroP P t = some cs) : ∃ z, (zeroValue t).run P w = .ok z w ∧ cellsOf z = cs := by
  unfold zeroP at h
  split at h
  · rename_i i hi
    split at h
    · rename_i z hz
      cases h
      exact ⟨z, by simp [zeroValue, typeInfo, hi, hz], rfl⟩
    · cases h
  · cases h

theorem newL_eq {β : Type} (H : Heap) (cs : List Value) (f : Heap → Nat → β) : ∃ c, newL H cs f = f ⟨H.next + 1, H.bl.set H.next ⟨cs.length, .bool false, c, H.next, false, []⟩⟩ H.next ∧
    ∀ i v, cs[i]? = some v → (⟨cs.length, .bool false, c, H.next, false, []⟩ : Blk).cell i = v := by
  obtain ⟨c, e, h⟩ := putC_eq cs .nil 0 (fun c => newB H cs.length (.bool false) c f)
  refine ⟨c, ?_, fun i v hv => ?_⟩
  · unfold newL
    rw [e]
    obtain ⟨nx, bl⟩ := H
    simp only [newB, fNat_eq, Tr.put_eq]
  · have hlt : i < cs.length := (List.getElem?_eq_some_iff.1 hv).1
    have := h i
    rw [if_pos (by omega)] at this
    simp only [Blk.cell, this, Nat.sub_zero, hv]

theorem keq_eq {k k' : IntKind} (h : keq k k' = true) : k = k' := by cases k <;> cases k' <;> first | rfl | exact absurd h Bool.false_ne_true
theorem keq_refl (k : IntKind) (h : k = .i64 ∨ k = .u8) : keq k k = true := by rcases h with rfl | rfl <;> rfl
theorem ieq_eq {a b : Int} : ieq a b = true ↔ a = b := by
  cases a <;> cases b <;> simp only [ieq]
  · exact ⟨fun h => by rw [Nat.eq_of_beq_eq_true h], fun h => by cases h; exact Nat.beq_refl _⟩
  · exact ⟨fun h => absurd h Bool.false_ne_true, fun h => by cases h⟩
  · exact ⟨fun h => absurd h Bool.false_ne_true, fun h => by cases h⟩
  · exact ⟨fun h => by rw [Nat.eq_of_beq_eq_true h], fun h => by cases h; exact Nat.beq_refl _⟩
theorem ilt_eq {a b : Int} : ilt a b = true ↔ a < b := by
  cases a <;> cases b <;> simp only [ilt, Nat.blt_eq]
  · rename_i m n; show m < n ↔ (m : Int) < (n : Int); omega
  · rename_i m n; simp; show Int.negSucc n ≤ (m : Int); omega
  · rename_i m n; simp; show Int.negSucc m < (n : Int); omega
  · rename_i m n; omega

theorem alleq_cons (z x : Value) (r : List Value) : alleq z (x :: r) = (match z, x with
    | .int k a, .int k' b => match keq k k' && ieq a b with | true => alleq z r | false => false
    | .bool a, .bool b => match a == b with | true => alleq z r | false => false
    | _, _ => false) := rfl
theorem alleq_eq (z : Value) (l : List Value) : alleq z l = true → ∀ v ∈ l, v = z := by
  induction l with
  | nil => intro _ v hv; cases hv
  | cons x r ih =>
    intro h v hv
    have hx : x = z ∧ alleq z r = true := by
      clear ih hv
      rw [alleq_cons] at h
      split at h
      · rename_i k a k' b
        split at h
        · rename_i hk
          simp only [Bool.and_eq_true] at hk
          exact ⟨by rw [keq_eq hk.1, ieq_eq.1 hk.2], h⟩
        · cases h
      · rename_i a b
        split at h
        · rename_i hk; exact ⟨by rw [eq_of_beq hk], h⟩
        · cases h
      · cases h
    rcases List.mem_cons.1 hv with rfl | hm
    · exact hx.1
    · exact ih hx.2 v hm

section
variable {P : Program} {o : Oper} {a : Act} {w : World} {μ : Mu} {base : Nat} {H H' : Heap} {tm : Tr Value} {v : Value}
  (hw : HW H) (hr : HR μ base H w) (hb : base ≤ w.heap.size) (ht : TR μ tm a) (hf : Free μ H H')
include hw hr hb hf

/-- A new block of a list of cells. -/
theorem newL_ok {cs ds : List Value} {t : TypeId} {mk : Nat → Value} (hL : LR μ cs ds) (h1 : one cs = true) (h : newL H cs (fun H' b => some (mk b, H')) = some (v, H')) :
    v = mk H.next ∧ ∃ μ', μ' H.next = some (w.heap.size, 0, ds.length) ∧ HW H' ∧ HR μ' base H' (w.alloc (.cells ⟨ds⟩ t)) ∧ Ext μ H w μ' H' (w.alloc (.cells ⟨ds⟩ t)) := by
  obtain ⟨c, e, hc⟩ := newL_eq H cs (fun H' b => some (mk b, H'))
  rw [e] at h
  have h' := Option.some.inj h
  cases h'
  refine ⟨rfl, upd μ H.next (w.heap.size, 0, ds.length), by unfold upd; rw [if_pos rfl], ?_⟩
  have := new_block (t := t) (n := cs.length) (z := .bool false) (c := c) (cs := ⟨ds⟩) hw hr hb (hf _ (Nat.le_refl _) (Nat.lt_succ_self _)) (by rw [hL.1]; exact Nat.le_refl _) (fun i hi => by
    have hx := List.getElem?_eq_getElem hi
    rw [hc i _ hx]
    obtain ⟨y, hy, hR⟩ := hL.get hx
    exact ⟨one_eq cs h1 _ (List.getElem_mem hi), y, by simpa using hy, hR⟩)
  exact this

include ht

theorem sPick_ok {c x y : Operand} (ho : o.op = .pick c x y) (h : sPick P H tm c x y = some (v, H')) : OpOk P o a w μ base H v H' := by
  unfold sPick at h
  split at h
  · rename_i hc
    have hb := bool_inv (ev_eq ht hc)
    split at h
    · rename_i u hu
      cases h
      exact .pure hw hr (by simp [execOp, ho, hb, asBool]) (ev_eq ht hu)
    · cases h
  · rename_i hc
    have hb := bool_inv (ev_eq ht hc)
    split at h
    · rename_i u hu
      cases h
      exact .pure hw hr (by simp [execOp, ho, hb, asBool]) (ev_eq ht hu)
    · cases h
  · cases h

theorem sLoad_ok {t : TypeId} {x : Operand} (ho : o.op = .load t x) (h : sLoad P H tm t x = some (v, H')) : OpOk P o a w μ base H v H' := by
  unfold sLoad at h
  split at h
  · rename_i ad hx
    split at h
    · rename_i u hu
      cases h
      obtain ⟨v', h1, h2⟩ := ldT_run hr hu (ev_eq ht hx)
      exact .pure hw hr (by simp [execOp, ho, h1]) h2
    · cases h
  · cases h

theorem stT_run {t : TypeId} {ad : Addr} {u p q : Value} (h : stT P H t ad u = some H') (hp : VR μ (.pointer (some ad)) p) (hu : VR μ u q) :
    ∃ w', (Instr.storeAt t p q).run P w = .ok () w' ∧ HW H' ∧ HR μ base H' w' ∧ Ext μ H w μ H' w' := by
  obtain ⟨b, o', r, d, lim, rfl, rfl, hm⟩ := ptr_inv hp
  unfold stT at h
  split at h
  · rename_i n hn
    dsimp only at h
    cases hl : Nat.beq (cellsOf u).length n <;> rw [hl] at h <;> simp only [cond_true, cond_false] at h
    · cases h
    · have hlen := Nat.eq_of_beq_eq_true hl
      have hL := hu.cells
      obtain ⟨h1, h2, h3, h4, h5, h6⟩ := wr_row hw hr h hm hL
      refine ⟨w.setCells r (d + o') (cellsOf q), ?_, h1, h2, h3⟩
      have := run_storeCells_cells (P := P) r (d + o') (cellsOf q) 0 w (fun j hj => (h5 j hj).1) (fun j hj => (h5 j hj).2) h6
      simp [Instr.storeAt, Instr.sureAddr, storeVar, sizeOf_run w hn, cells_of, ← hlen, hL.1, this]
  · cases h

theorem sStore_ok {t : TypeId} {x y : Operand} (ho : o.op = .store t x y) (h : sStore P H tm t x y = some (v, H')) : OpOk P o a w μ base H v H' := by
  unfold sStore at h
  split at h
  · rename_i ad u hx hy
    split at h
    · rename_i H1 hs
      cases h
      obtain ⟨w', h1, h2, h3, h4⟩ := stT_run hw hr hb ht hf hs (ev_eq ht hx) (ev_eq ht hy)
      exact ⟨undef, w', μ, .inr ⟨by simp [execOp, ho, h1], rfl⟩, .tup rfl (fun i x y hx => by simp at hx), h2, h3, h4⟩
    · cases h
  · cases h

theorem sNil_ok {x : Operand} (ho : o.op = .nilCheck x) (h : sNil P H tm x = some (v, H')) : OpOk P o a w μ base H v H' := by
  unfold sNil at h
  split at h
  · rename_i ad hx
    cases h
    have := ev_eq ht hx
    obtain ⟨b, o', r, d, lim, rfl, e, hm⟩ := ptr_inv this
    rw [e] at this
    exact .pure hw hr (by simp [execOp, ho, e]) this
  · cases h

theorem sBox_ok {t : TypeId} {x : Operand} (ho : o.op = .box t x) (h : sBox P H tm x = some (v, H')) : OpOk P o a w μ base H v H' := by
  unfold sBox at h
  split at h
  · rename_i u hx
    split at h
    · rename_i h1
      have hR := ev_eq ht hx
      obtain ⟨rfl, μ', hm, g1, g2, g3⟩ := newL_ok (t := t) hw hr hb hf hR.cells h1 h
      refine ⟨.pointer (some ⟨w.heap.size, 0, none⟩), w.alloc (.cells ⟨cellsOf (a.eval x)⟩ t), μ', .inl ?_, .ptr hm, g1, g2, g3⟩
      simp [execOp, ho, Instr.box, newVar, newRow, newObj, cells_of, Sem.run, Result.andThen]
    · cases h
  · cases h


theorem sAlloc_ok {t : TypeId} (ho : o.op = .alloc t) (h : sAlloc P H t = some (v, H')) : OpOk P o a w μ base H v H' := by
  have run : ∀ {cs : List Value}, zeroP P t = some cs → (execOp a.eval o).run P w = .ok (.value (.pointer (some ⟨w.heap.size, 0, none⟩))) (w.alloc (.cells ⟨cs⟩ t)) := fun hz => by
    obtain ⟨z, h1, h2⟩ := zero_run w hz
    simp [execOp, ho, Instr.alloc, h1, newVar, newRow, newObj, cells_of, h2, Sem.run, Result.andThen]
  unfold sAlloc at h
  split at h
  · rename_i z cs hz
    split at h
    · rename_i hfl
      have hL : LR μ (z :: cs) (z :: cs) := LR.flats hfl
      have hone : ∀ u ∈ z :: cs, u.oneCell' = true := fun u hu => by
        have := flats_eq _ hfl u hu
        cases u <;> first | rfl | exact absurd this Bool.false_ne_true
      cases hbig : Nat.blt 64 (z :: cs).length <;> rw [hbig] at h <;> simp only [cond_true, cond_false] at h
      · have h1 : one (z :: cs) = true := by
          clear hbig h hL run
          generalize z :: cs = l at hone
          induction l with
          | nil => rfl
          | cons x r ih =>
            have := hone x (by simp)
            cases x <;> first | exact ih (fun u hu => hone u (List.mem_cons_of_mem _ hu)) | exact absurd this Bool.false_ne_true
        obtain ⟨rfl, μ', hm, g1, g2, g3⟩ := newL_ok (t := t) hw hr hb hf hL h1 h
        exact ⟨_, _, μ', .inl (run hz), .ptr hm, g1, g2, g3⟩
      · split at h
        · rename_i hall
          obtain ⟨nx, bl⟩ := H
          simp only [newB, fNat_eq, Tr.put_eq] at h
          cases h
          have := new_block (t := t) (n := (z :: cs).length) (z := z) (c := .nil) (cs := ⟨z :: cs⟩) hw hr hb (hf nx (Nat.le_refl _) (Nat.lt_succ_self _)) (Nat.le_refl _) (fun i hi => by
            have e : (⟨(z :: cs).length, z, .nil, nx, false, []⟩ : Blk).cell i = z := rfl
            rw [e]
            have hx : (z :: cs)[i]? = some z := by
              cases i with
              | zero => rfl
              | succ i =>
                have hi' : i < cs.length := by simpa using hi
                rw [List.getElem?_cons_succ, List.getElem?_eq_getElem hi', alleq_eq z cs hall _ (List.getElem_mem hi')]
            exact ⟨hone z (by simp), z, by simpa using hx, hL.2 0 z z rfl rfl⟩)
          exact ⟨_, _, _, .inl (run hz), .ptr (lim := (z :: cs).length) (d := 0) (r := w.heap.size) (by unfold upd; rw [if_pos rfl]; rfl), this⟩
        · cases h
    · cases h
  · rename_i hz
    obtain ⟨rfl, μ', hm, g1, g2, g3⟩ := newL_ok (t := t) hw hr hb hf LR.nil rfl h
    exact ⟨_, _, μ', .inl (run hz), .ptr hm, g1, g2, g3⟩
  · cases h

theorem sFieldAddr_ok {t : TypeId} {x : Operand} {f : Nat} (ho : o.op = .fieldAddr t x f) (h : sFieldAddr P H tm t x f = some (v, H')) : OpOk P o a w μ base H v H' := by
  unfold sFieldAddr at h
  split at h
  · rename_i ad off hx hfl
    split at h
    · rename_i b oo
      simp only [addA, fNat_eq] at h
      cases h
      have hR := ev_eq ht hx
      obtain ⟨b', o', r, d, lim, e, e2, hm⟩ := ptr_inv hR
      obtain ⟨rfl, rfl⟩ : b = b' ∧ oo = o' := by cases e; exact ⟨rfl, rfl⟩
      unfold fld at hfl
      split at hfl
      · rename_i fs hu
        split at hfl
        · rename_i g hg
          split at hfl
          · rename_i n hn
            simp only [Option.some.injEq, Prod.mk.injEq] at hfl
            obtain ⟨rfl, h0⟩ := hfl
            have hn0 : n ≠ 0 := Nat.ne_of_beq_eq_false h0
            refine .pure hw hr (v' := .pointer (some ⟨r, d + (oo + g.offset), none⟩)) ?_ (.ptr hm)
            have hg' : fs[f]? = some g := hg
            simp [execOp, ho, e2, Instr.fieldAt, Instr.sureAddr, run_underlying hu, hg', fieldPlace, sizeOf_run w hn, hn0, add_off, Nat.add_assoc]
          · cases hfl
        · cases hfl
      · cases hfl
    · cases h
  · cases h

end
end Go.Proofs.YtkmhbfgkhalaoaaGreatDoor.LM

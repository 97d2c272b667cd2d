/- Reads and stores. -/
import Derived.Test.YtkmhbfgkhalaoaaGreatDoorLm3
set_option linter.unusedVariables false
set_option linter.unusedSimpArgs false
namespace Go.Proofs.YtkmhbfgkhalaoaaGreatDoor.LM
open Go Go.RowKit

theorem ptr_inv {μ : Mu} {a : Addr} {v : Value} (h : VR μ (.pointer (some a)) v) : ∃ b o r d lim, a = ⟨b, o, none⟩ ∧ v = .pointer (some ⟨r, d + o, none⟩) ∧ μ b = some (r, d, lim) := by
  generalize hx : Value.pointer (some a) = x at h
  cases h with
  | flat h => subst hx; simp [flat] at h
  | ptr h => cases hx; exact ⟨_, _, _, _, _, rfl, rfl, h⟩
  | _ => cases hx

theorem Blk.cells_length (B : Blk) : ∀ (n i : Nat), (B.cells n i).length = n := by
  intro n
  induction n with
  | zero => intro i; rfl
  | succ n ih => intro i; simp [Blk.cells, ih]
theorem Blk.cells_get (B : Blk) : ∀ (n i j : Nat), j < n → (B.cells n i)[j]? = some (B.cell (i + j)) := by
  intro n
  induction n with
  | zero => intro i j h; omega
  | succ n ih =>
    intro i j h
    cases j with
    | zero => simp [Blk.cells]
    | succ j => simp only [Blk.cells, List.getElem?_cons_succ]; rw [ih (i + 1) j (by omega)]; congr 2; omega

theorem rdN_inv {H : Heap} {a : Addr} {n : Nat} {l : List Value} (h : rdN H a n = some l) : ∃ b o B, a = ⟨b, o, none⟩ ∧ H.bl.get b = some B ∧ o + n ≤ B.n ∧ l = B.cells n o := by
  obtain ⟨nx, bl⟩ := H
  obtain ⟨b, o, s⟩ := a
  cases s with
  | some s => simp [rdN] at h
  | none =>
    simp only [rdN] at h
    split at h
    · rename_i bn z c x1 x2 x3 hg
      cases hb : Nat.ble (o + n) bn <;> rw [hb] at h <;> simp only [cond_true, cond_false] at h
      · cases h
      · refine ⟨b, o, _, rfl, hg, Nat.le_of_ble_eq_true hb, ?_⟩
        have := Blk.cellsK_eq ⟨bn, z, c, x1, x2, x3⟩ n o (fun l => some l)
        dsimp only at this
        rw [this] at h
        exact (Option.some.inj h).symm
    · cases h

theorem rd1_inv {H : Heap} {a : Addr} {v : Value} (h : rd1 H a = some v) : ∃ b o B, a = ⟨b, o, none⟩ ∧ H.bl.get b = some B ∧ o < B.n ∧ v = B.cell o := by
  obtain ⟨nx, bl⟩ := H
  obtain ⟨b, o, s⟩ := a
  cases s with
  | some s => simp [rd1] at h
  | none =>
    simp only [rd1] at h
    split at h
    · rename_i bn z c x1 x2 x3 hg
      cases hb : Nat.blt o bn <;> rw [hb] at h <;> simp only [cond_true, cond_false] at h
      · cases h
      · refine ⟨b, o, _, rfl, hg, by rwa [Nat.blt_eq] at hb, ?_⟩
        simp only [Blk.cell]
        cases hc : c.get o <;> rw [hc] at h <;> exact (Option.some.inj h).symm
    · cases h

/-- A row of cells that is read. -/
theorem HR.row {μ : Mu} {base : Nat} {H : Heap} {w : World} (hr : HR μ base H w) {b : Nat} {B : Blk} {r d lim : Nat} (hg : H.bl.get b = some B) (hm : μ b = some (r, d, lim)) :
    ∀ (n o : Nat), o + n ≤ B.n → ∃ l : List Value, l.length = n ∧ (∀ j v, l[j]? = some v → w.cell? ⟨r, d + o + j, none⟩ = some v) ∧ LR μ (B.cells n o) l := by
  intro n
  induction n with
  | zero => intro o _; exact ⟨[], rfl, fun j v h => by simp at h, LR.nil⟩
  | succ n ih =>
    intro o ho
    obtain ⟨l, hl, hc, hL⟩ := ih (o + 1) (by omega)
    obtain ⟨_, v, hv, hR⟩ := hr.cell b B r d lim o hg hm (by omega)
    refine ⟨v :: l, by simp [hl], fun j u hj => ?_, hL.cons hR⟩
    cases j with
    | zero => simp at hj; subst hj; exact hv
    | succ j => have := hc j u (by simpa using hj); rw [show d + o + (j + 1) = d + (o + 1) + j by omega]; exact this

theorem add_off (r o n : Nat) : (⟨r, o, none⟩ : Addr).add n = ⟨r, o + n, none⟩ := by unfold Addr.add; split <;> simp_all

theorem sizeP_eq {P : Program} {t : TypeId} {n : Nat} (h : sizeP P t = some n) : ∃ i, P.info? t = some i ∧ i.size = n := by
  unfold sizeP at h
  split at h
  · rename_i i hi; exact ⟨i, hi, Option.some.inj h⟩
  · cases h

theorem sizeOf_run {P : Program} {t : TypeId} {n : Nat} (w : World) (h : sizeP P t = some n) : (sizeOf t).run P w = .ok n w := by
  obtain ⟨i, hi, rfl⟩ := sizeP_eq h
  simp [sizeOf, typeInfo, hi]
theorem isAgg_run {P : Program} {t : TypeId} {b : Bool} (w : World) (h : aggP P t = some b) : (isAgg t).run P w = .ok b w := by
  unfold aggP at h
  cases hu : P.underlying t with
  | none => rw [hu] at h; cases h
  | some d =>
    rw [hu] at h
    have he := run_underlying hu w
    cases d <;> simp at h <;> subst h <;> simp [isAgg, he]

theorem ldT_run {P : Program} {μ : Mu} {base : Nat} {H : Heap} {w : World} (hr : HR μ base H w) {t : TypeId} {a : Addr} {v u : Value}
    (h : ldT P H t a = some v) (hp : VR μ (.pointer (some a)) u) : ∃ v', (Instr.loadAt t u).run P w = .ok v' w ∧ VR μ v v' := by
  obtain ⟨b, o, r, d, lim, rfl, rfl, hm⟩ := ptr_inv hp
  unfold ldT at h
  split at h
  · rename_i ha
    split at h
    · rename_i n hn
      split at h
      · rename_i cs hcs
        cases h
        obtain ⟨b', o', B, e, hg, hle, rfl⟩ := rdN_inv hcs
        cases e
        obtain ⟨l, hl, hc, hL⟩ := hr.row hg hm n o hle
        refine ⟨.agg ⟨l⟩, ?_, .agg hL.1 hL.2⟩
        have hrun := run_loadCells_list (P := P) w ⟨r, d + o, none⟩ l (fun j v hj => by rw [add_off]; exact hc j v hj)
        rw [hl] at hrun
        simp [Instr.loadAt, Instr.sureAddr, loadVar, isAgg_run w ha, sizeOf_run w hn, hrun]
      · cases h
    · cases h
  · rename_i ha
    obtain ⟨b', o', B, e, hg, hlt, rfl⟩ := rd1_inv h
    cases e
    obtain ⟨_, v, hv, hR⟩ := hr.cell b B r d lim o hg hm hlt
    refine ⟨v, ?_, hR⟩
    simp [Instr.loadAt, Instr.sureAddr, loadVar, isAgg_run w ha, hv]
  · cases h

/-! ### Stores -/
theorem one_eq (l : List Value) : one l = true → ∀ v ∈ l, v.oneCell' = true := by
  induction l with
  | nil => intro _ v hv; cases hv
  | cons x r ih =>
    intro h v hv
    cases x
    all_goals first
      | exact absurd (show false = true from h) (by simp)
      | (have h' : one r = true := h
         rcases List.mem_cons.1 hv with rfl | hm
         · rfl
         · exact ih h' v hm)

theorem wrN_inv {H H' : Heap} {a : Addr} {vs : List Value} (h : wrN H a vs = some H') : ∃ b o B c bl, a = ⟨b, o, none⟩ ∧ H.bl.get b = some B ∧ B.stale = false ∧ one vs = true ∧ o + vs.length ≤ B.n ∧
    H' = ⟨H.next, bl⟩ ∧ (∀ j, Tr.get c j = if o ≤ j ∧ j < o + vs.length then vs[j - o]? else B.c.get j) ∧
    (∀ k, bl.get k = if k = b then some ⟨B.n, B.z, c, B.chain, false, []⟩ else if k ∈ B.anc then (H.bl.get k).map (fun B => { B with n := 0 }) else H.bl.get k) := by
  obtain ⟨nx, bl⟩ := H
  obtain ⟨b, o, s⟩ := a
  cases s with
  | some s => simp [wrN] at h
  | none =>
    simp only [wrN] at h
    split at h
    · rename_i n z c ch st an hg
      split at h
      · cases h
      · split at h
        · cases h
        · rename_i hone
          cases hb : Nat.ble (Nat.add o vs.length) n <;> rw [hb] at h <;> simp only [cond_true, cond_false] at h
          · cases h
          · obtain ⟨c', e1, h1⟩ := putC_eq vs c o (fun c' => kill an bl fun bl' => bl'.put b ⟨n, z, c', ch, false, []⟩ fun bl'' => (some ⟨nx, bl''⟩ : Option Heap))
            rw [e1] at h
            obtain ⟨bl', e2, h2⟩ := kill_eq an bl (fun bl' => bl'.put b ⟨n, z, c', ch, false, []⟩ fun bl'' => (some ⟨nx, bl''⟩ : Option Heap))
            rw [e2, Tr.put_eq] at h
            refine ⟨b, o, _, c', _, rfl, hg, rfl, hone, Nat.le_of_ble_eq_true hb, (Option.some.inj h).symm, h1, fun k => ?_⟩
            rw [Tr.get_set]
            by_cases e : k = b
            · rw [if_pos e, if_pos e]
            · rw [if_neg e, if_neg e, h2]
    · cases h

theorem cell_put {B : Blk} {c : Tr Value} {o : Nat} {vs : List Value} {ch : Nat} {st : Bool} {an : List Nat} {n : Nat} (h : ∀ j, Tr.get c j = if o ≤ j ∧ j < o + vs.length then vs[j - o]? else B.c.get j) (i : Nat) :
    ((⟨n, B.z, c, ch, st, an⟩ : Blk).cell i = B.cell i ∧ ¬ (o ≤ i ∧ i < o + vs.length)) ∨ (o ≤ i ∧ i < o + vs.length ∧ vs[i - o]? = some ((⟨n, B.z, c, ch, st, an⟩ : Blk).cell i)) := by
  unfold Blk.cell
  dsimp only
  rw [h i]
  by_cases hi : o ≤ i ∧ i < o + vs.length
  · refine .inr ⟨hi.1, hi.2, ?_⟩
    rw [if_pos hi]
    have hlt : i - o < vs.length := by omega
    rw [List.getElem?_eq_getElem hlt]
  · exact .inl ⟨by rw [if_neg hi], hi⟩

theorem setCells_heap (r k : Nat) (hk : k ≠ r) : ∀ (us : List Value) (q : Nat) (w : World), (w.setCells r q us).heap[k]? = w.heap[k]?
  | [], _, _ => rfl
  | u :: us, q, w => by rw [World.setCells, setCells_heap r k hk us]; exact Below.heap_setCell _ _ _ _ hk
theorem setCells_size (r : Nat) : ∀ (us : List Value) (q : Nat) (w : World), (w.setCells r q us).heap.size = w.heap.size
  | [], _, _ => rfl
  | u :: us, q, w => by rw [World.setCells, setCells_size r us]; simp [World.setCell]
theorem setCells_rest (r : Nat) : ∀ (us : List Value) (q : Nat) (w : World), (w.setCells r q us).os = w.os ∧ (w.setCells r q us).tape = w.tape ∧ (w.setCells r q us).output = w.output
  | [], _, _ => ⟨rfl, rfl, rfl⟩
  | u :: us, q, w => by rw [World.setCells]; exact setCells_rest r us _ _

/-- A row of cells is written. -/
theorem wr_row {μ : Mu} {base : Nat} {H H' : Heap} {w : World} (hw : HW H) (hr : HR μ base H w) {b o r d lim : Nat} {vs us : List Value}
    (h : wrN H ⟨b, o, none⟩ vs = some H') (hm : μ b = some (r, d, lim)) (hL : LR μ vs us) :
    HW H' ∧ HR μ base H' (w.setCells r (d + o) us) ∧ Ext μ H w μ H' (w.setCells r (d + o) us) ∧ H'.next = H.next ∧
    (∀ j, j < us.length → (w.cell? ⟨r, d + o + j, none⟩).isSome = true ∧ w.frozen? ⟨r, d + o + j, none⟩ = false) ∧ (∀ v ∈ us, v.oneCell' = true) := by
  obtain ⟨b', o', B, c, bl, e, hg, hst, hone, hle, rfl, hc, hbl⟩ := wrN_inv h
  cases e
  have hlive := hr.live b B r d lim hg hm
  have hcells : ∀ j, j < us.length → (w.cell? ⟨r, d + o + j, none⟩).isSome = true ∧ w.frozen? ⟨r, d + o + j, none⟩ = false := by
    intro j hj
    have hjl : j < vs.length := by rw [hL.1]; exact hj
    obtain ⟨⟨v, hv⟩, hf⟩ := hlive.2.2.2 (d + o + j) (by omega)
    exact ⟨by rw [hv]; rfl, frozen_of_fro hf⟩
  have huone : ∀ v ∈ us, v.oneCell' = true := by
    intro v hv
    obtain ⟨j, hj⟩ := List.getElem?_of_mem hv
    have hjl : j < vs.length := by rw [hL.1]; exact (List.getElem?_eq_some_iff.1 hj).1
    have := hL.2 j vs[j] v (List.getElem?_eq_getElem hjl) hj
    rw [this.one]
    exact one_eq vs hone _ (List.getElem_mem hjl)
  -- what the new blocks are
  have hnew : ∀ k B', bl.get k = some B' → ∃ B0, H.bl.get k = some B0 ∧ B'.chain = B0.chain ∧ B'.n ≤ B0.n ∧ (0 < B'.n → k ≠ b → B' = B0 ∧ k ∉ B.anc) ∧ (k = b → B' = ⟨B.n, B.z, c, B.chain, false, []⟩) ∧ (B'.stale = B0.stale) := by
    intro k B' hk
    rw [hbl k] at hk
    by_cases e : k = b
    · subst e
      rw [if_pos rfl] at hk
      cases hk
      exact ⟨B, hg, rfl, Nat.le_refl _, fun _ hne => absurd rfl hne, fun _ => rfl, by simp [hst]⟩
    · rw [if_neg e] at hk
      by_cases ha : k ∈ B.anc
      · rw [if_pos ha] at hk
        cases h0 : H.bl.get k with
        | none => rw [h0] at hk; cases hk
        | some B0 =>
          rw [h0] at hk
          cases hk
          exact ⟨B0, rfl, rfl, Nat.zero_le _, fun hp => by dsimp only at hp; omega, fun e' => absurd e' e, rfl⟩
      · rw [if_neg ha] at hk
        exact ⟨B', hk, rfl, Nat.le_refl _, fun _ _ => ⟨rfl, ha⟩, fun e' => absurd e' e, rfl⟩
  have hanc : ∀ k B', bl.get k = some B' → B'.anc = [] ∨ ∃ B0, H.bl.get k = some B0 ∧ B'.anc = B0.anc := by
    intro k B' hk
    rw [hbl k] at hk
    by_cases e : k = b
    · rw [if_pos e] at hk; cases hk; exact .inl rfl
    · rw [if_neg e] at hk
      by_cases ha : k ∈ B.anc
      · rw [if_pos ha] at hk
        cases h0 : H.bl.get k with
        | none => rw [h0] at hk; cases hk
        | some B0 => rw [h0] at hk; cases hk; exact .inr ⟨B0, rfl, rfl⟩
      · rw [if_neg ha] at hk; exact .inr ⟨B', hk, rfl⟩
  have hlen := hL.1
  have hin : ∀ j (hj : j < us.length), (w.setCells r (d + o) us).cell? ⟨r, d + o + j, none⟩ = some us[j] :=
    World.cell?_setCells_in r us (d + o) w (fun j hj => (hcells j hj).1)
  have hout : ∀ q i, (q = r → i < d + o ∨ d + o + us.length ≤ i) → (w.setCells r (d + o) us).cell? ⟨q, i, none⟩ = w.cell? ⟨q, i, none⟩ := fun q i h =>
    World.cell?_setCells_out r us (d + o) w _ (fun e _ => h e)
  have hfro : ∀ x, (w.setCells r (d + o) us).fro x = w.fro x := fun x => World.fro_setCells r us (d + o) w x
  refine ⟨⟨?_, ?_, ?_, ?_, ?_, ?_⟩, ⟨?_, ?_, ?_, ?_, ?_⟩, ?_, rfl, hcells, huone⟩
  · intro k B' hk
    obtain ⟨B0, h0, _⟩ := hnew k B' hk
    exact hw.dom k B0 h0
  · intro k B' hk
    obtain ⟨B0, h0, h1, _⟩ := hnew k B' hk
    rw [h1]
    exact hw.chlt k B0 h0
  · intro k B1 k' B2 hk hk' hch hne hst' hp
    obtain ⟨B01, h01, c1, n1, f1, g1, s1⟩ := hnew k B1 hk
    obtain ⟨B02, h02, c2, n2, f2, g2, s2⟩ := hnew k' B2 hk'
    by_cases e' : k' = b
    · -- the other one is the block that is written
      subst e'
      by_cases e : k = k'
      · exact absurd e hne
      · -- k is in the same chain as b and not stale: b would be in its anc; but b is not stale, so k is in b's anc, so it is dead
        have hb0 : B02 = B := by rw [h02] at hg; exact Option.some.inj hg
        subst hb0
        by_cases hpk : 0 < B1.n
        · obtain ⟨e1, hna⟩ := f1 hpk e
          subst e1
          have hmem := hw.anc k' B02 k B1 h02 h01 (by rw [← c2, ← c1]; exact hch.symm) (Ne.symm hne) hst (by omega)
          exact absurd hmem hna
        · -- dead: its anc is as it was
          have hmem := hw.anc k B01 k' B02 h01 h02 (by rw [← c1, ← c2]; exact hch) hne (by rw [← s1]; exact hst') (by omega)
          rw [hbl k, if_neg e] at hk
          by_cases ha : k ∈ B02.anc
          · rw [if_pos ha, h01] at hk
            cases hk
            exact hmem
          · rw [if_neg ha, h01] at hk
            cases hk
            exact hmem
    · obtain ⟨e2, hna⟩ := f2 hp e'
      subst e2
      by_cases e : k = b
      · subst e
        have hb0 : B01 = B := by rw [h01] at hg; exact Option.some.inj hg
        subst hb0
        have := hw.anc k B01 k' B2 h01 h02 (by rw [← c1]; exact hch) hne hst hp
        exact absurd this hna
      · have hmem := hw.anc k B01 k' B2 h01 h02 (by rw [← c1]; exact hch) hne (by rw [← s1]; exact hst') hp
        rw [hbl k, if_neg e] at hk
        by_cases ha : k ∈ B.anc
        · rw [if_pos ha, h01] at hk
          cases hk
          exact hmem
        · rw [if_neg ha, h01] at hk
          cases hk
          exact hmem
  · intro k B1 k' B2 hk hk' hch hst1 hst2
    obtain ⟨B01, h01, c1, n1, f1, g1, s1⟩ := hnew k B1 hk
    obtain ⟨B02, h02, c2, n2, f2, g2, s2⟩ := hnew k' B2 hk'
    exact hw.uniq k B01 k' B02 h01 h02 (by rw [← c1, ← c2]; exact hch) (by rw [← s1]; exact hst1) (by rw [← s2]; exact hst2)
  · intro k B' x hk hx
    rcases hanc k B' hk with h | ⟨B0, h0, e0⟩
    · rw [h] at hx; cases hx
    · rw [e0] at hx; exact hw.ancdom k B0 x h0 hx
  · intro k B' x X hk hx hX
    obtain ⟨X0, hX0, _, _, _, _, sX⟩ := hnew x X hX
    rcases hanc k B' hk with h | ⟨B0, h0, e0⟩
    · rw [h] at hx; cases hx
    · rw [e0] at hx; rw [sX]; exact hw.ancs k B0 x X0 h0 hx hX0
  · intro k B' r' d' lim' hk hm'
    obtain ⟨B0, h0, h1, h2, _⟩ := hnew k B' hk
    obtain ⟨g1, g2, g3, g4⟩ := hr.live k B0 r' d' lim' h0 hm'
    refine ⟨g1, by rw [setCells_size]; exact g2, by omega, fun i hi => ?_⟩
    obtain ⟨⟨v, hv⟩, hfz⟩ := g4 i hi
    refine ⟨?_, by rw [hfro]; exact hfz⟩
    by_cases hh : r' = r ∧ d + o ≤ i ∧ i < d + o + us.length
    · obtain ⟨e, ha, hb⟩ := hh
      subst e
      exact ⟨_, by have := hin (i - (d + o)) (by omega); rwa [show d + o + (i - (d + o)) = i by omega] at this⟩
    · exact ⟨v, by rw [hout r' i (fun e => by omega)]; exact hv⟩
  · intro k B' r' d' lim' i hk hm' hi
    obtain ⟨B0, h0, h1, h2, h3, h4, _⟩ := hnew k B' hk
    by_cases e : k = b
    · have hB' := h4 e
      subst e
      have hb0 : B0 = B := by rw [h0] at hg; exact Option.some.inj hg
      subst hb0
      rw [hm] at hm'
      cases hm'
      subst hB'
      rcases cell_put (ch := B0.chain) (st := false) (an := []) (n := B0.n) hc i with ⟨e1, hn⟩ | ⟨ha, hb, hv⟩
      · rw [e1]
        obtain ⟨q1, v, q2, q3⟩ := hr.cell k B0 r d lim i h0 hm hi
        exact ⟨q1, v, by rw [hout r (d + i) (fun _ => by omega)]; exact q2, q3⟩
      · obtain ⟨u, hu, hR⟩ := hL.get hv
        have hlt : i - o < us.length := (List.getElem?_eq_some_iff.1 hu).1
        have hmem : (⟨B0.n, B0.z, c, B0.chain, false, []⟩ : Blk).cell i ∈ vs := List.mem_of_getElem? hv
        refine ⟨one_eq vs hone _ hmem, u, ?_, hR⟩
        have := hin (i - o) hlt
        rw [show d + o + (i - o) = d + i by omega] at this
        rw [this]
        rw [List.getElem?_eq_getElem hlt] at hu
        exact hu
    · obtain ⟨e1, hna⟩ := h3 (by omega) e
      subst e1
      obtain ⟨q1, v, q2, q3⟩ := hr.cell k B' r' d' lim' i h0 hm' hi
      refine ⟨q1, v, ?_, q3⟩
      rw [hout r' (d' + i) ?_]
      · exact q2
      · intro er
        subst er
        by_cases hz : us.length = 0
        · omega
        · -- another live block of the same row: it is in the chain, so it would be dead
          have hch := hr.chain b B r' d lim k B' d' lim' hg hm h0 hm'
          exact absurd (hw.anc b B k B' hg h0 hch (Ne.symm e) hst (by omega)) hna
  · intro k B1 r' d1 l1 k' B2 d2 l2 hk hm1 hk' hm2
    obtain ⟨B01, h01, c1, n1, _⟩ := hnew k B1 hk
    obtain ⟨B02, h02, c2, n2, _⟩ := hnew k' B2 hk'
    rw [c1, c2]
    exact hr.chain k B01 r' d1 l1 k' B02 d2 l2 h01 hm1 h02 hm2
  · intro k B' r' d' lim' hk hm' x hx
    rw [hbl k] at hk
    by_cases e : k = b
    · rw [if_pos e] at hk; cases hk; cases hx
    · rw [if_neg e] at hk
      by_cases ha : k ∈ B.anc
      · rw [if_pos ha] at hk
        cases h0 : H.bl.get k with
        | none => rw [h0] at hk; cases hk
        | some B0 => rw [h0] at hk; cases hk; exact hr.ancm k B0 r' d' lim' h0 hm' x hx
      · rw [if_neg ha] at hk; exact hr.ancm k B' r' d' lim' hk hm' x hx
  · intro k B1 x X r' d1 l1 d2 l2 hk hst1 hx hX hp hm1 hm2
    obtain ⟨B01, h01, c1, n1, f1, g1, s1⟩ := hnew k B1 hk
    obtain ⟨X0, hX0, c2, n2, f2, g2, s2⟩ := hnew x X hX
    rcases hanc k B1 hk with h | ⟨B0, h0, e0⟩
    · rw [h] at hx; cases hx
    · rw [h01] at h0
      cases h0
      rw [e0] at hx
      have hb := hr.below k B01 x X0 r' d1 l1 d2 l2 h01 (by rw [← s1]; exact hst1) hx hX0 (by omega) hm1 hm2
      by_cases e : k = b
      · have := g1 e; subst this; subst e; rw [h01] at hg; cases hg; simp only; omega
      · -- not killed, for it is not stale
        rw [hbl k, if_neg e] at hk
        by_cases ha : k ∈ B.anc
        · have := hw.ancs b B k B01 hg ha h01
          rw [s1, this] at hst1
          cases hst1
        · rw [if_neg ha, h01] at hk
          cases hk
          omega
  · obtain ⟨q1, q2, q3⟩ := setCells_rest r us (d + o) w
    refine ⟨Nat.le_refl _, fun _ _ => rfl, fun k B' _ hk => ?_, fun k _ hn => ?_, fun k hk hno => ?_, fun k _ _ _ h1 h2 => by dsimp only at h2; omega, by rw [setCells_size]; exact Nat.le_refl _, q1, q2, q3⟩
    · obtain ⟨B0, h0, _⟩ := hnew k B' hk
      exact ⟨B0, h0⟩
    · show bl.get k = _
      rw [hbl k, if_neg (fun e => by rw [e, hm] at hn; cases hn)]
      by_cases ha : k ∈ B.anc
      · obtain ⟨y, hy⟩ := hr.ancm b B r d lim hg hm k ha
        rw [hn] at hy
        cases hy
      · rw [if_neg ha]
    · exact setCells_heap r k (fun e => hno b B d lim hg (by rw [e]; exact hm)) us (d + o) w

end Go.Proofs.YtkmhbfgkhalaoaaGreatDoor.LM

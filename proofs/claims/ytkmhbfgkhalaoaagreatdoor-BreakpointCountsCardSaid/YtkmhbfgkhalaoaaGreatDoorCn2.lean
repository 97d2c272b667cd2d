/- BreakpointCounts: what a state must be for the next round, and that it is then one of few. -/
import Derived.Test.YtkmhbfgkhalaoaaGreatDoorCn1
set_option linter.unusedVariables false
set_option linter.unusedSimpArgs false
namespace Go.Proofs.YtkmhbfgkhalaoaaGreatDoor.LM
open Go Go.RowKit
noncomputable def strV (l : List UInt8) : Value := .string ⟨⟨l⟩⟩
/-- The breakpoint's record behind i rounds. -/
noncomputable def recV (I i : Nat) : List Value := [vi 1, vi (I - i), vi i, .int .i64 (.negSucc 0), vi 0, strV [102], strV [], .bool false, .slice none 0 0]
def ptr0 : Value := .pointer (some ⟨0, 0, none⟩)
noncomputable def tmS (I i : Nat) (T : Int) : Tr Value := (((Tr.nil.set 0 (vi I)).set 1 (.int .i64 T)).set 5 ptr0).set 6 (vi i)
noncomputable def blkS (I i : Nat) : Blk := ⟨9, .bool false, putC (recV I i) .nil 0 fun t => t, 0, false, []⟩
noncomputable def HSt (I i : Nat) : Heap := ⟨1, Tr.nil.set 0 (blkS I i)⟩

noncomputable def cellsOk (B : Blk) (l : List Value) : Bool := allN (fun k => match nth l k with | some v => veq1 (B.cell k) v | none => false) [0, 1, 2, 3, 4, 5, 6, 7, 8]
noncomputable def blkOk (B : Blk) (l : List Value) : Bool := Nat.beq B.n 9 && !B.stale && (match B.anc with | [] => true | _ => false) && cellsOk B l
noncomputable def chk (I i : Nat) (tm : Tr Value) (H : Heap) : Bool :=
  match tm.get 0, tm.get 5, tm.get 6, H.bl.get 0 with
  | some a, some p, some x, some B => veq1 a (vi I) && veq1 p ptr0 && veq1 x (vi i) && blkOk B (recV I i)
  | _, _, _, _ => false
noncomputable def okR (I i : Nat) (x : EvR) : Bool := match x with | some (.normal, tm, H) => chk I i tm H | _ => false
noncomputable def t1R (x : EvR) : Option Value := match x with | some (_, tm, _) => tm.get 1 | none => none

theorem recV_flat (I i : Nat) : ∀ v ∈ recV I i, flat v = true ∧ v.oneCell' = true := by
  intro v hv
  simp only [recV, List.mem_cons, List.not_mem_nil, or_false] at hv
  rcases hv with rfl | rfl | rfl | rfl | rfl | rfl | rfl | rfl | rfl <;> exact ⟨rfl, rfl⟩
theorem blkS_cell (I i k : Nat) (hk : k < 9) : ∃ v, (recV I i)[k]? = some v ∧ (blkS I i).cell k = v := by
  have hl : (recV I i).length = 9 := rfl
  have hx : (recV I i)[k]? = some ((recV I i)[k]'(by omega)) := List.getElem?_eq_getElem (by omega)
  refine ⟨_, hx, ?_⟩
  obtain ⟨c, e, hc⟩ := putC_eq (recV I i) .nil 0 (fun t => t)
  unfold blkS Blk.cell
  dsimp only
  rw [e, hc k, if_pos (by omega)]
  simp only [Nat.sub_zero, hx]

theorem tmS_get (I i : Nat) (T : Int) (t : Tmp) (v : Value) (h : (tmS I i T).get t = some v) : (t = 0 ∧ v = vi I) ∨ (t = 1 ∧ v = .int .i64 T) ∨ (t = 5 ∧ v = ptr0) ∨ (t = 6 ∧ v = vi i) := by
  unfold tmS at h
  rw [Tr.get_set] at h
  split at h
  · cases h; exact .inr (.inr (.inr ⟨by assumption, rfl⟩))
  · rw [Tr.get_set] at h
    split at h
    · cases h; exact .inr (.inr (.inl ⟨by assumption, rfl⟩))
    · rw [Tr.get_set] at h
      split at h
      · cases h; exact .inr (.inl ⟨by assumption, rfl⟩)
      · rw [Tr.get_set] at h
        split at h
        · cases h; exact .inl ⟨by assumption, rfl⟩
        · rw [Tr.get_nil] at h; cases h

/-- A state that passes the check is the state from which the next round is reckoned. -/
theorem gc {fb : Nat} {μ : Mu} {base : Nat} {H : Heap} {w : World} {tm : Tr Value} {a : Act} (g : Good [] fb μ base H w tm 50 a) {I i : Nat} {T : Int} (hc : chk I i tm H = true) (hT : tm.get 1 = some (.int .i64 T)) :
    ∃ μ', Good [] fb μ' base (HSt I i) w (tmS I i T) 50 a := by
  unfold chk at hc
  split at hc
  · rename_i x p y B h0 h5 h6 hB
    simp only [Bool.and_eq_true] at hc
    obtain ⟨⟨⟨c0, c5⟩, c6⟩, cB⟩ := hc
    have c0 := veq1_eq c0
    have c5 := veq1_eq c5
    have c6 := veq1_eq c6
    subst c0
    subst c5
    subst c6
    unfold blkOk at cB
    simp only [Bool.and_eq_true, Bool.not_eq_true'] at cB
    obtain ⟨⟨⟨b1, b2⟩, b3⟩, b4⟩ := cB
    have b1 := Nat.eq_of_beq_eq_true b1
    obtain ⟨p5, hp5, hR5⟩ := g.ht 5 _ h5
    obtain ⟨b, o, r, d, lim, e1, e2, hm⟩ := ptr_inv hR5
    have hb0 : b = 0 ∧ o = 0 := by
      injection e1 with h1 h2
      exact ⟨h1.symm, h2.symm⟩
    obtain ⟨rfl, rfl⟩ := hb0
    have hlive := g.hr.live 0 B r d lim hB hm
    have hcell : ∀ k, k < 9 → B.cell k = (blkS I i).cell k := by
      intro k hk
      obtain ⟨v, hv, e⟩ := blkS_cell I i k hk
      rw [e]
      unfold cellsOk at b4
      have := (allN_iff _ _).1 b4 k (by simp; omega)
      rw [nth_eq, hv] at this
      exact veq1_eq this
    let μ' : Mu := fun k => if k = 0 then some (r, d, lim) else none
    have hget : ∀ k K, (HSt I i).bl.get k = some K → k = 0 ∧ K = blkS I i := by
      intro k K hk
      unfold HSt at hk
      dsimp only at hk
      rw [Tr.get_set] at hk
      split at hk
      · cases hk; exact ⟨by assumption, rfl⟩
      · rw [Tr.get_nil] at hk; cases hk
    have hmu : ∀ k y, μ' k = some y → k = 0 ∧ y = (r, d, lim) := by
      intro k y hk
      show k = 0 ∧ _
      have hk : (if k = 0 then some (r, d, lim) else none) = some y := hk
      split at hk
      · cases hk; exact ⟨by assumption, rfl⟩
      · cases hk
    refine ⟨μ', ⟨?_, ?_, g.hb, ?_, ?_, g.nt, EnvOk.nil, ?_, g.sd.fb⟩⟩
    · refine ⟨fun k K hk => ?_, fun k K hk => ?_, fun k K k' K' hk hk' _ hne => ?_, fun k K k' K' hk hk' _ _ _ => ?_, fun k K x hk hx => ?_, fun k K x X hk hx => ?_⟩
      · rw [(hget k K hk).1]; exact Nat.zero_lt_one
      · rw [(hget k K hk).2]; exact Nat.zero_lt_one
      · exact absurd ((hget k K hk).1.trans (hget k' K' hk').1.symm) hne
      · exact (hget k K hk).1.trans (hget k' K' hk').1.symm
      · rw [(hget k K hk).2] at hx; cases hx
      · rw [(hget k K hk).2] at hx; cases hx
    · refine ⟨fun k K r' d' lim' hk hm' => ?_, fun k K r' d' lim' j hk hm' hj => ?_, fun k K r' d' lim' k' K' d'' lim'' hk hm' hk' hm'' => ?_, fun k K r' d' lim' hk hm' x hx => ?_, fun k K x X r' d' lim' d'' lim'' hk hst hx => ?_⟩
      · obtain ⟨rfl, rfl⟩ := hget k K hk
        cases (hmu 0 _ hm').2
        exact ⟨hlive.1, hlive.2.1, by have := hlive.2.2.1; rw [b1] at this; exact this, hlive.2.2.2⟩
      · obtain ⟨rfl, rfl⟩ := hget k K hk
        cases (hmu 0 _ hm').2
        have hj9 : j < 9 := hj
        obtain ⟨q1, v, q2, q3⟩ := g.hr.cell 0 B r d lim j hB hm (by rw [b1]; exact hj9)
        rw [hcell j hj9] at q1 q3
        obtain ⟨u, hu, eu⟩ := blkS_cell I i j hj9
        obtain ⟨f1, f2⟩ := recV_flat I i u (List.mem_of_getElem? hu)
        refine ⟨by rw [eu]; exact f2, v, q2, ?_⟩
        rw [eu] at q3 ⊢
        have := flatLR_eq (LR.nil.cons q3) (by show (match flat u with | true => flats [] | false => false) = true; rw [f1]; rfl)
        injection this with this
        rw [this]
        exact .flat f1
      · rw [(hget k K hk).2, (hget k' K' hk').2]
      · rw [(hget k K hk).2] at hx; cases hx
      · rw [(hget k K hk).2] at hx; cases hx
    · intro t v ht
      rcases tmS_get I i T t v ht with ⟨rfl, rfl⟩ | ⟨rfl, rfl⟩ | ⟨rfl, rfl⟩ | ⟨rfl, rfl⟩
      · obtain ⟨u, hu, hR⟩ := g.ht 0 _ h0
        rw [int_inv hR] at hu
        exact ⟨_, hu, .flat rfl⟩
      · obtain ⟨u, hu, hR⟩ := g.ht 1 _ hT
        rw [int_inv hR] at hu
        exact ⟨_, hu, .flat rfl⟩
      · refine ⟨p5, hp5, ?_⟩
        rw [e2]
        exact .ptr (by show (if (0 : Nat) = 0 then some (r, d, lim) else none) = _; rw [if_pos rfl])
      · obtain ⟨u, hu, hR⟩ := g.ht 6 _ h6
        rw [int_inv hR] at hu
        exact ⟨_, hu, .flat rfl⟩
    · intro k hk
      show (if k = 0 then some (r, d, lim) else none) = none
      have hk' : 1 ≤ k := hk
      rw [if_neg (by omega)]
    · obtain ⟨rs, m1, m2, m3⟩ := g.sd.marks
      refine ⟨rs, m1, m2, fun q hq => ?_⟩
      obtain ⟨k1, k2, k3, k4⟩ := m3 q hq
      refine ⟨k1, k2, fun k K d' lim' hk hm' => ?_, k4⟩
      have hk0 := (hget k K hk).1
      subst hk0
      have := (hmu 0 _ hm').2
      cases this
      exact k3 0 B d lim hB hm
  · cases hc

/-- What a run leaves alone. -/
theorem Ext.below {μ μ' : Mu} {H H' : Heap} {w w' : World} {base : Nat} (hr : HR μ base H w) (hb : base ≤ w.heap.size) (he : Ext μ H w μ' H' w') : Below base w w' :=
  ⟨he.os, he.tape, he.output, he.size, fun k hk => he.keep k (by omega) (fun b B d lim hg hm => by have := (hr.live b B k d lim hg hm).1; omega)⟩
theorem belowTrans {B : Nat} {w w' w'' : World} (h : Below B w w') (k : Below B w' w'') : Below B w w'' :=
  ⟨k.os.trans h.os, k.tape.trans h.tape, k.output.trans h.output, Nat.le_trans h.size k.size, fun q hq => (k.block q hq).trans (h.block q hq)⟩
end Go.Proofs.YtkmhbfgkhalaoaaGreatDoor.LM

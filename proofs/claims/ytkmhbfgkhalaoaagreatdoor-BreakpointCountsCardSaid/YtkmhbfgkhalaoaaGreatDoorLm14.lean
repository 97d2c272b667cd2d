/- append where the capacity is not known: the machine. -/
import Derived.Test.YtkmhbfgkhalaoaaGreatDoorLm13
set_option linter.unusedVariables false
set_option linter.unusedSimpArgs false
set_option linter.unusedSectionVars false
namespace Go.Proofs.YtkmhbfgkhalaoaaGreatDoor.LM
open Go Go.RowKit

theorem ext_heap {μ : Mu} {base : Nat} {H H' : Heap} {w w' : World} (hw : HW H) (hr : HR μ base H w) (hf : μ H.next = none) {b : Nat} {B NB : Blk} {full : Bool} {r2 d2 lim2 : Nat} {rb db limb : Nat}
    (hg : H.bl.get b = some B) (hmb : μ b = some (rb, db, limb)) (hst : B.stale = false) (hnx : H'.next = H.next + 1) (hNst : NB.stale = false) (hNch : NB.chain = B.chain)
    (hfu : full = true → NB.anc = b :: B.anc) (hnf : full = false → NB.anc = [])
    (hbl : ∀ k, H'.bl.get k = if k = H.next then some NB else if k = b then some ⟨if full then B.n else 0, B.z, B.c, B.chain, true, []⟩
        else if full = false ∧ k ∈ B.anc then (H.bl.get k).map (fun B => { B with n := 0 }) else H.bl.get k)
    (hsz : w.heap.size ≤ w'.heap.size)
    (hold : ∀ k K rk dk limk i, H.bl.get k = some K → μ k = some (rk, dk, limk) → i < K.n → (k = b → full = true) → (k ∈ B.anc → full = true) → w'.cell? ⟨rk, dk + i, none⟩ = w.cell? ⟨rk, dk + i, none⟩)
    (hlive : ∀ k K rk dk limk i, H.bl.get k = some K → μ k = some (rk, dk, limk) → i < limk → (∃ v, w'.cell? ⟨rk, i, none⟩ = some v) ∧ w'.fro ⟨rk, i, none⟩ = false)
    (hN1 : base ≤ r2 ∧ r2 < w'.heap.size ∧ d2 + NB.n ≤ lim2) (hN2 : ∀ i, i < lim2 → (∃ v, w'.cell? ⟨r2, i, none⟩ = some v) ∧ w'.fro ⟨r2, i, none⟩ = false)
    (hN3 : ∀ i, i < NB.n → (NB.cell i).oneCell' = true ∧ ∃ v, w'.cell? ⟨r2, d2 + i, none⟩ = some v ∧ VR μ (NB.cell i) v)
    (hN4 : ∀ k K dk limk, H.bl.get k = some K → μ k = some (r2, dk, limk) → K.chain = B.chain)
    (hN5 : full = true → ∀ x X d' lim', (x = b ∨ x ∈ B.anc) → H.bl.get x = some X → 0 < X.n → μ x = some (r2, d', lim') → d' + X.n ≤ d2 + NB.n)
    (hkeep : ∀ q, q < w.heap.size → (∀ k K d lim, H.bl.get k = some K → μ k ≠ some (q, d, lim)) → w'.heap[q]? = w.heap[q]?)
    (hfresh : w.heap.size ≤ r2 ∨ ∃ b0 B0 d0 l0, H.bl.get b0 = some B0 ∧ μ b0 = some (r2, d0, l0)) (h1 : w'.os = w.os) (h2 : w'.tape = w.tape) (h3 : w'.output = w.output) :
    HW H' ∧ HR (upd μ H.next (r2, d2, lim2)) base H' w' ∧ Ext μ H w (upd μ H.next (r2, d2, lim2)) H' w' := by
  have hup : ∀ k x, μ k = some x → upd μ H.next (r2, d2, lim2) k = some x := by
    intro k x hx; unfold upd; rw [if_neg (fun e => by rw [e, hf] at hx; cases hx)]; exact hx
  have hmo : ∀ k, k ≠ H.next → upd μ H.next (r2, d2, lim2) k = μ k := fun k hk => by unfold upd; rw [if_neg hk]
  have hmn : upd μ H.next (r2, d2, lim2) H.next = some (r2, d2, lim2) := by unfold upd; rw [if_pos rfl]
  have hbn : b ≠ H.next := fun e => by have := hw.dom b B hg; omega
  -- what the blocks are
  have hcase : ∀ k K', H'.bl.get k = some K' → (k = H.next ∧ K' = NB) ∨ (k ≠ H.next ∧ ∃ K, H.bl.get k = some K ∧ K'.chain = K.chain ∧ K'.n ≤ K.n ∧ (K'.stale = false → k ≠ b ∧ K.stale = false ∧ K'.anc = K.anc) ∧ (K'.anc = [] ∨ K'.anc = K.anc) ∧ (K.stale = true → K'.stale = true) ∧
      (0 < K'.n → (k = b → full = true) ∧ (k ∈ B.anc → full = true) ∧ K'.n = K.n ∧ ∀ i, K'.cell i = K.cell i) ∧ (K'.stale = false → 0 < K'.n → K' = K) ∧ (K'.stale = false → k ∉ B.anc → K' = K)) := by
    intro k K' hk
    rw [hbl k] at hk
    by_cases e1 : k = H.next
    · rw [if_pos e1] at hk; cases hk; exact .inl ⟨e1, rfl⟩
    · rw [if_neg e1] at hk
      refine .inr ⟨e1, ?_⟩
      by_cases e2 : k = b
      · rw [if_pos e2] at hk
        cases hk
        subst e2
        refine ⟨B, hg, rfl, ?_, fun h => (by cases h), .inl rfl, fun _ => rfl, fun hp => ?_, fun h => (by cases h), fun h => (by cases h)⟩
        · cases full
          · exact Nat.zero_le _
          · exact Nat.le_refl _
        · cases full
          · exact absurd hp (Nat.lt_irrefl _)
          · exact ⟨fun _ => rfl, fun _ => rfl, rfl, fun i => rfl⟩
      · rw [if_neg e2] at hk
        by_cases e3 : full = false ∧ k ∈ B.anc
        · rw [if_pos e3] at hk
          cases hK : H.bl.get k with
          | none => rw [hK] at hk; cases hk
          | some K =>
            rw [hK] at hk
            cases hk
            exact ⟨K, rfl, rfl, Nat.zero_le _, fun h => ⟨e2, h, rfl⟩, .inr rfl, fun h => h, fun hp => absurd hp (Nat.lt_irrefl _), fun _ hp => absurd hp (Nat.lt_irrefl _), fun _ h => absurd e3.2 h⟩
        · rw [if_neg e3] at hk
          refine ⟨K', hk, rfl, Nat.le_refl _, fun h => ⟨e2, h, rfl⟩, .inr rfl, fun h => h, fun _ => ⟨fun e => absurd e e2, fun ha => ?_, rfl, fun _ => rfl⟩, fun _ _ => rfl, fun _ _ => rfl⟩
          cases full
          · exact absurd ⟨rfl, ha⟩ e3
          · rfl
  have hNanc : ∀ x, x ∈ NB.anc → full = true ∧ (x = b ∨ x ∈ B.anc) := by
    intro x hx
    cases hfl : full with
    | true => rw [hfu hfl] at hx; exact ⟨rfl, List.mem_cons.1 hx⟩
    | false => rw [hnf hfl] at hx; cases hx
  refine ⟨⟨?_, ?_, ?_, ?_, ?_, ?_⟩, ⟨?_, ?_, ?_, ?_, ?_⟩, ?_⟩
  · intro k K' hk
    rcases hcase k K' hk with ⟨rfl, _⟩ | ⟨_, K, hK, _⟩
    · omega
    · have := hw.dom k K hK; omega
  · intro k K' hk
    rcases hcase k K' hk with ⟨rfl, rfl⟩ | ⟨_, K, hK, hc, _⟩
    · rw [hNch]; have := hw.chlt b B hg; omega
    · rw [hc]; have := hw.chlt k K hK; omega
  · intro k1 K1 k2 K2 hk1 hk2 hch hne hs hp
    rcases hcase k1 K1 hk1 with ⟨rfl, rfl⟩ | ⟨n1, L1, hL1, c1, m1, s1, a1, t1, p1, q1, u1⟩
    · rcases hcase k2 K2 hk2 with ⟨rfl, _⟩ | ⟨n2, L2, hL2, c2, m2, s2, a2, t2, p2, q2, u2⟩
      · exact absurd rfl hne
      · obtain ⟨f1, f2, f3, _⟩ := p2 hp
        by_cases e : k2 = b
        · have := hfu (f1 e); rw [this, e]; exact List.mem_cons_self
        · have := hw.anc b B k2 L2 hg hL2 (by rw [← c2, ← hch, hNch]) (Ne.symm e) hst (by omega)
          rw [hfu (f2 this)]
          exact List.mem_cons_of_mem _ this
    · obtain ⟨s1a, s1b, s1c⟩ := s1 hs
      rcases hcase k2 K2 hk2 with ⟨rfl, rfl⟩ | ⟨n2, L2, hL2, c2, m2, s2, a2, t2, p2, q2, u2⟩
      · exact absurd (hw.uniq k1 L1 b B hL1 hg (by rw [← c1, hch, hNch]) s1b hst) s1a
      · rw [s1c]
        exact hw.anc k1 L1 k2 L2 hL1 hL2 (by rw [← c1, ← c2]; exact hch) hne s1b (by omega)
  · intro k1 K1 k2 K2 hk1 hk2 hch hs1 hs2
    rcases hcase k1 K1 hk1 with ⟨rfl, rfl⟩ | ⟨n1, L1, hL1, c1, m1, s1, a1, t1, p1, q1, u1⟩
    · rcases hcase k2 K2 hk2 with ⟨rfl, _⟩ | ⟨n2, L2, hL2, c2, m2, s2, _⟩
      · rfl
      · obtain ⟨y1, y2, _⟩ := s2 hs2
        exact absurd (hw.uniq k2 L2 b B hL2 hg (by rw [← c2, ← hch, hNch]) y2 hst) y1
    · obtain ⟨s1a, s1b, s1c⟩ := s1 hs1
      rcases hcase k2 K2 hk2 with ⟨rfl, rfl⟩ | ⟨n2, L2, hL2, c2, m2, s2, _⟩
      · exact absurd (hw.uniq k1 L1 b B hL1 hg (by rw [← c1, hch, hNch]) s1b hst) s1a
      · exact hw.uniq k1 L1 k2 L2 hL1 hL2 (by rw [← c1, ← c2]; exact hch) s1b (s2 hs2).2.1
  · intro k K' x hk hx
    rcases hcase k K' hk with ⟨rfl, rfl⟩ | ⟨_, K, hK, _, _, _, ha, _⟩
    · rcases (hNanc x hx).2 with rfl | h
      · have := hw.dom x B hg; omega
      · have := hw.ancdom b B x hg h; omega
    · rcases ha with ha | ha
      · rw [ha] at hx; cases hx
      · rw [ha] at hx; have := hw.ancdom k K x hK hx; omega
  · intro k K' x X hk hx hX
    rcases hcase x X hX with ⟨rfl, rfl⟩ | ⟨nx, L, hL, cL, mL, sL, aL, tL, _⟩
    · -- the new block is nobody's ancestor
      rcases hcase k K' hk with ⟨rfl, rfl⟩ | ⟨_, K, hK, _, _, _, ha, _⟩
      · rcases (hNanc _ hx).2 with h | h
        · exact absurd h.symm hbn
        · have := hw.ancdom b B _ hg h; omega
      · rcases ha with ha | ha
        · rw [ha] at hx; cases hx
        · rw [ha] at hx; have := hw.ancdom k K _ hK hx; omega
    · cases hXs : X.stale with
      | true => rfl
      | false =>
        obtain ⟨y1, y2, _⟩ := sL hXs
        rcases hcase k K' hk with ⟨rfl, rfl⟩ | ⟨_, K, hK, _, _, _, ha, _⟩
        · rcases (hNanc _ hx).2 with h | h
          · exact absurd h y1
          · rw [hw.ancs b B x L hg h hL] at y2; cases y2
        · rcases ha with ha | ha
          · rw [ha] at hx; cases hx
          · rw [ha] at hx; rw [hw.ancs k K x L hK hx hL] at y2; cases y2
  · intro k K' rk dk limk hk hm
    rcases hcase k K' hk with ⟨rfl, rfl⟩ | ⟨hn, K, hK, _, hle, _⟩
    · rw [hmn] at hm
      cases hm
      exact ⟨hN1.1, hN1.2.1, hN1.2.2, hN2⟩
    · rw [hmo k hn] at hm
      obtain ⟨g1, g2, g3, g4⟩ := hr.live k K rk dk limk hK hm
      exact ⟨g1, by omega, by omega, fun i hi => hlive k K rk dk limk i hK hm hi⟩
  · intro k K' rk dk limk i hk hm hi
    rcases hcase k K' hk with ⟨rfl, rfl⟩ | ⟨hn, K, hK, _, hle, _, _, _, hp, _⟩
    · rw [hmn] at hm
      cases hm
      obtain ⟨q1, u, q2, q3⟩ := hN3 i hi
      exact ⟨q1, u, q2, q3.mono hup⟩
    · rw [hmo k hn] at hm
      obtain ⟨f1, f2, f3, f4⟩ := hp (by omega)
      obtain ⟨q1, u, q2, q3⟩ := hr.cell k K rk dk limk i hK hm (by omega)
      exact ⟨by rw [f4]; exact q1, u, by rw [hold k K rk dk limk i hK hm (by omega) f1 f2]; exact q2, by rw [f4]; exact q3.mono hup⟩
  · intro k1 K1 rk d1 l1 k2 K2 d2' l2 hk1 hm1 hk2 hm2
    rcases hcase k1 K1 hk1 with ⟨rfl, rfl⟩ | ⟨n1, L1, hL1, c1, _⟩
    · rw [hmn] at hm1
      cases hm1
      rcases hcase k2 K2 hk2 with ⟨rfl, rfl⟩ | ⟨n2, L2, hL2, c2, _⟩
      · rfl
      · rw [hmo k2 n2] at hm2
        rw [hNch, c2]
        exact (hN4 k2 L2 d2' l2 hL2 hm2).symm
    · rw [hmo k1 n1] at hm1
      rcases hcase k2 K2 hk2 with ⟨rfl, rfl⟩ | ⟨n2, L2, hL2, c2, _⟩
      · rw [hmn] at hm2
        cases hm2
        rw [hNch, c1]
        exact hN4 k1 L1 d1 l1 hL1 hm1
      · rw [hmo k2 n2] at hm2
        rw [c1, c2]
        exact hr.chain k1 L1 rk d1 l1 k2 L2 d2' l2 hL1 hm1 hL2 hm2
  · intro k K' rk dk limk hk hm x hx
    rcases hcase k K' hk with ⟨rfl, rfl⟩ | ⟨hn, K, hK, _, _, _, ha, _⟩
    · rcases (hNanc x hx).2 with rfl | h
      · exact ⟨_, hup _ _ hmb⟩
      · obtain ⟨y, hy⟩ := hr.ancm b B rb db limb hg hmb x h
        exact ⟨y, hup _ _ hy⟩
    · rw [hmo k hn] at hm
      rcases ha with ha | ha
      · rw [ha] at hx; cases hx
      · rw [ha] at hx
        obtain ⟨y, hy⟩ := hr.ancm k K rk dk limk hK hm x hx
        exact ⟨y, hup _ _ hy⟩
  · intro k K' x X rk dk limk d' lim' hk hs hx hX hp hm hm'
    rcases hcase x X hX with ⟨rfl, rfl⟩ | ⟨nx, L, hL, cL, mL, sL, aL, tL, pL, _⟩
    · rcases hcase k K' hk with ⟨rfl, rfl⟩ | ⟨_, K, hK, _, _, _, ha, _⟩
      · rcases (hNanc _ hx).2 with h | h
        · exact absurd h.symm hbn
        · have := hw.ancdom b B _ hg h; omega
      · rcases ha with ha | ha
        · rw [ha] at hx; cases hx
        · rw [ha] at hx; have := hw.ancdom k K _ hK hx; omega
    · rw [hmo x nx] at hm'
      obtain ⟨f1, f2, f3, f4⟩ := pL hp
      rcases hcase k K' hk with ⟨rfl, rfl⟩ | ⟨hn, K, hK, _, hle, hsK, ha, _, _, _, hsame⟩
      · rw [hmn] at hm
        cases hm
        obtain ⟨hfl, hor⟩ := hNanc x hx
        rw [f3]
        exact hN5 hfl x L d' lim' hor hL (by omega) hm'
      · rw [hmo k hn] at hm
        obtain ⟨g1, g2, g3⟩ := hsK hs
        rw [g3] at hx
        have hkn : k ∉ B.anc := fun h => by rw [hw.ancs b B k K hg h hK] at g2; cases g2
        have := hsame hs hkn
        subst this
        rw [f3]
        exact hr.below k K' x L rk dk limk d' lim' hK g2 hx hL (by omega) hm hm'
  · refine ⟨by omega, fun k hk => hmo k (by omega), fun k K' hlt hk => ?_, fun k hlt hn => ?_, hkeep, fun k rk dk limk hl1 hl2 hm => ?_, hsz, h1, h2, h3⟩
    · rcases hcase k K' hk with ⟨rfl, _⟩ | ⟨_, K, hK, _⟩
      · omega
      · exact ⟨K, hK⟩
    · rw [hbl k, if_neg (by omega), if_neg (fun e => by rw [e, hmb] at hn; cases hn)]
      rw [if_neg]
      rintro ⟨_, ha⟩
      obtain ⟨y, hy⟩ := hr.ancm b B rb db limb hg hmb k ha
      rw [hn] at hy
      cases hy
    · have : k = H.next := by omega
      subst this
      rw [hmn] at hm
      cases hm
      exact hfresh

end Go.Proofs.YtkmhbfgkhalaoaaGreatDoor.LM

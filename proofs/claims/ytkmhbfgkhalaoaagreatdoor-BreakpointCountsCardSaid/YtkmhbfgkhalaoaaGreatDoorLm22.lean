/- Blocks of the evaluator that the machine has not made yet. -/
import Derived.Test.YtkmhbfgkhalaoaaGreatDoorLm21
set_option linter.unusedVariables false
set_option linter.unusedSimpArgs false
set_option linter.unusedSectionVars false
namespace Go.Proofs.YtkmhbfgkhalaoaaGreatDoor.LM
open Go Go.RowKit

/-- A block that the machine has not made yet is added. -/
theorem add_HW {H : Heap} {B : Blk} (hw : HW H) (hch : B.chain = H.next) (han : B.anc = []) : HW ⟨H.next + 1, H.bl.set H.next B⟩ := by
  have hc : ∀ k K, (H.bl.set H.next B).get k = some K → (k = H.next ∧ K = B) ∨ (k ≠ H.next ∧ H.bl.get k = some K) := by
    intro k K hk
    rw [Tr.get_set] at hk
    by_cases e : k = H.next
    · rw [if_pos e] at hk; cases hk; exact .inl ⟨e, rfl⟩
    · rw [if_neg e] at hk; exact .inr ⟨e, hk⟩
  refine ⟨fun k K hk => ?_, fun k K hk => ?_, fun k K k' K' hk hk' hcc hne hs hp => ?_, fun k K k' K' hk hk' hcc hs hs' => ?_, fun k K x hk hx => ?_, fun k K x X hk hx hX => ?_⟩
  · rcases hc k K hk with ⟨rfl, _⟩ | ⟨_, h⟩
    · exact Nat.lt_succ_self _
    · exact Nat.lt_succ_of_lt (hw.dom k K h)
  · rcases hc k K hk with ⟨rfl, rfl⟩ | ⟨_, h⟩
    · rw [hch]; exact Nat.lt_succ_self _
    · exact Nat.lt_succ_of_lt (hw.chlt k K h)
  · rcases hc k K hk with ⟨rfl, rfl⟩ | ⟨_, h⟩
    · rcases hc k' K' hk' with ⟨rfl, _⟩ | ⟨_, h'⟩
      · exact absurd rfl hne
      · have := hw.chlt k' K' h'; omega
    · rcases hc k' K' hk' with ⟨rfl, rfl⟩ | ⟨_, h'⟩
      · have := hw.chlt k K h; omega
      · exact hw.anc k K k' K' h h' hcc hne hs hp
  · rcases hc k K hk with ⟨rfl, rfl⟩ | ⟨_, h⟩
    · rcases hc k' K' hk' with ⟨rfl, _⟩ | ⟨_, h'⟩
      · rfl
      · have := hw.chlt k' K' h'; omega
    · rcases hc k' K' hk' with ⟨rfl, rfl⟩ | ⟨_, h'⟩
      · have := hw.chlt k K h; omega
      · exact hw.uniq k K k' K' h h' hcc hs hs'
  · rcases hc k K hk with ⟨rfl, rfl⟩ | ⟨_, h⟩
    · rw [han] at hx; cases hx
    · exact Nat.lt_succ_of_lt (hw.ancdom k K x h hx)
  · rcases hc k K hk with ⟨rfl, rfl⟩ | ⟨_, h⟩
    · rw [han] at hx; cases hx
    · rcases hc x X hX with ⟨rfl, rfl⟩ | ⟨_, h'⟩
      · have := hw.ancdom k K _ h hx; omega
      · exact hw.ancs k K x X h hx h'

theorem add_HR {μ : Mu} {base : Nat} {H : Heap} {w : World} {B : Blk} (hr : HR μ base H w) (hn : μ H.next = none) : HR μ base ⟨H.next + 1, H.bl.set H.next B⟩ w := by
  have hc : ∀ k K y, (H.bl.set H.next B).get k = some K → μ k = some y → H.bl.get k = some K := by
    intro k K y hk hm
    rw [Tr.get_set] at hk
    by_cases e : k = H.next
    · rw [e, hn] at hm; cases hm
    · rw [if_neg e] at hk; exact hk
  exact ⟨fun k K r d lim hk hm => hr.live k K r d lim (hc k K _ hk hm) hm, fun k K r d lim i hk hm hi => hr.cell k K r d lim i (hc k K _ hk hm) hm hi,
    fun k K r d lim k' K' d' lim' hk hm hk' hm' => hr.chain k K r d lim k' K' d' lim' (hc k K _ hk hm) hm (hc k' K' _ hk' hm') hm',
    fun k K r d lim hk hm x hx => hr.ancm k K r d lim (hc k K _ hk hm) hm x hx,
    fun k K x X r d lim d' lim' hk hs hx hX hp hm hm' => hr.below k K x X r d lim d' lim' (hc k K _ hk hm) hs hx (hc x X _ hX hm') hp hm hm'⟩

theorem add_Ext {μ0 μ : Mu} {H0 H : Heap} {w0 w : World} {B : Blk} (he : Ext μ0 H0 w0 μ H w) (hn : μ H.next = none) : Ext μ0 H0 w0 μ ⟨H.next + 1, H.bl.set H.next B⟩ w := by
  refine ⟨Nat.le_succ_of_le he.next, fun b hb => ?_, fun b B' hb hg => ?_, fun b hb hu => ?_, he.keep, fun b r d lim h1 h2 hm => ?_, he.size, he.os, he.tape, he.output⟩
  · rcases hb with hb | hb
    · exact he.mu b (.inl hb)
    · exact he.mu b (.inr (Nat.le_of_succ_le hb))
  · simp only [Tr.get_set] at hg
    rw [if_neg (by have := he.next; omega)] at hg
    exact he.back b B' hb hg
  · simp only [Tr.get_set]
    rw [if_neg (by have := he.next; omega)]
    exact he.unm b hb hu
  · by_cases e : b = H.next
    · rw [e, hn] at hm; cases hm
    · exact he.fresh b r d lim h1 (by have : b < H.next + 1 := h2; omega) hm

/-- The machine makes a block that the evaluator has already. -/
theorem map_HR {μ : Mu} {base : Nat} {H : Heap} {w w' : World} {b : Nat} {B : Blk} {cs : Array Value} (hr : HR μ base H w) (hb : base ≤ w.heap.size) (hg : H.bl.get b = some B) (hn : μ b = none) (han : B.anc = [])
    (hle : B.n ≤ cs.size) (hc : ∀ i, i < B.n → (B.cell i).oneCell' = true ∧ ∃ u, cs[i]? = some u ∧ VR μ (B.cell i) u)
    (hsz : w'.heap.size = w.heap.size + 1) (hkeep : ∀ r, r < w.heap.size → w'.heap[r]? = w.heap[r]?) (hcn : ∀ i u, cs[i]? = some u → w'.cell? ⟨w.heap.size, i, none⟩ = some u)
    (hfn : ∀ i, i < cs.size → w'.fro ⟨w.heap.size, i, none⟩ = false) : HR (upd μ b (w.heap.size, 0, cs.size)) base H w' := by
  have hup : ∀ k x, μ k = some x → upd μ b (w.heap.size, 0, cs.size) k = some x := by
    intro k x hx; unfold upd; rw [if_neg (fun e => by rw [e, hn] at hx; cases hx)]; exact hx
  have hold : ∀ k, k ≠ b → upd μ b (w.heap.size, 0, cs.size) k = μ k := fun k hk => by unfold upd; rw [if_neg hk]
  have hnew : upd μ b (w.heap.size, 0, cs.size) b = some (w.heap.size, 0, cs.size) := by unfold upd; rw [if_pos rfl]
  have hcell : ∀ r i, r < w.heap.size → w'.cell? ⟨r, i, none⟩ = w.cell? ⟨r, i, none⟩ := fun r i hr => by simp [World.cell?, hkeep r hr]
  have hfro : ∀ r i, r < w.heap.size → w'.fro ⟨r, i, none⟩ = w.fro ⟨r, i, none⟩ := fun r i hr => by simp [World.fro, hkeep r hr]
  refine ⟨?_, ?_, ?_, ?_, ?_⟩
  · intro k K r d lim hk hm
    by_cases e : k = b
    · subst e
      rw [hg] at hk
      cases hk
      rw [hnew] at hm
      cases hm
      exact ⟨hb, by omega, by omega, fun i hi => ⟨⟨cs[i], hcn i _ (Array.getElem?_eq_getElem hi)⟩, hfn i hi⟩⟩
    · rw [hold k e] at hm
      obtain ⟨h1, h2, h3, h4⟩ := hr.live k K r d lim hk hm
      refine ⟨h1, by omega, h3, fun i hi => ?_⟩
      rw [hcell r i h2, hfro r i h2]
      exact h4 i hi
  · intro k K r d lim i hk hm hi
    by_cases e : k = b
    · subst e
      rw [hg] at hk
      cases hk
      rw [hnew] at hm
      cases hm
      obtain ⟨h1, u, h2, h3⟩ := hc i hi
      exact ⟨h1, u, by rw [Nat.zero_add]; exact hcn i u h2, h3.mono hup⟩
    · rw [hold k e] at hm
      obtain ⟨h1, u, h2, h3⟩ := hr.cell k K r d lim i hk hm hi
      exact ⟨h1, u, by rw [hcell r _ (hr.live k K r d lim hk hm).2.1]; exact h2, h3.mono hup⟩
  · intro k K r d lim k' K' d' lim' hk hm hk' hm'
    by_cases e : k = b
    · subst e
      rw [hnew] at hm
      cases hm
      by_cases e' : k' = k
      · subst e'; rw [hk] at hk'; cases hk'; rfl
      · rw [hold k' e'] at hm'
        exact absurd (hr.live k' K' _ d' lim' hk' hm').2.1 (Nat.lt_irrefl _)
    · rw [hold k e] at hm
      by_cases e' : k' = b
      · subst e'
        rw [hnew] at hm'
        cases hm'
        exact absurd (hr.live k K _ d lim hk hm).2.1 (Nat.lt_irrefl _)
      · rw [hold k' e'] at hm'
        exact hr.chain k K r d lim k' K' d' lim' hk hm hk' hm'
  · intro k K r d lim hk hm x hx
    by_cases e : k = b
    · subst e
      rw [hg] at hk
      cases hk
      rw [han] at hx
      cases hx
    · rw [hold k e] at hm
      obtain ⟨y, hy⟩ := hr.ancm k K r d lim hk hm x hx
      exact ⟨y, hup x y hy⟩
  · intro k K x X r d lim d' lim' hk hs hx hX hp hm hm'
    by_cases e : k = b
    · subst e
      rw [hg] at hk
      cases hk
      rw [han] at hx
      cases hx
    · rw [hold k e] at hm
      by_cases e' : x = b
      · subst e'
        rw [hnew] at hm'
        cases hm'
        exact absurd (hr.live k K _ d lim hk hm).2.1 (Nat.lt_irrefl _)
      · rw [hold x e'] at hm'
        exact hr.below k K x X r d lim d' lim' hk hs hx hX hp hm hm'

theorem map_Ext {μ0 μ : Mu} {H0 H : Heap} {w0 w w' : World} {b n : Nat} (he : Ext μ0 H0 w0 μ H w) (h0 : H0.next ≤ b) (h1 : b < H.next) (hsz : w'.heap.size = w.heap.size + 1) (hkeep : ∀ r, r < w.heap.size → w'.heap[r]? = w.heap[r]?)
    (e1 : w'.os = w.os) (e2 : w'.tape = w.tape) (e3 : w'.output = w.output) : Ext μ0 H0 w0 (upd μ b (w.heap.size, 0, n)) H w' := by
  refine ⟨he.next, fun k hk => ?_, he.back, he.unm, fun r hr hno => ?_, fun k r d lim g1 g2 hm => ?_, by have := he.size; omega, e1.trans he.os, e2.trans he.tape, e3.trans he.output⟩
  · unfold upd
    rw [if_neg (by omega)]
    exact he.mu k hk
  · rw [hkeep r (Nat.lt_of_lt_of_le hr he.size)]
    exact he.keep r hr hno
  · unfold upd at hm
    by_cases e : k = b
    · rw [if_pos e] at hm
      cases hm
      exact .inl he.size
    · rw [if_neg e] at hm
      exact he.fresh k r d lim g1 g2 hm

end Go.Proofs.YtkmhbfgkhalaoaaGreatDoor.LM

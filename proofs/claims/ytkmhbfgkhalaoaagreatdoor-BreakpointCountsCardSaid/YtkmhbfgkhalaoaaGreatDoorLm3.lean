/- Logical heaps and the machine's memory: the relation, and what keeps it. -/
import Derived.Test.YtkmhbfgkhalaoaaGreatDoorLm2
import Derived.Laws.IdiomCopy
import Derived.Laws.NewBlocks
set_option linter.unusedVariables false
set_option linter.unusedSimpArgs false
namespace Go.Proofs.YtkmhbfgkhalaoaaGreatDoor.LM
open Go Go.RowKit

/-! ### What the evaluator's steps do to tries -/
theorem putC_eq {β : Type} (l : List Value) : ∀ (c : Tr Value) (i : Nat) (f : Tr Value → β),
    ∃ c', putC l c i f = f c' ∧ ∀ j, c'.get j = if i ≤ j ∧ j < i + l.length then l[j - i]? else c.get j := by
  induction l with
  | nil => intro c i f; exact ⟨c, rfl, fun j => by rw [if_neg (by simp)]⟩
  | cons v r ih =>
    intro c i f
    obtain ⟨c', e, h⟩ := ih (c.set i v) (i + 1) f
    refine ⟨c', ?_, fun j => ?_⟩
    · show (c.put i v fun c' => putC r c' (i + 1) f) = _
      rw [Tr.put_eq, e]
    · rw [h j]
      by_cases h1 : i + 1 ≤ j ∧ j < i + 1 + r.length
      · rw [if_pos h1, if_pos (by simp; omega), show j - i = (j - (i + 1)) + 1 by omega, List.getElem?_cons_succ]
      · rw [if_neg h1, Tr.get_set]
        by_cases h2 : j = i
        · subst h2
          rw [if_pos rfl, if_pos (by simp)]
          simp
        · rw [if_neg h2, if_neg (by simp; omega)]

theorem kill_eq {β : Type} (l : List Nat) : ∀ (t : Tr Blk) (f : Tr Blk → β),
    ∃ t', kill l t f = f t' ∧ ∀ b, t'.get b = if b ∈ l then (t.get b).map (fun B => { B with n := 0 }) else t.get b := by
  induction l with
  | nil => intro t f; exact ⟨t, rfl, fun b => by simp⟩
  | cons x r ih =>
    intro t f
    cases hx : t.get x with
    | none =>
      obtain ⟨t', e, h⟩ := ih t f
      refine ⟨t', ?_, fun b => ?_⟩
      · show (match t.get x with
          | some ⟨_, z, c, ch, st, an⟩ => t.put x ⟨0, z, c, ch, st, an⟩ fun t' => kill r t' f
          | none => kill r t f) = _
        rw [hx]; exact e
      · rw [h b]
        by_cases hb : b = x
        · subst hb; simp [hx]
        · simp [hb]
    | some B =>
      obtain ⟨n, z, c, ch, st, an⟩ := B
      obtain ⟨t', e, h⟩ := ih (t.set x ⟨0, z, c, ch, st, an⟩) f
      refine ⟨t', ?_, fun b => ?_⟩
      · show (match t.get x with
          | some ⟨_, z, c, ch, st, an⟩ => t.put x ⟨0, z, c, ch, st, an⟩ fun t' => kill r t' f
          | none => kill r t f) = _
        rw [hx]
        show (t.put x ⟨0, z, c, ch, st, an⟩ fun t' => kill r t' f) = _
        rw [Tr.put_eq, e]
      · rw [h b, Tr.get_set]
        by_cases hb : b = x
        · subst hb; simp [hx]
        · simp [hb]

/-! ### Values -/
abbrev Mu := Nat → Option (Nat × Nat × Nat)

/-- A value of the evaluator and one of the machine: blocks are renamed; of some slices the capacity is not known. -/
inductive VR (μ : Mu) : Value → Value → Prop
  | flat {v : Value} (h : flat v = true) : VR μ v v
  | ptr {b o r d lim : Nat} (h : μ b = some (r, d, lim)) : VR μ (.pointer (some ⟨b, o, none⟩)) (.pointer (some ⟨r, d + o, none⟩))
  | sl {b o r d lim l c c' : Nat} (h : μ b = some (r, d, lim)) (hl : l ≤ c') (hc : (c = c' ∧ c' < U) ∨ ∃ z, c = U + z ∧ d + o + c' * z ≤ lim) :
      VR μ (.slice (some ⟨b, o, none⟩) l c) (.slice (some ⟨r, d + o, none⟩) l c')
  | emp {A : Option Addr} {c' : Nat} : VR μ (.slice none 0 U) (.slice A 0 c')
  | agg {xs ys : List Value} (hn : xs.length = ys.length) (h : ∀ (i : Nat) (x y : Value), xs[i]? = some x → ys[i]? = some y → VR μ x y) : VR μ (.agg ⟨xs⟩) (.agg ⟨ys⟩)
  | tup {xs ys : List Value} (hn : xs.length = ys.length) (h : ∀ (i : Nat) (x y : Value), xs[i]? = some x → ys[i]? = some y → VR μ x y) : VR μ (.tuple ⟨xs⟩) (.tuple ⟨ys⟩)
  | fn {f : Fn} {xs ys us vs : List Value} (hy : plainF f = true) (hn : xs.length = ys.length) (h : ∀ (i : Nat) (x y : Value), xs[i]? = some x → ys[i]? = some y → VR μ x y)
      (hm : us.length = vs.length) (g : ∀ (i : Nat) (x y : Value), us[i]? = some x → vs[i]? = some y → VR μ x y) : VR μ (.func f ⟨xs⟩ ⟨us⟩) (.func f ⟨ys⟩ ⟨vs⟩)
  | yl {b l : Nat} (h : μ b = some (l, 0, 0)) : VR μ (.func (.yield b) ⟨[]⟩ ⟨[]⟩) (.func (.yield l) ⟨[]⟩ ⟨[]⟩)

/-- Lists, place by place. -/
def LR (μ : Mu) (xs ys : List Value) : Prop := xs.length = ys.length ∧ ∀ (i : Nat) (x y : Value), xs[i]? = some x → ys[i]? = some y → VR μ x y

theorem VR.mono {μ μ' : Mu} (hm : ∀ b x, μ b = some x → μ' b = some x) {v v' : Value} (h : VR μ v v') : VR μ' v v' := by
  induction h with
  | flat h => exact .flat h
  | ptr h => exact .ptr (hm _ _ h)
  | sl h hl hc => exact .sl (hm _ _ h) hl hc
  | emp => exact .emp
  | agg hn _ ih => exact .agg hn ih
  | tup hn _ ih => exact .tup hn ih
  | fn hy hn _ hm' _ ih ih' => exact .fn hy hn ih hm' ih'
  | yl h => exact .yl (hm _ _ h)
theorem LR.mono {μ μ' : Mu} (hm : ∀ b x, μ b = some x → μ' b = some x) {v v' : List Value} (h : LR μ v v') : LR μ' v v' :=
  ⟨h.1, fun i x y hx hy => (h.2 i x y hx hy).mono hm⟩

theorem VR.one {μ : Mu} {v v' : Value} (h : VR μ v v') : v'.oneCell' = v.oneCell' := by cases h <;> rfl

theorem LR.nil {μ : Mu} : LR μ [] [] := ⟨rfl, fun i x y hx => by simp at hx⟩
theorem LR.cons {μ : Mu} {x y : Value} {xs ys : List Value} (h : VR μ x y) (hs : LR μ xs ys) : LR μ (x :: xs) (y :: ys) := by
  refine ⟨by simp [hs.1], fun i u v hu hv => ?_⟩
  cases i with
  | zero => simp at hu hv; subst hu; subst hv; exact h
  | succ i => exact hs.2 i u v (by simpa using hu) (by simpa using hv)
theorem LR.inv_nil {μ : Mu} {ys : List Value} (h : LR μ [] ys) : ys = [] := List.eq_nil_of_length_eq_zero h.1.symm
theorem LR.inv_cons {μ : Mu} {x : Value} {xs ys : List Value} (h : LR μ (x :: xs) ys) : ∃ y ys', ys = y :: ys' ∧ VR μ x y ∧ LR μ xs ys' := by
  cases ys with
  | nil => have := h.1; simp at this
  | cons y ys => exact ⟨y, ys, rfl, h.2 0 x y rfl rfl, by have := h.1; simpa using this, fun i u v hu hv => h.2 (i + 1) u v (by simpa using hu) (by simpa using hv)⟩
theorem LR.append {μ : Mu} {xs ys us vs : List Value} (h : LR μ xs ys) (g : LR μ us vs) : LR μ (xs ++ us) (ys ++ vs) := by
  induction xs generalizing ys with
  | nil => rw [h.inv_nil]; exact g
  | cons x xs ih => obtain ⟨y, ys', rfl, hv, hs⟩ := h.inv_cons; exact (ih hs).cons hv |> fun k => by simpa using k
theorem LR.get {μ : Mu} {xs ys : List Value} (h : LR μ xs ys) {i : Nat} {x : Value} (hx : xs[i]? = some x) : ∃ y, ys[i]? = some y ∧ VR μ x y := by
  have hi : i < ys.length := by rw [← h.1]; exact (List.getElem?_eq_some_iff.1 hx).1
  exact ⟨ys[i], List.getElem?_eq_getElem hi, h.2 i x _ hx (List.getElem?_eq_getElem hi)⟩
theorem LR.take {μ : Mu} {xs ys : List Value} (h : LR μ xs ys) (n : Nat) : LR μ (xs.take n) (ys.take n) := by
  refine ⟨by simp [h.1], fun i x y hx hy => ?_⟩
  rw [List.getElem?_take] at hx hy
  split at hx
  · rename_i hi; rw [if_pos hi] at hy; exact h.2 i x y hx hy
  · cases hx
theorem LR.drop {μ : Mu} {xs ys : List Value} (h : LR μ xs ys) (n : Nat) : LR μ (xs.drop n) (ys.drop n) := by
  refine ⟨by simp [h.1], fun i x y hx hy => ?_⟩
  rw [List.getElem?_drop] at hx hy
  exact h.2 _ x y hx hy

/-! ### Heaps -/
/-- A cell that is frozen, or stands in a row whose mark is none. -/
def _root_.Go.World.fro (w : World) (a : Addr) : Bool :=
  match w.heap[a.block]? with
  | some (.cells _ _ (lo, hi)) => (decide (lo ≤ a.off) && decide (a.off < hi)) || decide (hi < lo)
  | _ => false
theorem frozen_of_fro {w : World} {a : Addr} (h : w.fro a = false) : w.frozen? a = false := by
  unfold World.fro at h
  unfold World.frozen?
  split at h
  · rename_i c e lo hi hx
    rw [hx]
    simp only [Bool.or_eq_false_iff] at h
    exact h.1
  · rename_i hx
    split
    · rename_i c e lo hi hy
      exact absurd hy (hx c e lo hi)
    · rfl
theorem _root_.Go.World.fro_alloc_new (w : World) (c : Array Value) (t : TypeId) (i : Nat) : (w.alloc (.cells c t)).fro ⟨w.heap.size, i, none⟩ = false := by
  unfold World.fro
  show (match (w.heap.push (.cells c t))[w.heap.size]? with
    | some (.cells _ _ (lo, hi)) => (decide (lo ≤ i) && decide (i < hi)) || decide (hi < lo)
    | _ => false) = false
  rw [Array.getElem?_push_size]
  simp
theorem _root_.Go.World.fro_setCells (b : Nat) : ∀ (vs : List Value) (o : Nat) (w : World) (x : Addr), (w.setCells b o vs).fro x = w.fro x := by
  have one : ∀ (w : World) (a : Addr) (v : Value) (x : Addr), (w.setCell a v).fro x = w.fro x := by
    intro w a v x
    unfold World.fro World.setCell
    simp only [Array.getElem?_modify]
    by_cases h : a.block = x.block
    · rw [if_pos h]
      cases hx : w.heap[x.block]? with
      | none => rfl
      | some o => cases o <;> rfl
    · rw [if_neg h]
  intro vs
  induction vs with
  | nil => intro _ _ _; rfl
  | cons v r ih => intro o w x; rw [World.setCells, ih, one]

structure HW (H : Heap) : Prop where
  dom : ∀ b B, H.bl.get b = some B → b < H.next
  chlt : ∀ b B, H.bl.get b = some B → B.chain < H.next
  anc : ∀ b B b' B', H.bl.get b = some B → H.bl.get b' = some B' → B.chain = B'.chain → b ≠ b' → B.stale = false → 0 < B'.n → b' ∈ B.anc
  uniq : ∀ b B b' B', H.bl.get b = some B → H.bl.get b' = some B' → B.chain = B'.chain → B.stale = false → B'.stale = false → b = b'
  ancdom : ∀ b B x, H.bl.get b = some B → x ∈ B.anc → x < H.next
  ancs : ∀ b B x X, H.bl.get b = some B → x ∈ B.anc → H.bl.get x = some X → X.stale = true

structure HR (μ : Mu) (base : Nat) (H : Heap) (w : World) : Prop where
  live : ∀ b B r d lim, H.bl.get b = some B → μ b = some (r, d, lim) → base ≤ r ∧ r < w.heap.size ∧ d + B.n ≤ lim ∧
    ∀ i, i < lim → (∃ v, w.cell? ⟨r, i, none⟩ = some v) ∧ w.fro ⟨r, i, none⟩ = false
  cell : ∀ b B r d lim i, H.bl.get b = some B → μ b = some (r, d, lim) → i < B.n → (B.cell i).oneCell' = true ∧ ∃ v, w.cell? ⟨r, d + i, none⟩ = some v ∧ VR μ (B.cell i) v
  chain : ∀ b B r d lim b' B' d' lim', H.bl.get b = some B → μ b = some (r, d, lim) → H.bl.get b' = some B' → μ b' = some (r, d', lim') → B.chain = B'.chain
  ancm : ∀ b B r d lim, H.bl.get b = some B → μ b = some (r, d, lim) → ∀ x ∈ B.anc, ∃ y, μ x = some y
  below : ∀ b B x X r d lim d' lim', H.bl.get b = some B → B.stale = false → x ∈ B.anc → H.bl.get x = some X → 0 < X.n → μ b = some (r, d, lim) → μ x = some (r, d', lim') → d' + X.n ≤ d + B.n

structure Ext (μ : Mu) (H : Heap) (w : World) (μ' : Mu) (H' : Heap) (w' : World) : Prop where
  next : H.next ≤ H'.next
  mu : ∀ b, b < H.next ∨ H'.next ≤ b → μ' b = μ b
  back : ∀ b B', b < H.next → H'.bl.get b = some B' → ∃ B, H.bl.get b = some B
  unm : ∀ b, b < H.next → μ b = none → H'.bl.get b = H.bl.get b
  keep : ∀ r, r < w.heap.size → (∀ b B d lim, H.bl.get b = some B → μ b ≠ some (r, d, lim)) → w'.heap[r]? = w.heap[r]?
  fresh : ∀ b r d lim, H.next ≤ b → b < H'.next → μ' b = some (r, d, lim) → w.heap.size ≤ r ∨ ∃ b0 B0 d0 l0, H.bl.get b0 = some B0 ∧ μ b0 = some (r, d0, l0)
  size : w.heap.size ≤ w'.heap.size
  os : w'.os = w.os
  tape : w'.tape = w.tape
  output : w'.output = w.output

def Free (μ : Mu) (H H' : Heap) : Prop := ∀ b, H.next ≤ b → b < H'.next → μ b = none

theorem Ext.refl (μ : Mu) (H : Heap) (w : World) : Ext μ H w μ H w :=
  ⟨Nat.le_refl _, fun _ _ => rfl, fun _ B' _ h => ⟨B', h⟩, fun _ _ _ => rfl, fun _ _ _ => rfl, fun b _ _ _ h1 h2 => by omega, Nat.le_refl _, rfl, rfl, rfl⟩

theorem Ext.le {μ μ' : Mu} {H H' : Heap} {w w' : World} (h : Ext μ H w μ' H' w') (hf : Free μ H H') : ∀ b x, μ b = some x → μ' b = some x := by
  intro b x hb
  by_cases h1 : b < H.next ∨ H'.next ≤ b
  · rw [h.mu b h1]; exact hb
  · rw [hf b (by omega) (by omega)] at hb; cases hb

theorem Ext.trans {μ μ' μ'' : Mu} {H H' H'' : Heap} {w w' w'' : World} (hw : HW H') (h : Ext μ H w μ' H' w') (k : Ext μ' H' w' μ'' H'' w'') : Ext μ H w μ'' H'' w'' where
  next := Nat.le_trans h.next k.next
  mu := fun b hb => by
    have h1 := h.next; have h2 := k.next
    rw [k.mu b (by omega), h.mu b (by omega)]
  back := fun b B' hb hg => by
    have h1 := h.next
    obtain ⟨B1, hB1⟩ := k.back b B' (by omega) hg
    exact h.back b B1 hb hB1
  unm := fun b hb hn => by
    have h1 := h.next
    rw [k.unm b (by omega) (by rw [h.mu b (.inl hb)]; exact hn), h.unm b hb hn]
  keep := fun r hr hno => by
    rw [k.keep r (Nat.lt_of_lt_of_le hr h.size) ?_, h.keep r hr hno]
    intro b B d lim hg hm
    by_cases hb : b < H.next
    · obtain ⟨B0, h0⟩ := h.back b B hb hg
      exact hno b B0 d lim h0 (by rw [← h.mu b (.inl hb)]; exact hm)
    · rcases h.fresh b r d lim (by omega) (hw.dom b B hg) hm with hf | ⟨b0, B0, d0, l0, h0, h1⟩
      · omega
      · exact hno b0 B0 d0 l0 h0 h1
  fresh := fun b r d lim h1 h2 hm => by
    have hs := h.size
    by_cases hb : b < H'.next
    · rw [k.mu b (.inl hb)] at hm
      exact h.fresh b r d lim h1 hb hm
    · rcases k.fresh b r d lim (by omega) h2 hm with hf | ⟨b0, B0, d0, l0, h0, h3⟩
      · exact .inl (by omega)
      · by_cases hb0 : b0 < H.next
        · obtain ⟨B1, hB1⟩ := h.back b0 B0 hb0 h0
          exact .inr ⟨b0, B1, d0, l0, hB1, by rw [← h.mu b0 (.inl hb0)]; exact h3⟩
        · exact h.fresh b0 r d0 l0 (by omega) (hw.dom b0 B0 h0) h3
  size := Nat.le_trans h.size k.size
  os := k.os.trans h.os
  tape := k.tape.trans h.tape
  output := k.output.trans h.output

/-- Another world with the same memory. -/
theorem HR.same {μ : Mu} {base : Nat} {H : Heap} {w w' : World} (h : HR μ base H w) (e : w'.heap = w.heap) : HR μ base H w' := by
  have hc : ∀ a, w'.cell? a = w.cell? a := fun a => by simp [World.cell?, e]
  have hf : ∀ a, w'.fro a = w.fro a := fun a => by simp [World.fro, e]
  exact ⟨fun b B r d lim h1 h2 => by simp only [hc, hf, e]; exact h.live b B r d lim h1 h2, fun b B r d lim i h1 h2 h3 => by simp only [hc]; exact h.cell b B r d lim i h1 h2 h3, h.chain, h.ancm, h.below⟩

def upd (μ : Mu) (b : Nat) (x : Nat × Nat × Nat) : Mu := fun k => if k = b then some x else μ k

/-! ### A new block -/
theorem new_block' {μ : Mu} {base : Nat} {H : Heap} {w w' : World} {n : Nat} {z : Value} {c : Tr Value} {cs : Array Value}
    (hw : HW H) (hr : HR μ base H w) (hb : base ≤ w.heap.size) (hf : μ H.next = none) (hn : n ≤ cs.size)
    (hc : ∀ i, i < n → ((⟨n, z, c, H.next, false, []⟩ : Blk).cell i).oneCell' = true ∧ ∃ v, cs[i]? = some v ∧ VR μ ((⟨n, z, c, H.next, false, []⟩ : Blk).cell i) v)
    (hsz : w'.heap.size = w.heap.size + 1) (hkeep : ∀ r, r < w.heap.size → w'.heap[r]? = w.heap[r]?) (hcn : ∀ i v, cs[i]? = some v → w'.cell? ⟨w.heap.size, i, none⟩ = some v)
    (hfn : ∀ i, i < cs.size → w'.fro ⟨w.heap.size, i, none⟩ = false) (h1 : w'.os = w.os) (h2 : w'.tape = w.tape) (h3 : w'.output = w.output) :
    HW ⟨H.next + 1, H.bl.set H.next ⟨n, z, c, H.next, false, []⟩⟩ ∧ HR (upd μ H.next (w.heap.size, 0, cs.size)) base ⟨H.next + 1, H.bl.set H.next ⟨n, z, c, H.next, false, []⟩⟩ w' ∧
    Ext μ H w (upd μ H.next (w.heap.size, 0, cs.size)) ⟨H.next + 1, H.bl.set H.next ⟨n, z, c, H.next, false, []⟩⟩ w' := by
  have hup : ∀ b x, μ b = some x → upd μ H.next (w.heap.size, 0, cs.size) b = some x := by
    intro b x hx
    unfold upd
    rw [if_neg (fun e => by rw [e, hf] at hx; cases hx)]
    exact hx
  have hold : ∀ b, b ≠ H.next → upd μ H.next (w.heap.size, 0, cs.size) b = μ b := fun b hb => by unfold upd; rw [if_neg hb]
  have hnew : upd μ H.next (w.heap.size, 0, cs.size) H.next = some (w.heap.size, 0, cs.size) := by unfold upd; rw [if_pos rfl]
  have hcell : ∀ r i, r < w.heap.size → w'.cell? ⟨r, i, none⟩ = w.cell? ⟨r, i, none⟩ := fun r i hr => by simp [World.cell?, hkeep r hr]
  have hfro : ∀ r i, r < w.heap.size → w'.fro ⟨r, i, none⟩ = w.fro ⟨r, i, none⟩ := fun r i hr => by simp [World.fro, hkeep r hr]
  refine ⟨⟨?_, ?_, ?_, ?_, ?_, ?_⟩, ⟨?_, ?_, ?_, ?_, ?_⟩, ?_⟩
  · intro b B hg
    simp only [Tr.get_set] at hg
    split at hg
    · show b < H.next + 1; omega
    · have := hw.dom b B hg; show b < H.next + 1; omega
  · intro b B hg
    simp only [Tr.get_set] at hg
    split at hg
    · cases hg; show H.next < H.next + 1; omega
    · have := hw.chlt b B hg; show B.chain < H.next + 1; omega
  · intro b B b' B' hg hg' hch hne hst hp
    simp only [Tr.get_set] at hg hg'
    split at hg <;> split at hg'
    · omega
    · cases hg
      have := hw.chlt b' B' hg'
      dsimp only at hch
      omega
    · cases hg'
      have := hw.chlt b B hg
      dsimp only at hch
      omega
    · exact hw.anc b B b' B' hg hg' hch hne hst hp
  · intro b B b' B' hg hg' hch hst hst'
    simp only [Tr.get_set] at hg hg'
    split at hg <;> split at hg'
    · omega
    · cases hg
      have := hw.chlt b' B' hg'
      dsimp only at hch
      omega
    · cases hg'
      have := hw.chlt b B hg
      dsimp only at hch
      omega
    · exact hw.uniq b B b' B' hg hg' hch hst hst'
  · intro b B x hg hx
    simp only [Tr.get_set] at hg
    split at hg
    · cases hg; cases hx
    · have := hw.ancdom b B x hg hx; show x < H.next + 1; omega
  · intro b B x X hg hx hg'
    simp only [Tr.get_set] at hg hg'
    split at hg
    · cases hg; cases hx
    · split at hg'
      · rename_i e
        subst e
        exact absurd (hw.ancdom b B _ hg hx) (by omega)
      · exact hw.ancs b B x X hg hx hg'
  · intro b B r d lim hg hm
    simp only [Tr.get_set] at hg
    split at hg
    · rename_i e
      subst e
      cases hg
      rw [hnew] at hm
      cases hm
      refine ⟨hb, by omega, by simpa using hn, fun i hi => ⟨?_, ?_⟩⟩
      · exact ⟨cs[i], hcn i _ (Array.getElem?_eq_getElem hi)⟩
      · exact hfn i hi
    · rename_i e
      rw [hold b e] at hm
      obtain ⟨h1, h2, h3, h4⟩ := hr.live b B r d lim hg hm
      refine ⟨h1, by omega, h3, fun i hi => ?_⟩
      rw [hcell r i h2, hfro r i h2]
      exact h4 i hi
  · intro b B r d lim i hg hm hi
    simp only [Tr.get_set] at hg
    split at hg
    · rename_i e
      subst e
      cases hg
      rw [hnew] at hm
      cases hm
      obtain ⟨h1, v, hv, hR⟩ := hc i hi
      exact ⟨h1, v, by rw [Nat.zero_add]; exact hcn i v hv, hR.mono hup⟩
    · rename_i e
      rw [hold b e] at hm
      obtain ⟨h1, v, hv, hR⟩ := hr.cell b B r d lim i hg hm hi
      have h2 := (hr.live b B r d lim hg hm).2.1
      exact ⟨h1, v, by rw [hcell r _ h2]; exact hv, hR.mono hup⟩
  · intro b B r d lim b' B' d' lim' hg hm hg' hm'
    simp only [Tr.get_set] at hg hg'
    split at hg <;> split at hg'
    · cases hg; cases hg'; rfl
    · rename_i e e'
      subst e
      rw [hnew] at hm
      cases hm
      rw [hold b' e'] at hm'
      have := (hr.live b' B' _ d' lim' hg' hm').2.1
      omega
    · rename_i e e'
      subst e'
      rw [hnew] at hm'
      cases hm'
      rw [hold b e] at hm
      have := (hr.live b B _ d lim hg hm).2.1
      omega
    · rename_i e e'
      rw [hold b e] at hm
      rw [hold b' e'] at hm'
      exact hr.chain b B r d lim b' B' d' lim' hg hm hg' hm'
  · intro b B r d lim hg hm x hx
    simp only [Tr.get_set] at hg
    split at hg
    · cases hg; cases hx
    · rename_i e
      rw [hold b e] at hm
      obtain ⟨y, hy⟩ := hr.ancm b B r d lim hg hm x hx
      exact ⟨y, hup x y hy⟩
  · intro b B x X r d lim d' lim' hg hst hx hg' hp hm hm'
    simp only [Tr.get_set] at hg hg'
    split at hg
    · cases hg; cases hx
    · rename_i e
      rw [hold b e] at hm
      split at hg'
      · rename_i e'
        subst e'
        exact absurd (hw.ancdom b B _ hg hx) (by omega)
      · rename_i e'
        rw [hold x e'] at hm'
        exact hr.below b B x X r d lim d' lim' hg hst hx hg' hp hm hm'
  · refine ⟨Nat.le_succ _, fun b hb => hold b ?_, fun b B' hlt hg => ?_, fun b hlt hn => ?_, fun r hlt _ => hkeep r hlt, fun b r d lim h1 h2 hm => ?_, by omega, h1, h2, h3⟩
    · dsimp only at hb; omega
    · simp only [Tr.get_set] at hg
      rw [if_neg (by omega)] at hg
      exact ⟨B', hg⟩
    · simp only [Tr.get_set]
      rw [if_neg (by omega)]
    · dsimp only at h2
      have : b = H.next := by omega
      subst this
      rw [hnew] at hm
      cases hm
      exact .inl (Nat.le_refl _)

theorem new_block {μ : Mu} {base : Nat} {H : Heap} {w : World} {n : Nat} {z : Value} {c : Tr Value} {t : TypeId} {cs : Array Value}
    (hw : HW H) (hr : HR μ base H w) (hb : base ≤ w.heap.size) (hf : μ H.next = none) (hn : n ≤ cs.size)
    (hc : ∀ i, i < n → ((⟨n, z, c, H.next, false, []⟩ : Blk).cell i).oneCell' = true ∧ ∃ v, cs[i]? = some v ∧ VR μ ((⟨n, z, c, H.next, false, []⟩ : Blk).cell i) v) :
    HW ⟨H.next + 1, H.bl.set H.next ⟨n, z, c, H.next, false, []⟩⟩ ∧ HR (upd μ H.next (w.heap.size, 0, cs.size)) base ⟨H.next + 1, H.bl.set H.next ⟨n, z, c, H.next, false, []⟩⟩ (w.alloc (.cells cs t)) ∧
    Ext μ H w (upd μ H.next (w.heap.size, 0, cs.size)) ⟨H.next + 1, H.bl.set H.next ⟨n, z, c, H.next, false, []⟩⟩ (w.alloc (.cells cs t)) :=
  new_block' hw hr hb hf hn hc (by simp) (fun r hlt => heap_alloc_old w _ r hlt) (fun i v hv => by rw [World.cell?_alloc_new]; exact hv) (fun i _ => World.fro_alloc_new w cs t i) rfl rfl rfl

end Go.Proofs.YtkmhbfgkhalaoaaGreatDoor.LM

/- Places, parts and slices. -/
import Derived.Test.YtkmhbfgkhalaoaaGreatDoorLm8
import Derived.Laws.Slices
set_option linter.unusedVariables false
set_option linter.unusedSimpArgs false
set_option linter.unusedSectionVars false
namespace Go.Proofs.YtkmhbfgkhalaoaaGreatDoor.LM
open Go Go.RowKit

theorem sl_inv {μ : Mu} {a : Addr} {l c : Nat} {v : Value} (h : VR μ (.slice (some a) l c) v) : ∃ b o r d lim c', a = ⟨b, o, none⟩ ∧ v = .slice (some ⟨r, d + o, none⟩) l c' ∧ μ b = some (r, d, lim) ∧ l ≤ c' ∧ ((c = c' ∧ c' < U) ∨ ∃ z, c = U + z ∧ d + o + c' * z ≤ lim) := by
  generalize hx : Value.slice (some a) l c = x at h
  cases h with
  | flat h => subst hx; exact absurd h Bool.false_ne_true
  | sl h1 h2 h3 => cases hx; exact ⟨_, _, _, _, _, _, rfl, rfl, h1, h2, h3⟩
  | _ => cases hx
theorem sl0_inv {μ : Mu} {l c : Nat} {v : Value} (h : VR μ (.slice none l c) v) : l = 0 ∧ ((c = 0 ∧ v = .slice none 0 0) ∨ (c = U ∧ ∃ A c', v = .slice A 0 c')) := by
  generalize hx : Value.slice none l c = x at h
  cases h with
  | flat h =>
    subst hx
    cases l with
    | zero => cases c with
      | zero => exact ⟨rfl, .inl ⟨rfl, rfl⟩⟩
      | succ c => exact absurd h Bool.false_ne_true
    | succ l => exact absurd h Bool.false_ne_true
  | emp => cases hx; exact ⟨rfl, .inr ⟨rfl, _, _, rfl⟩⟩
  | _ => cases hx
theorem inR_eq {i : Int} {n m : Nat} (h : inR i n = some m) : i = (m : Int) ∧ m < n := by
  cases i with
  | ofNat k =>
    simp only [inR] at h
    cases hk : Nat.blt k n <;> rw [hk] at h <;> simp only [cond_true, cond_false] at h
    · cases h
    · cases h; exact ⟨rfl, by rwa [Nat.blt_eq] at hk⟩
  | negSucc k => cases h
theorem inQ_eq {i : Int} {n m : Nat} (h : inQ i n = some m) : i = (m : Int) ∧ m ≤ n := by
  cases i with
  | ofNat k =>
    simp only [inQ] at h
    cases hk : Nat.ble k n <;> rw [hk] at h <;> simp only [cond_true, cond_false] at h
    · cases h
    · cases h; exact ⟨rfl, Nat.le_of_ble_eq_true hk⟩
  | negSucc k => cases h

theorem idx_run {P : Program} {μ : Mu} (w : World) {t : TypeId} {x i x' i' v : Value} (h : idx P t x i = some v) (hx : VR μ x x') (hi : VR μ i i') : ∃ v', (Instr.indexAt t x' i').run P w = .ok v' w ∧ VR μ v v' := by
  unfold idx at h
  split at h
  · rename_i k n
    rw [int_inv hi]
    split at h
    · rename_i l e a hu
      split at h
      · rename_i m z hm hz
        split at h
        · rename_i b oo
          simp only [addA, fNat_eq] at h
          cases h
          obtain ⟨rfl, hlt⟩ := inR_eq hm
          obtain ⟨b', o', r, d, lim, e1, rfl, hmu⟩ := ptr_inv hx
          obtain ⟨rfl, rfl⟩ : b = b' ∧ oo = o' := by cases e1; exact ⟨rfl, rfl⟩
          refine ⟨.pointer (some ⟨r, d + (oo + m * z), none⟩), ?_, .ptr hmu⟩
          have h0 : (0 : Int) ≤ (m : Int) ∧ (m : Int) < (l : Int) := by omega
          simp [Instr.indexAt, asIntOf, run_underlying hu, Instr.sureAddr, h0, Nat.not_le_of_lt hlt, hlt, sizeOf_run w hz, add_off, Nat.add_assoc]
        · cases h
      · cases h
    · rename_i e a l c hu
      split at h
      · rename_i m z hm hz
        split at h
        · rename_i b oo
          simp only [addA, fNat_eq] at h
          cases h
          obtain ⟨rfl, hlt⟩ := inR_eq hm
          obtain ⟨b', o', r, d, lim, c', e1, rfl, hmu, _, _⟩ := sl_inv hx
          obtain ⟨rfl, rfl⟩ : b = b' ∧ oo = o' := by cases e1; exact ⟨rfl, rfl⟩
          refine ⟨.pointer (some ⟨r, d + (oo + m * z), none⟩), ?_, .ptr hmu⟩
          have h0 : (0 : Int) ≤ (m : Int) ∧ (m : Int) < (l : Int) := by omega
          simp [Instr.indexAt, asIntOf, run_underlying hu, Instr.sureAddr, h0, Nat.not_le_of_lt hlt, hlt, sizeOf_run w hz, add_off, Nat.add_assoc]
        · cases h
      · cases h
    · cases h
  · cases h

theorem idxV_run {P : Program} {μ : Mu} (w : World) {t : TypeId} {x i x' i' v : Value} (h : idxV P t x i = some v) (hx : VR μ x x') (hi : VR μ i i') : ∃ v', (Instr.index t x' i').run P w = .ok v' w ∧ VR μ v v' := by
  unfold idxV at h
  split at h
  · rename_i k n
    rw [int_inv hi]
    split at h
    · rename_i s hu
      rw [string_inv hx]
      split at h
      · rename_i m
        rw [nth_eq] at h
        split at h
        · rename_i b hb
          rw [fNat_eq] at h
          cases h
          refine ⟨_, ?_, .flat rfl⟩
          have hb' : s[m]? = some b := by
            obtain ⟨hlt, e⟩ := List.getElem?_eq_some_iff.1 hb
            have hlt' : m < s.size := by have e1 : s.size = s.data.toList.length := Array.length_toList.symm; omega
            rw [getElem?_pos s m hlt']
            congr 1
          simp [Instr.index, asIntOf, run_underlying hu, hb']
        · cases h
      · cases h
    · rename_i l e cs hu
      obtain ⟨ys, rfl, hL⟩ := agg_inv hx
      split at h
      · rename_i m z hm hz
        obtain ⟨rfl, hlt⟩ := inR_eq hm
        split at h
        · rename_i ha
          cases hz1 : Nat.beq z 1 <;> rw [hz1] at h <;> simp only [cond_true, cond_false] at h
          · cases h
          · rw [Nat.eq_of_beq_eq_true hz1] at hz
            rw [nth_eq] at h
            obtain ⟨y, hy, hR⟩ := hL.get h
            have h0 : (0 : Int) ≤ (m : Int) ∧ (m : Int) < (l : Int) := by omega
            exact ⟨y, by simp [Instr.index, asIntOf, run_underlying hu, h0, hlt, Nat.not_le_of_lt hlt, sizeOf_run w hz, part, isAgg_run w ha, hy], hR⟩
        · cases h
      · cases h
    · cases h
  · cases h

noncomputable def loOf (lo : Option Value) (h : Nat) : Option Nat := match lo with | none => some 0 | some (.int _ n) => inQ n h | _ => none
noncomputable def hiOf (hi : Option Value) (len hcap : Nat) : Option Nat := match hi with | none => some len | some (.int _ n) => inQ n hcap | _ => none
inductive OptR (μ : Mu) : Option Value → Option Value → Prop
  | none : OptR μ none none
  | some {x y : Value} (h : VR μ x y) : OptR μ (some x) (some y)

theorem hi_run {P : Program} (w : World) {μ : Mu} {len cap hcap h : Nat} {hi hi' : Option Value} {code : BoundsCode} (hle : hcap ≤ cap) (h1 : hiOf hi len hcap = some h) (hR : OptR μ hi hi') (hlc : len ≤ hcap) :
    ((hi' = none ∧ h = len) ∨ ∃ y, hi' = some y ∧ (Instr.sliceBound y cap code).run P w = .ok h w) ∧ h ≤ hcap := by
  cases hR with
  | none => cases h1; exact ⟨.inl ⟨rfl, rfl⟩, hlc⟩
  | some hy =>
    rename_i x y
    cases x with
    | int k n =>
      obtain ⟨rfl, hl⟩ := inQ_eq h1
      rw [int_inv hy]
      exact ⟨.inr ⟨_, rfl, run_sliceBound w k (h : Int) cap code (by omega) (by omega)⟩, hl⟩
    | _ => cases h1
theorem lo_run {P : Program} (w : World) {μ : Mu} {h k : Nat} {lo lo' : Option Value} {code : BoundsCode} (h1 : loOf lo h = some k) (hR : OptR μ lo lo') :
    ((lo' = none ∧ k = 0) ∨ ∃ y, lo' = some y ∧ (Instr.sliceBound y h code).run P w = .ok k w) ∧ k ≤ h := by
  cases hR with
  | none => cases h1; exact ⟨.inl ⟨rfl, rfl⟩, Nat.zero_le _⟩
  | some hy =>
    rename_i x y
    cases x with
    | int kk n =>
      obtain ⟨rfl, hl⟩ := inQ_eq h1
      rw [int_inv hy]
      exact ⟨.inr ⟨_, rfl, run_sliceBound w kk (k : Int) h code (by omega) (by omega)⟩, hl⟩
    | _ => cases h1
/-- The bounds of a slice. -/
theorem bounds_run {P : Program} (w : World) {μ : Mu} {isS : Bool} {len cap hcap h k : Nat} {lo hi : Option Value} {lo' hi' : Option Value} (hle : hcap ≤ cap)
    (h1 : hiOf hi len hcap = some h) (h2 : loOf lo h = some k) (hlo : OptR μ lo lo') (hhi : OptR μ hi hi') (hlc : len ≤ hcap) :
    (Instr.sliceBounds isS len cap lo' hi' none).run P w = .ok (k, h, cap) w ∧ k ≤ h ∧ h ≤ hcap := by
  obtain ⟨hh, hh2⟩ := hi_run (P := P) (code := if isS then .sliceAcap else .sliceAlen) w hle h1 hhi hlc
  obtain ⟨hk, hk2⟩ := lo_run (P := P) (code := .sliceB) w h2 hlo
  refine ⟨?_, hk2, hh2⟩
  rcases hh with ⟨rfl, rfl⟩ | ⟨y, rfl, hy⟩
  · rcases hk with ⟨rfl, rfl⟩ | ⟨z, rfl, hz⟩
    · simp [Instr.sliceBounds]
    · simp [Instr.sliceBounds, hz]
  · rcases hk with ⟨rfl, rfl⟩ | ⟨z, rfl, hz⟩
    · simp [Instr.sliceBounds, hy]
    · simp [Instr.sliceBounds, hy, hz]

/-- The parts of a cut that are read off its bounds. -/
theorem cut_inv {P : Program} {e : TypeId} {x : Option Addr} {l c : Nat} {lo hi mx : Option Value} {v : Value} (h : cut P e x l c lo hi mx = some v) :
    mx = none ∧ ∃ hh k z, hiOf hi l (bif Nat.ble U c then l else c) = some hh ∧ loOf lo hh = some k ∧ sizeP P e = some z ∧
      (bif Nat.ble U c then
            bif Nat.beq k hh then some (.slice none 0 U)
            else bif Nat.beq c (Nat.add U z) then (match x with
              | some a => match a with | ⟨_, _, none⟩ => fNat (Nat.sub hh k) fun l' => addA a (Nat.mul k z) fun a => some (.slice (some a) l' c) | _ => none
              | none => none) else none
          else bif Nat.beq k c then fNat (Nat.sub hh k) fun l' => fNat (Nat.sub c k) fun c' => some (.slice x l' c')
          else match x with
            | some a => match a with | ⟨_, _, none⟩ => fNat (Nat.sub hh k) fun l' => fNat (Nat.sub c k) fun c' => addA a (Nat.mul k z) fun a => some (.slice (some a) l' c') | _ => none
            | none => none) = some v := by
  unfold cut at h
  split at h
  · cases h
  · refine ⟨rfl, ?_⟩
    split at h
    · cases h
    · rename_i hh h1
      split at h
      · cases h
      · rename_i k h2
        split at h
        · cases h
        · rename_i z hz
          exact ⟨hh, k, z, h1, h2, hz, h⟩

theorem ble_U {c : Nat} : Nat.ble U c = true ↔ U ≤ c := ⟨Nat.le_of_ble_eq_true, Nat.ble_eq_true_of_le⟩

theorem elem_of {P : Program} {t e : TypeId} (h : P.underlying t = some (.slice e)) : P.elem t = e := by simp [Program.elem, h]

theorem cut_run {P : Program} (w : World) {μ : Mu} {t e : TypeId} {x : Option Addr} {l c : Nat} {lo hi mx lo' hi' mx' : Option Value} {v x' : Value} (hu : P.underlying t = some (.slice e)) (h : cut P e x l c lo hi mx = some v)
    (hx : VR μ (.slice x l c) x') (hlo : OptR μ lo lo') (hhi : OptR μ hi hi') (hmx : OptR μ mx mx') : ∃ v', (Instr.sliceAt t x' lo' hi' mx').run P w = .ok v' w ∧ VR μ v v' := by
  have hcut := cut_inv h
  clear h
  obtain ⟨rfl, hh, k, z, h1, h2, hz, h⟩ := hcut
  cases hmx
  have hel := elem_of hu
  have hsl : ∀ (y : Value) (a : Option Addr) (n cc : Nat), y = .slice a n cc → (Instr.sliceBounds true n cc lo' hi' none).run P w = .ok (k, hh, cc) w →
      (Instr.sliceAt t y lo' hi' none).run P w = .ok (.slice (if cc = k then a else a.map (·.add (k * z))) (hh - k) (cc - k)) w := by
    intro y a n cc hy hb
    subst hy
    rw [run_sliceAt_slice w t _ _ _ _ (by rw [hel]; exact hu), run_slice_any w t a n cc (by rw [hel]; exact hu), hb]
    simp [hel, sizeOf_run w hz, sliced]
  cases x with
  | none =>
    obtain ⟨rfl, hc⟩ := sl0_inv hx
    rcases hc with ⟨rfl, rfl⟩ | ⟨rfl, A, c', rfl⟩
    · have hU : Nat.ble U 0 = false := rfl
      rw [hU] at h h1
      simp only [cond_false] at h h1
      obtain ⟨hb, hk, hhl⟩ := bounds_run (isS := true) w (Nat.le_refl 0) h1 h2 hlo hhi (Nat.le_refl _)
      obtain rfl : hh = 0 := by omega
      obtain rfl : k = 0 := by omega
      refine ⟨_, hsl _ _ _ _ rfl hb, ?_⟩
      have : Nat.beq 0 0 = true := rfl
      rw [this] at h
      simp only [cond_true, fNat_eq] at h
      cases h
      exact .flat rfl
    · have hU : Nat.ble U U = true := ble_U.2 (Nat.le_refl _)
      rw [hU] at h h1
      simp only [cond_true] at h h1
      obtain ⟨hb, hk, hhl⟩ := bounds_run (isS := true) (cap := c') w (Nat.zero_le _) h1 h2 hlo hhi (Nat.le_refl _)
      obtain rfl : hh = 0 := by omega
      obtain rfl : k = 0 := by omega
      refine ⟨_, hsl _ _ _ _ rfl hb, ?_⟩
      have : Nat.beq 0 0 = true := rfl
      rw [this] at h
      simp only [cond_true] at h
      cases h
      exact .emp
  | some ad =>
    obtain ⟨b, o, r, d, lim, c', rfl, rfl, hm, hlc, hc⟩ := sl_inv hx
    cases hU : Nat.ble U c <;> rw [hU] at h h1 <;> simp only [cond_true, cond_false] at h h1
    · have hcU : ¬ U ≤ c := fun e => by rw [ble_U.2 e] at hU; cases hU
      rcases hc with ⟨rfl, hlt⟩ | ⟨z0, e0, _⟩
      · obtain ⟨hb, hk, hhl⟩ := bounds_run (isS := true) w (Nat.le_refl c) h1 h2 hlo hhi hlc
        refine ⟨_, hsl _ _ _ _ rfl hb, ?_⟩
        cases hkc : Nat.beq k c <;> rw [hkc] at h <;> simp only [cond_true, cond_false, fNat_eq] at h
        · have hne : ¬ c = k := fun e => by rw [e, Nat.beq_refl] at hkc; cases hkc
          simp only [addA, fNat_eq] at h
          cases h
          rw [if_neg hne]
          simp only [Option.map_some, add_off, Nat.add_assoc]
          exact .sl hm (Nat.sub_le_sub_right hhl k) (.inl ⟨rfl, Nat.lt_of_le_of_lt (Nat.sub_le _ _) hlt⟩)
        · have heq := Nat.eq_of_beq_eq_true hkc
          cases h
          rw [if_pos heq.symm]
          exact .sl hm (Nat.sub_le_sub_right hhl k) (.inl ⟨rfl, Nat.lt_of_le_of_lt (Nat.sub_le _ _) hlt⟩)
      · exact absurd (by rw [e0]; exact Nat.le_add_right _ _) hcU
    · obtain ⟨hb, hk, hhl⟩ := bounds_run (isS := true) (cap := c') w hlc h1 h2 hlo hhi (Nat.le_refl _)
      refine ⟨_, hsl _ _ _ _ rfl hb, ?_⟩
      cases hkh : Nat.beq k hh <;> rw [hkh] at h <;> simp only [cond_true, cond_false] at h
      · have hkh' : k ≠ hh := Nat.ne_of_beq_eq_false hkh
        cases hcz : Nat.beq c (Nat.add U z) <;> rw [hcz] at h <;> simp only [cond_true, cond_false] at h
        · cases h
        · have hcz' : c = U + z := Nat.eq_of_beq_eq_true hcz
          simp only [addA, fNat_eq] at h
          cases h
          have hne : ¬ c' = k := by omega
          rw [if_neg hne]
          simp only [Option.map_some, add_off, Nat.add_assoc]
          refine .sl hm (Nat.sub_le_sub_right (by omega) k) (.inr ⟨z, hcz', ?_⟩)
          rcases hc with ⟨e0, hlt⟩ | ⟨z0, e0, hlim⟩
          · have : U ≤ c' := by rw [← e0, hcz']; exact Nat.le_add_right _ _
            omega
          · obtain rfl : z0 = z := by omega
            have e1 : c' * z0 = (k + (c' - k)) * z0 := by rw [Nat.add_sub_cancel' (by omega)]
            rw [Nat.add_mul] at e1
            show d + (o + k * z0) + (c' - k) * z0 ≤ lim
            omega
      · have heq := Nat.eq_of_beq_eq_true hkh
        cases h
        rw [heq, Nat.sub_self]
        exact .emp

theorem cutA_run {P : Program} (w : World) {μ : Mu} {t e : TypeId} {n : Nat} {ad : Addr} {lo hi mx lo' hi' mx' : Option Value} {v x' : Value} (hu : P.underlying t = some (.array n e)) (hn : n < U) (h : cut P e (some ad) n n lo hi mx = some v)
    (hx : VR μ (.pointer (some ad)) x') (hlo : OptR μ lo lo') (hhi : OptR μ hi hi') (hmx : OptR μ mx mx') : ∃ v', (Instr.sliceAt t x' lo' hi' mx').run P w = .ok v' w ∧ VR μ v v' := by
  have hcut := cut_inv h
  clear h
  obtain ⟨rfl, hh, k, z, h1, h2, hz, h⟩ := hcut
  cases hmx
  obtain ⟨b, o, r, d, lim, rfl, rfl, hm⟩ := ptr_inv hx
  have hU : Nat.ble U n = false := by
    cases hh : Nat.ble U n
    · rfl
    · have := ble_U.1 hh; omega
  rw [hU] at h h1
  simp only [cond_false] at h h1
  obtain ⟨hb, hk, hhl⟩ := bounds_run (P := P) (isS := false) w (Nat.le_refl n) h1 h2 hlo hhi (Nat.le_refl _)
  refine ⟨.slice (some (if n = k then ⟨r, d + o, none⟩ else (⟨r, d + o, none⟩ : Addr).add (k * z))) (hh - k) (n - k), by simp [Instr.sliceAt, run_underlying hu, Instr.sureAddr, hb, sizeOf_run w hz], ?_⟩
  cases hkc : Nat.beq k n <;> rw [hkc] at h <;> simp only [cond_true, cond_false, fNat_eq] at h
  · have hne : ¬ n = k := fun e => by rw [e, Nat.beq_refl] at hkc; cases hkc
    simp only [addA, fNat_eq] at h
    cases h
    rw [if_neg hne]
    simp only [add_off, Nat.add_assoc]
    exact .sl hm (Nat.sub_le_sub_right hhl k) (.inl ⟨rfl, Nat.lt_of_le_of_lt (Nat.sub_le _ _) hn⟩)
  · have heq := Nat.eq_of_beq_eq_true hkc
    cases h
    rw [if_pos heq.symm]
    exact .sl hm (Nat.sub_le_sub_right hhl k) (.inl ⟨rfl, Nat.lt_of_le_of_lt (Nat.sub_le _ _) hn⟩)

theorem optEv_eq {μ : Mu} {tm : Tr Value} {a : Act} (ht : TR μ tm a) {x : Option Operand} {v : Option Value} (h : optEv tm x = some v) : OptR μ v (x.map a.eval) := by
  cases x with
  | none => cases h; exact .none
  | some o =>
    have h' : (match ev tm o with | some v => some (some v) | none => none) = some v := h
    split at h'
    · rename_i u hu; cases h'; exact .some (ev_eq ht hu)
    · cases h'

section
variable {P : Program} {o : Oper} {a : Act} {w : World} {μ : Mu} {base : Nat} {H H' : Heap} {tm : Tr Value} {v : Value}
  (hw : HW H) (hr : HR μ base H w) (hb : base ≤ w.heap.size) (ht : TR μ tm a) (hf : Free μ H H')
include hw hr hb ht hf

theorem sIndexAddr_ok {t : TypeId} {x y : Operand} (ho : o.op = .indexAddr t x y) (h : sIndexAddr P H tm t x y = some (v, H')) : OpOk P o a w μ base H v H' := by
  unfold sIndexAddr at h
  split at h
  · rename_i p q hp hq
    split at h
    · rename_i u hu
      cases h
      obtain ⟨v', h1, h2⟩ := idx_run w hu (ev_eq ht hp) (ev_eq ht hq)
      exact .pure hw hr (by simp [execOp, ho, h1]) h2
    · cases h
  · cases h
theorem sIndex_ok {t : TypeId} {x y : Operand} (ho : o.op = .index t x y) (h : sIndex P H tm t x y = some (v, H')) : OpOk P o a w μ base H v H' := by
  unfold sIndex at h
  split at h
  · rename_i p q hp hq
    split at h
    · rename_i u hu
      cases h
      obtain ⟨v', h1, h2⟩ := idxV_run w hu (ev_eq ht hp) (ev_eq ht hq)
      exact .pure hw hr (by simp [execOp, ho, h1]) h2
    · cases h
  · cases h
theorem sExtract_ok {x : Operand} {i : Nat} (ho : o.op = .extract x i) (h : sExtract P H tm x i = some (v, H')) : OpOk P o a w μ base H v H' := by
  unfold sExtract at h
  split at h
  · rename_i vs hx
    split at h
    · rename_i u hu
      cases h
      obtain ⟨ys, e, hL⟩ := tup_inv (ev_eq ht hx)
      rw [nth_eq] at hu
      obtain ⟨y, hy, hR⟩ := hL.get hu
      exact .pure hw hr (by simp [execOp, ho, e, Instr.extract, hy]) hR
    · cases h
  · cases h
theorem sFunc_ok {fn : Fn} {xs ys : Array Operand} (ho : o.op = .makeFunc fn xs ys) (h : sFunc P H tm fn xs ys = some (v, H')) : OpOk P o a w μ base H v H' := by
  unfold sFunc at h
  split at h
  · rename_i hpf
    split at h
    · rename_i p q hp hq
      cases h
      have h1 := evs_eq ht _ _ hp
      have h2 := evs_eq ht _ _ hq
      refine .pure hw hr (v' := .func fn ⟨xs.toList.map a.eval⟩ ⟨ys.toList.map a.eval⟩) ?_ (.fn hpf h1.1 h1.2 h2.1 h2.2)
      have e : ∀ (zs : Array Operand), zs.map a.eval = ⟨zs.toList.map a.eval⟩ := fun zs => by apply Array.ext'; simp
      simp [execOp, ho, Instr.makeFunc, e]
    · cases h
  · cases h
theorem sField_ok {t : TypeId} {x : Operand} {f : Nat} (ho : o.op = .field t x f) (h : sField P H tm t x f = some (v, H')) : OpOk P o a w μ base H v H' := by
  unfold sField at h
  split at h
  · rename_i cs fs hx hu
    obtain ⟨ys, e, hL⟩ := agg_inv (ev_eq ht hx)
    split at h
    · rename_i g hg
      have hp : partA P g.type cs.toList g.offset = some v ∧ H' = H := by
        unfold partA
        split at h
        · rename_i ha
          try rw [ha]
          split at h
          · rename_i n hn
            rw [fSp_eq] at h
            cases h
            simp [hn]
          · cases h
        · rename_i ha
          try rw [ha]
          split at h
          · rename_i u hu
            cases h
            exact ⟨hu, rfl⟩
          · cases h
        · cases h
      obtain ⟨v', h1, h2⟩ := part_run w hL hp.1
      rw [hp.2]
      exact .pure hw hr (by simp [execOp, ho, e, Instr.field, run_underlying hu, hg, asAgg, h1]) h2
    · cases h
  · cases h

theorem sSlice_ok {t : TypeId} {x : Operand} {lo hi mx : Option Operand} (ho : o.op = .slice t x lo hi mx) (h : sSlice P H tm t x lo hi mx = some (v, H')) : OpOk P o a w μ base H v H' := by
  unfold sSlice at h
  split at h
  · rename_i p q1 q2 q3 hp h1 h2 h3
    have hR := ev_eq ht hp
    have r1 := optEv_eq ht h1
    have r2 := optEv_eq ht h2
    have r3 := optEv_eq ht h3
    split at h
    · rename_i e aa n c hu
      split at h
      · rename_i u hc
        cases h
        obtain ⟨v', e1, e2⟩ := cut_run w hu hc hR r1 r2 r3
        exact .pure hw hr (by simp [execOp, ho, e1]) e2
      · cases h
    · rename_i n e aa hu
      cases hn : Nat.blt n U <;> rw [hn] at h <;> simp only [cond_true, cond_false] at h
      · cases h
      · split at h
        · rename_i u hc
          cases h
          obtain ⟨v', e1, e2⟩ := cutA_run w hu (by rwa [Nat.blt_eq] at hn) hc hR r1 r2 r3
          exact .pure hw hr (by simp [execOp, ho, e1]) e2
        · cases h
    · rename_i s hu
      split at h
      · cases h
      · have hstr := string_inv hR
        clear hR
        generalize hlo' : lo.map a.eval = lo' at *
        generalize hhi' : hi.map a.eval = hi' at *
        generalize hmx' : mx.map a.eval = mx' at *
        cases r3
        dsimp only at h
        have h' : (match hiOf q2 s.data.toList.length s.data.toList.length with
          | none => none
          | some h' => match loOf q1 h' with
            | none => none
            | some l' => fBs ((s.data.toList.drop l').take (h' - l')) fun l => some (Value.string ⟨⟨l⟩⟩, H)) = some (v, H') := h
        split at h'
        · cases h'
        · rename_i hh hh1
          split at h'
          · cases h'
          · rename_i k hk
            rw [fBs_eq] at h'
            cases h'
            have hsz : s.size = s.data.toList.length := Array.length_toList.symm
            rw [← hsz] at hh1
            obtain ⟨hb, g1, g2⟩ := bounds_run (P := P) (isS := false) w (Nat.le_refl s.size) hh1 hk r1 r2 (Nat.le_refl _)
            refine .pure hw hr (v' := .string (s.extract k hh)) ?_ ?_
            · simp [execOp, ho, hlo', hhi', hmx', Instr.sliceAt, Instr.slice, run_underlying hu, hb, hstr]
            · have : s.extract k hh = ⟨⟨(s.data.toList.drop k).take (hh - k)⟩⟩ := by
                apply ByteArray.ext
                apply Array.ext'
                simp [ByteArray.data_extract, List.extract]
              rw [this]
              exact .flat rfl
    · cases h
  · cases h

end
end Go.Proofs.YtkmhbfgkhalaoaaGreatDoor.LM

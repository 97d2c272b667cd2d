/- BreakpointKeeps in plain Lean: its Lean function answers true for all arguments. No condition. -/
import Derived.Test.YtkmhbfgkhalaoaaGreatDoorLgP
import Derived.Test.YtkmhbfgkhalaoaaGreatDoorKpA2
namespace Go.Proofs.YtkmhbfgkhalaoaaGreatDoor.PB
open Go.RowKit Go.Proofs.YtkmhbfgkhalaoaaGreatDoorW.PrintWords Go.Proofs.YtkmhbfgkhalaoaaGreatDoorW.PrintLast Go.Proofs.YtkmhbfgkhalaoaaGreatDoorW.PrintMore

theorem drop_at {m : List Int} {i : Nat} {v : Int} {t : List Int} (h : v :: t = m.drop i) : m.getD i 0 = v ∧ m.drop (i + 1) = t ∧ i < m.length := by
  have hi : i < m.length := by
    apply Nat.lt_of_not_le
    intro hle
    rw [List.drop_of_length_le hle] at h
    exact List.cons_ne_nil _ _ h
  rw [List.drop_eq_getElem_cons hi] at h
  obtain ⟨h1, h2⟩ := List.cons.inj h
  refine ⟨?_, h2.symm, hi⟩
  rw [List.getD_eq_getElem?_getD, List.getElem?_eq_getElem hi, Option.getD_some, h1]

section
variable {X Y : List ByteArray} {a : ByteArray} {m : List Int}

theorem kp_zero (k : Nat) {i : Nat} {last n : Int} (hi : i < m.length) (hi1 : i ≤ 1000) (h : m.getD i 0 = 0) :
    debuggerlaw40_BreakpointKeeps.l0 (k + 1) a X Y m last n (i : Int) = debuggerlaw40_BreakpointKeeps.l0 k a X Y m last n ((i + 1 : Nat) : Int) := by
  rw [debuggerlaw40_BreakpointKeeps.l0, if_pos (lt' hi), if_pos (ge0 i), rdn, if_pos h, up hi1]
theorem kp_same (k : Nat) {i j : Nat} {last : Int} {n : Nat} (hi : i < m.length) (hiX : i < X.length) (hj : j < Y.length) (hi1 : i ≤ 1000) (hj1 : j ≤ 1000) (hn1 : n ≤ 1000) (h : m.getD i 0 = ((j + 1 : Nat) : Int)) (hl : last ≤ (j : Int))
    (he : (rdOf ByteArray.empty X (i : Int)).toList = (rdOf ByteArray.empty Y (j : Int)).toList) :
    debuggerlaw40_BreakpointKeeps.l0 (k + 1) a X Y m last (n : Int) (i : Int) = debuggerlaw40_BreakpointKeeps.l0 k a X Y m ((j + 1 : Nat) : Int) ((n + 1 : Nat) : Int) ((i + 1 : Nat) : Int) := by
  have c1 : ¬ (((j + 1 : Nat) : Int) = 0) := by omega
  have c2 : ¬ (((j + 1 : Nat) : Int) ≤ last) := by omega
  have c3 : ¬ (((j + 1 : Nat) : Int) > (Y.length : Int)) := by omega
  have cw : wrap64 (((j + 1 : Nat) : Int) - 1) = (j : Int) := by unfold wrap64; omega
  rw [debuggerlaw40_BreakpointKeeps.l0]
  simp only [rdn, h, cw, up hi1, up hn1]
  rw [if_pos (lt' hi), if_pos (ge0 i), if_neg c1, if_neg c2, if_neg c3, if_pos (lt' hiX), if_pos (ge0 j), if_pos (lt' hj), if_pos he]

theorem kp_l0 (hX : X.length ≤ 400) (hY : Y.length ≤ 400) (hm : m.length = X.length) (N0 : Nat)
    (hend : ∀ last : Int, ∃ k, debuggerlaw40_BreakpointKeeps.l0 k a X Y m last (N0 : Int) (X.length : Int) = some true) :
    ∀ (N i j n : Nat) (last : Int), (X.length - i) + (Y.length - j) ≤ N → i ≤ X.length → j ≤ Y.length → n ≤ i → last ≤ (j : Int) → Lcs.tr ((dl X).drop i) ((dl Y).drop j) j = m.drop i → n + Lcs.lcs ((dl X).drop i) ((dl Y).drop j) = N0 →
    ∃ k, debuggerlaw40_BreakpointKeeps.l0 k a X Y m last n i = some true := by
  have la := dl_length X
  have lb := dl_length Y
  have ea : ∀ (i : Nat), i = X.length → ∀ (j n : Nat) (last : Int), n + Lcs.lcs ((dl X).drop i) ((dl Y).drop j) = N0 → ∃ k, debuggerlaw40_BreakpointKeeps.l0 k a X Y m last n i = some true := by
    rintro i rfl j n last hn
    have e : (dl X).drop X.length = [] := by rw [← la, List.drop_length]
    rw [e, Lcs.lcs_nil, Nat.add_zero] at hn
    subst hn
    exact hend last
  intro N
  induction N with
  | zero =>
    intro i j n last hN hi hj hni hl ht hn
    exact ea i (by omega) j n last hn
  | succ N ih =>
    intro i j n last hN hi hj hni hl ht hn
    by_cases hi0 : i = X.length
    · exact ea i hi0 j n last hn
    have hiX : i < X.length := Nat.lt_of_le_of_ne hi hi0
    have hi' : i < (dl X).length := by rw [la]; exact hiX
    have him : i < m.length := by rw [hm]; exact hiX
    have eA := List.drop_eq_getElem_cons hi'
    have hi1 : i ≤ 1000 := by omega
    by_cases hj0 : j = Y.length
    · have e : (dl Y).drop j = [] := by rw [hj0, ← lb, List.drop_length]
      rw [e] at ht hn
      rw [Lcs.lcs_nil'] at hn
      rw [eA, Lcs.tr_nil', List.length_cons, List.replicate_succ] at ht
      obtain ⟨h1, h2, _⟩ := drop_at ht
      obtain ⟨k, hk⟩ := ih (i + 1) j n last (by omega) hiX hj (Nat.le_succ_of_le hni) hl (by rw [e, Lcs.tr_nil', h2]) (by rw [e, Lcs.lcs_nil']; exact hn)
      exact ⟨k + 1, by rw [kp_zero k him hi1 h1]; exact hk⟩
    have hjY : j < Y.length := Nat.lt_of_le_of_ne hj hj0
    have hj' : j < (dl Y).length := by rw [lb]; exact hjY
    have eB := List.drop_eq_getElem_cons hj'
    have hline := line_eq X Y i j hi' hj'
    have ht0 := ht
    have hn0 := hn
    rw [eA, eB] at ht hn
    by_cases hc : (dl X)[i] = (dl Y)[j]
    · rw [hc, Lcs.tr_eq] at ht
      rw [hc, Lcs.lcs_eq] at hn
      obtain ⟨h1, h2, _⟩ := drop_at ht
      obtain ⟨k, hk⟩ := ih (i + 1) (j + 1) (n + 1) ((j + 1 : Nat) : Int) (by omega) hiX hjY (Nat.succ_le_succ hni) (Int.le_refl _) h2.symm (by omega)
      exact ⟨k + 1, by rw [kp_same k him hiX hjY hi1 (by omega) (by omega) (by rw [h1]; rfl) hl (hline.2 hc)]; exact hk⟩
    · rw [Lcs.lcs_ne hc] at hn
      by_cases hle : Lcs.lcs ((dl X)[i] :: (dl X).drop (i + 1)) ((dl Y).drop (j + 1)) ≤ Lcs.lcs ((dl X).drop (i + 1)) ((dl Y)[j] :: (dl Y).drop (j + 1))
      · rw [Lcs.tr_le hc _ _ _ hle] at ht
        rw [Nat.max_eq_left hle, ← eB] at hn
        obtain ⟨h1, h2, _⟩ := drop_at ht
        obtain ⟨k, hk⟩ := ih (i + 1) j n last (by omega) hiX hj (Nat.le_succ_of_le hni) hl (by rw [eB]; exact h2.symm) hn
        exact ⟨k + 1, by rw [kp_zero k him hi1 h1]; exact hk⟩
      · rw [Lcs.tr_gt hc _ _ _ hle, ← eA] at ht
        rw [Nat.max_eq_right (Nat.le_of_lt (Nat.lt_of_not_le hle)), ← eA] at hn
        exact ih i (j + 1) n last (by omega) hi hjY hni (by omega) ht hn

theorem kp_l1 {same : List Int} {N0 : Nat} (hX : X.length ≤ 400) (hY : Y.length ≤ 400) (hs : same.length = X.length) (hv : ∀ i, i < X.length → same.getD i 0 = ((i + 1 : Nat) : Int)) (hN : N0 = Lcs.lcs (dl X) (dl Y)) :
    ∀ d i : Nat, i + d = X.length → ∃ k, debuggerlaw40_BreakpointKeeps.l1 k X Y (N0 : Int) same i = some true := by
  intro d
  induction d with
  | zero =>
    intro i hd
    obtain rfl : i = X.length := by omega
    obtain ⟨k, hk⟩ := longest_spec (A := X) (B := Y) hX hY
    refine ⟨k + 1, ?_⟩
    rw [debuggerlaw40_BreakpointKeeps.l1, if_neg (Int.lt_irrefl _), hk, Option.bind_some, if_pos (by rw [hN])]
    rfl
  | succ d ih =>
    intro i hd
    have hi : i < X.length := by omega
    have hi1 : i ≤ 1000 := by omega
    have his : i < same.length := by rw [hs]; exact hi
    have c : ¬ ((i : Int) ≥ (same.length : Int)) := by omega
    obtain ⟨k, hk⟩ := ih (i + 1) (by omega)
    refine ⟨k + 1, ?_⟩
    rw [debuggerlaw40_BreakpointKeeps.l1, if_pos (lt' hi), if_neg c, if_pos (ge0 i), if_pos (lt' his), rdn, up hi1, if_pos (hv i hi), hk]
end

theorem kp_end (a : ByteArray) (X Y : List ByteArray) (m : List Int) (ha : a.size ≤ 60) (hX : dl X = Spl.lines a.data.toList) (hX4 : X.length ≤ 400) (hY4 : Y.length ≤ 400) (hm : m.length = X.length) (last : Int) :
    ∃ k, debuggerlaw40_BreakpointKeeps.l0 k a X Y m last ((Lcs.lcs (dl X) (dl Y) : Nat) : Int) (X.length : Int) = some true := by
  have na := lines_length a.data.toList
  rw [← size_list] at na
  obtain ⟨k1, h1⟩ := move_spec a a (by omega) (by omega) (by omega) (by omega)
  have hts := Lcs.tr_self (Spl.lines a.data.toList) [] 0
  rw [List.append_nil] at hts
  rw [hts] at h1
  have hl : (Spl.lines a.data.toList).length = X.length := by rw [← hX, dl_length]
  obtain ⟨k2, h2⟩ := kp_l1 (X := X) (Y := Y) (N0 := Lcs.lcs (dl X) (dl Y)) (same := (List.range (Spl.lines a.data.toList).length).map (fun i => ((0 + i : Nat) : Int) + 1)) hX4 hY4 (by rw [List.length_map, List.length_range, hl]) (fun i hi => by
    rw [List.getD_eq_getElem?_getD, List.getElem?_map, List.getElem?_range (by rw [hl]; exact hi), Option.map_some, Option.getD_some]
    omega) rfl X.length 0 (Nat.zero_add _)
  have g1 := LeO.up (f := fun k => breakpoint_Move.f k a a) (fun k => breakpoint_Move.mono _ _ k) h1 (k' := k1 + k2) (by omega)
  have g2 := LeO.up (f := fun k => debuggerlaw40_BreakpointKeeps.l1 k X Y ((Lcs.lcs (dl X) (dl Y) : Nat) : Int) _ 0) (fun k => (debuggerlaw40_BreakpointKeeps.mono_l k).2 _ _ _ _ _) h2 (k' := k1 + k2) (by omega)
  refine ⟨k1 + k2 + 1, ?_⟩
  rw [debuggerlaw40_BreakpointKeeps.l0, if_neg (by rw [hm]; exact Int.lt_irrefl _), show breakpoint_Move.f (k1 + k2) a a = _ from g1, Option.bind_some]
  exact g2

theorem keeps_pure : debuggerlaw40_BreakpointKeeps.Pure := by
  intro l0 l1 _ _ _ _ _ _
  obtain ⟨k1, r, h1, hs1, hs2, _⟩ := texts_spec l0 l1
  obtain ⟨k2, X, h2, hX⟩ := lines_spec r.1 (by omega)
  obtain ⟨k3, Y, h3, hY⟩ := lines_spec r.2 (by omega)
  have na := lines_length r.1.data.toList
  have nb := lines_length r.2.data.toList
  rw [← size_list] at na nb
  obtain ⟨k4, h4⟩ := move_spec r.1 r.2 (by omega) (by omega) (by omega) (by omega)
  rw [← hX, ← hY] at h4
  have hXl : X.length ≤ 400 := by rw [← dl_length, hX]; omega
  have hYl : Y.length ≤ 400 := by rw [← dl_length, hY]; omega
  have hml : (Lcs.tr (dl X) (dl Y) 0).length = X.length := by rw [Lcs.tr_length, dl_length]
  obtain ⟨k5, h5⟩ := kp_l0 (X := X) (Y := Y) (a := r.1) (m := Lcs.tr (dl X) (dl Y) 0) hXl hYl hml (Lcs.lcs (dl X) (dl Y)) (fun last => kp_end r.1 X Y _ hs1 hX hXl hYl hml last) _ 0 0 0 0 (Nat.le_refl _) (Nat.zero_le _) (Nat.zero_le _) (Nat.le_refl _) (Int.le_refl _) (by rw [List.drop_zero, List.drop_zero, List.drop_zero]) (by rw [List.drop_zero, List.drop_zero, Nat.zero_add])
  have g1 := LeO.up (f := fun k => debuggerlaw40_texts.f k l0 l1) (fun k => debuggerlaw40_texts.mono _ _ k) h1 (k' := k1 + k2 + k3 + k4 + k5) (by omega)
  have g2 := LeO.up (f := fun k => debuggerref40_Lines.f k r.1) (fun k => debuggerref40_Lines.mono _ k) h2 (k' := k1 + k2 + k3 + k4 + k5) (by omega)
  have g3 := LeO.up (f := fun k => debuggerref40_Lines.f k r.2) (fun k => debuggerref40_Lines.mono _ k) h3 (k' := k1 + k2 + k3 + k4 + k5) (by omega)
  have g4 := LeO.up (f := fun k => breakpoint_Move.f k r.1 r.2) (fun k => breakpoint_Move.mono _ _ k) h4 (k' := k1 + k2 + k3 + k4 + k5) (by omega)
  have g5 := LeO.up (f := fun k => debuggerlaw40_BreakpointKeeps.l0 k r.1 X Y (Lcs.tr (dl X) (dl Y) 0) 0 0 0) (fun k => (debuggerlaw40_BreakpointKeeps.mono_l k).1 _ _ _ _ _ _ _) h5 (k' := k1 + k2 + k3 + k4 + k5) (by omega)
  refine ⟨k1 + k2 + k3 + k4 + k5, ?_⟩
  unfold debuggerlaw40_BreakpointKeeps.f
  rw [show debuggerlaw40_texts.f (k1 + k2 + k3 + k4 + k5) l0 l1 = _ from g1, Option.bind_some, show debuggerref40_Lines.f (k1 + k2 + k3 + k4 + k5) r.1 = _ from g2, Option.bind_some, show debuggerref40_Lines.f (k1 + k2 + k3 + k4 + k5) r.2 = _ from g3, Option.bind_some, show breakpoint_Move.f (k1 + k2 + k3 + k4 + k5) r.1 r.2 = _ from g4, Option.bind_some, if_pos (congrArg (fun n : Nat => (n : Int)) hml)]
  exact g5
end Go.Proofs.YtkmhbfgkhalaoaaGreatDoor.PB

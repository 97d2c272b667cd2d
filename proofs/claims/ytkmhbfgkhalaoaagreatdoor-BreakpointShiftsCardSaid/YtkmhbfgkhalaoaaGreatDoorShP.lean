/- BreakpointShifts in plain Lean: its Lean function answers true for all arguments. No condition. -/
import Derived.Test.YtkmhbfgkhalaoaaGreatDoorPuA
import Derived.Test.YtkmhbfgkhalaoaaGreatDoorShA
namespace Go.Proofs.YtkmhbfgkhalaoaaGreatDoor.PB
open Go.RowKit Go.Proofs.YtkmhbfgkhalaoaaGreatDoorW.PrintWords Go.Proofs.YtkmhbfgkhalaoaaGreatDoorW.PrintLast Go.Proofs.YtkmhbfgkhalaoaaGreatDoorW.PrintMore

def newL : List UInt8 := [110, 101, 119]
def lateL : List UInt8 := [108, 97, 116, 101]
theorem lines_new (t : List UInt8) : Spl.lines ([110, 101, 119, 10] ++ t) = newL :: Spl.lines t := by
  have h := lines_append newL t
  rw [lines_none newL (by decide)] at h
  exact h
theorem lines_late (t : List UInt8) : Spl.lines (t ++ [10, 108, 97, 116, 101]) = Spl.lines t ++ [lateL] := by
  have h := lines_append t lateL
  rw [lines_none lateL (by decide)] at h
  exact h

theorem follow_at (m : List Int) (p : Nat) (v : Int) (hp : p < m.length) (hp4 : p ≤ 400) (hv : m.getD p 0 = v) (h0 : v ≠ 0) : breakpoint_Follow.f 1 m ((p + 1 : Nat) : Int) = some v := by
  have c1 : ¬ (((p + 1 : Nat) : Int) < 1) := by omega
  have cw : wrap64 (((p + 1 : Nat) : Int) - 1) = (p : Int) := by unfold wrap64; omega
  have c2 : ¬ (m.getD p 0 = 0) := by rw [hv]; exact h0
  unfold breakpoint_Follow.f
  rw [if_neg c1, cw, breakpoint_Follow.l0, if_pos (lt' hp), if_pos (ge0 p), rdn, if_neg c2, hv]

theorem sh_l2 (ah : Nat) (x3 : Int) (m : List Int) (x : List ByteArray) (hm : m.length = x.length) (hx : 0 < x.length) (hx4 : x.length ≤ 400) (hah : ah ≤ 8) (hv : ∀ i, i < x.length → m.getD i 0 = ((i + 1 + ah : Nat) : Int)) :
    ∀ d i : Nat, i + d = x.length → ∃ k, debuggerlaw40_BreakpointShifts.l2 k ah x3 m x i = some true := by
  intro d
  induction d with
  | zero =>
    intro i hd
    obtain rfl : i = x.length := by omega
    have hxI : 0 < (x.length : Int) := by omega
    have hxM : (x.length : Int) ≤ 1000000 := by omega
    obtain ⟨q, hq, q0, qn⟩ := mod_spec x3 x.length hxI hxM
    obtain ⟨p, rfl⟩ := Int.eq_ofNat_of_zero_le q0
    have hp : p < x.length := by omega
    have hp1 : p ≤ 400 := by omega
    have cw : wrap64 (1 + (p : Int)) = ((p + 1 : Nat) : Int) := by unfold wrap64; omega
    have cw2 : wrap64 (((p + 1 : Nat) : Int) + (ah : Int)) = ((p + 1 + ah : Nat) : Int) := by unfold wrap64; omega
    have hf := follow_at m p _ (by rw [hm]; exact hp) hp1 (hv p hp) (by omega)
    refine ⟨2, ?_⟩
    rw [debuggerlaw40_BreakpointShifts.l2, if_neg (Int.lt_irrefl _), hq, Option.bind_some, cw, hf, Option.bind_some, cw2, if_pos rfl]
    rfl
  | succ d ih =>
    intro i hd
    have hi : i < x.length := by omega
    have hi1 : i ≤ 1000 := by omega
    have him : i < m.length := by rw [hm]; exact hi
    have cw2 : wrap64 (((i + 1 : Nat) : Int) + (ah : Int)) = ((i + 1 + ah : Nat) : Int) := by unfold wrap64; omega
    obtain ⟨k, hk⟩ := ih (i + 1) (by omega)
    refine ⟨k + 1, ?_⟩
    rw [debuggerlaw40_BreakpointShifts.l2, if_pos (lt' hi), if_pos (ge0 i), if_pos (lt' him), rdn, up hi1, cw2, if_pos (hv i hi), hk]

theorem sh_end (ah be : Nat) (x3 : Int) (a x11 : ByteArray) (hah : ah ≤ 8) (ha : a.size ≤ 60) (hx : x11.size ≤ 200) (hc : ∀ c ∈ a.data.toList, c ≠ 110)
    (hl : Spl.lines x11.data.toList = List.replicate ah newL ++ Spl.lines a.data.toList ++ List.replicate be lateL) :
    ∃ k, debuggerlaw40_BreakpointShifts.l1 k ah be x3 a x11 be = some true := by
  have na := lines_length a.data.toList
  have nx := lines_length x11.data.toList
  rw [← size_list] at na nx
  obtain ⟨k1, h1⟩ := move_spec a x11 (by omega) (by omega) (by omega) (by omega)
  obtain ⟨k2, X, h2, hX⟩ := lines_spec a (by omega)
  have hnew : newL ∉ Spl.lines a.data.toList := fun h => hc 110 (lines_mem _ _ h 110 (by decide)) rfl
  rw [hl, Lcs.tr_shift newL _ _ (Spl.lines_ne _) hnew ah 0] at h1
  have hXl : X.length = (Spl.lines a.data.toList).length := by rw [← hX, dl_length]
  have hne : 0 < (Spl.lines a.data.toList).length := List.length_pos_iff.2 (Spl.lines_ne _)
  have hml : ((List.range (Spl.lines a.data.toList).length).map (fun i => ((0 + ah + i : Nat) : Int) + 1)).length = X.length := by rw [List.length_map, List.length_range, hXl]
  have hmv : ∀ i, i < X.length → ((List.range (Spl.lines a.data.toList).length).map (fun i => ((0 + ah + i : Nat) : Int) + 1)).getD i 0 = ((i + 1 + ah : Nat) : Int) := fun i hi => by
    rw [List.getD_eq_getElem?_getD, List.getElem?_map, List.getElem?_range (by rw [← hXl]; exact hi), Option.map_some, Option.getD_some]
    omega
  obtain ⟨k3, h3⟩ := sh_l2 ah x3 _ X hml (by rw [hXl]; exact hne) (by rw [hXl]; omega) hah hmv X.length 0 (Nat.zero_add _)
  have g1 := LeO.up (f := fun k => breakpoint_Move.f k a x11) (fun k => breakpoint_Move.mono _ _ k) h1 (k' := k1 + k2 + k3) (by omega)
  have g2 := LeO.up (f := fun k => debuggerref40_Lines.f k a) (fun k => debuggerref40_Lines.mono _ k) h2 (k' := k1 + k2 + k3) (by omega)
  have g3 := LeO.up (f := fun k => debuggerlaw40_BreakpointShifts.l2 k ah x3 _ X 0) (fun k => (debuggerlaw40_BreakpointShifts.mono_l k).2.2 _ _ _ _ _) h3 (k' := k1 + k2 + k3) (by omega)
  refine ⟨k1 + k2 + k3 + 1, ?_⟩
  rw [debuggerlaw40_BreakpointShifts.l1, if_neg (Int.lt_irrefl _), show breakpoint_Move.f (k1 + k2 + k3) a x11 = _ from g1, Option.bind_some, show debuggerref40_Lines.f (k1 + k2 + k3) a = _ from g2, Option.bind_some, if_pos (congrArg (fun n : Nat => (n : Int)) hml)]
  exact g3

theorem sh_l1 (ah be : Nat) (x3 : Int) (a : ByteArray) (hah : ah ≤ 8) (hbe : be ≤ 8) (ha : a.size ≤ 60) (hc : ∀ c ∈ a.data.toList, c ≠ 110) :
    ∀ (d i : Nat) (x11 : ByteArray), i + d = be → x11.size ≤ 92 + 5 * i → Spl.lines x11.data.toList = List.replicate ah newL ++ Spl.lines a.data.toList ++ List.replicate i lateL →
    ∃ k, debuggerlaw40_BreakpointShifts.l1 k ah be x3 a x11 i = some true := by
  intro d
  induction d with
  | zero =>
    intro i x11 hd hs hl
    obtain rfl : i = be := by omega
    exact sh_end ah i x3 a x11 hah ha (by omega) hc hl
  | succ d ih =>
    intro i x11 hd hs hl
    have hi : i < be := by omega
    have hi1 : i ≤ 1000 := by omega
    have c : x11.size + 5 ≤ 9223372036854775807 := by omega
    have s5 : (⟨#[10, 108, 97, 116, 101]⟩ : ByteArray).size = 5 := rfl
    obtain ⟨k, hk⟩ := ih (i + 1) (x11 ++ (⟨#[10, 108, 97, 116, 101]⟩ : ByteArray)) (by omega) (by rw [ByteArray.size_append, s5]; omega) (by
      rw [ByteArray.toList_data_append]
      show Spl.lines (x11.data.toList ++ [10, 108, 97, 116, 101]) = _
      rw [lines_late, hl, List.replicate_succ', List.append_assoc _ (List.replicate i lateL) [lateL]])
    refine ⟨k + 1, ?_⟩
    rw [debuggerlaw40_BreakpointShifts.l1, if_pos (lt' hi), if_pos c, up hi1, hk]

theorem sh_l0 (ah be : Nat) (x3 : Int) (a : ByteArray) (hah : ah ≤ 8) (hbe : be ≤ 8) (ha : a.size ≤ 60) (hc : ∀ c ∈ a.data.toList, c ≠ 110) :
    ∀ (d i : Nat) (x11 : ByteArray), i + d = ah → x11.size ≤ 4 * i → (∀ t, Spl.lines (x11.data.toList ++ t) = List.replicate i newL ++ Spl.lines t) →
    ∃ k, debuggerlaw40_BreakpointShifts.l0 k ah be x3 a x11 i = some true := by
  intro d
  induction d with
  | zero =>
    intro i x11 hd hs hl
    obtain rfl : i = ah := by omega
    have c : x11.size + a.size ≤ 9223372036854775807 := by omega
    obtain ⟨k, hk⟩ := sh_l1 i be x3 a hah hbe ha hc be 0 (x11 ++ a) (Nat.zero_add _) (by rw [ByteArray.size_append]; omega) (by
      rw [ByteArray.toList_data_append, hl, List.replicate_zero, List.append_nil])
    refine ⟨k + 1, ?_⟩
    rw [debuggerlaw40_BreakpointShifts.l0, if_neg (Int.lt_irrefl _), if_pos c]
    exact hk
  | succ d ih =>
    intro i x11 hd hs hl
    have hi : i < ah := by omega
    have hi1 : i ≤ 1000 := by omega
    have c : x11.size + 4 ≤ 9223372036854775807 := by omega
    have s4 : (⟨#[110, 101, 119, 10]⟩ : ByteArray).size = 4 := rfl
    obtain ⟨k, hk⟩ := ih (i + 1) (x11 ++ (⟨#[110, 101, 119, 10]⟩ : ByteArray)) (by omega) (by rw [ByteArray.size_append, s4]; omega) (fun t => by
      rw [ByteArray.toList_data_append, List.append_assoc, hl]
      show List.replicate i newL ++ Spl.lines ([110, 101, 119, 10] ++ t) = _
      rw [lines_new, List.replicate_succ', List.append_assoc]
      rfl)
    refine ⟨k + 1, ?_⟩
    rw [debuggerlaw40_BreakpointShifts.l0, if_pos (lt' hi), if_pos c, up hi1, hk]

theorem shifts_pure : debuggerlaw40_BreakpointShifts.Pure := by
  intro l0 a1 a2 a3 _ _ _ _ _ _
  obtain ⟨k1, r, h1, hs, _, hc⟩ := texts_spec l0 []
  obtain ⟨q1, e1, q10, q19⟩ := mod_spec a1 9 (by decide) (by decide)
  obtain ⟨q2, e2, q20, q29⟩ := mod_spec a2 9 (by decide) (by decide)
  obtain ⟨ah, rfl⟩ := Int.eq_ofNat_of_zero_le q10
  obtain ⟨be, rfl⟩ := Int.eq_ofNat_of_zero_le q20
  obtain ⟨k2, h2⟩ := sh_l0 ah be a3 r.1 (by omega) (by omega) hs hc ah 0 (⟨#[]⟩ : ByteArray) (Nat.zero_add _) (Nat.zero_le _) (fun t => rfl)
  have g1 := LeO.up (f := fun k => debuggerlaw40_texts.f k l0 []) (fun k => debuggerlaw40_texts.mono _ _ k) h1 (k' := k1 + k2) (by omega)
  have g2 := LeO.up (f := fun k => debuggerlaw40_BreakpointShifts.l0 k ah be a3 r.1 (⟨#[]⟩ : ByteArray) 0) (fun k => (debuggerlaw40_BreakpointShifts.mono_l k).1 _ _ _ _ _ _) h2 (k' := k1 + k2) (by omega)
  refine ⟨k1 + k2, ?_⟩
  unfold debuggerlaw40_BreakpointShifts.f
  rw [show debuggerlaw40_texts.f (k1 + k2) l0 [] = _ from g1, Option.bind_some, e1, Option.bind_some, e2, Option.bind_some]
  exact g2
end Go.Proofs.YtkmhbfgkhalaoaaGreatDoor.PB

/- BreakpointMoves in plain Lean: its Lean function answers true for all arguments that a machine can hold. No condition of mine. -/
import Derived.Test.YtkmhbfgkhalaoaaGreatDoorRmP
import Derived.Test.YtkmhbfgkhalaoaaGreatDoorMoA
import Derived.OpenShut
namespace Go.Proofs.YtkmhbfgkhalaoaaGreatDoor.PB
open Go.RowKit Go.Proofs.YtkmhbfgkhalaoaaGreatDoorW.PrintWords Go.Proofs.YtkmhbfgkhalaoaaGreatDoorW.PrintLast Go.Proofs.YtkmhbfgkhalaoaaGreatDoorW.PrintMore

theorem list_same (m : List Int) (hm : m.length ≤ 400) : ∀ d i : Nat, i + d = m.length → ∃ k, debuggersame_List_int.l0 k m m i = some true := by
  intro d
  induction d with
  | zero =>
    intro i hd
    obtain rfl : i = m.length := by omega
    exact ⟨1, by rw [debuggersame_List_int.l0, if_neg (Int.lt_irrefl _)]⟩
  | succ d ih =>
    intro i hd
    have hi : i < m.length := by omega
    have hi1 : i ≤ 1000 := by omega
    obtain ⟨k, hk⟩ := ih (i + 1) (by omega)
    exact ⟨k + 1, by rw [debuggersame_List_int.l0, if_pos (lt' hi), if_pos (ge0 i), if_pos (lt' hi), if_pos rfl, up hi1, hk]⟩
theorem list_spec (m : List Int) (hm : m.length ≤ 400) : ∃ k, debuggersame_List_int.f k m m = some true := by
  obtain ⟨k, hk⟩ := list_same m hm m.length 0 (Nat.zero_add _)
  exact ⟨k, by unfold debuggersame_List_int.f; rw [if_pos rfl]; exact hk⟩

theorem follow_same (m : List Int) : ∀ (k : Nat) (x : Int), debuggerref40_Follow.l0 k m x = breakpoint_Follow.l0 k m x
  | 0, x => by rw [debuggerref40_Follow.l0, breakpoint_Follow.l0]
  | k + 1, x => by rw [debuggerref40_Follow.l0, breakpoint_Follow.l0, follow_same m k]
theorem follow_l0 (m : List Int) (hm : m.length ≤ 400) : ∀ d i : Nat, i + d = m.length → ∃ k v, breakpoint_Follow.l0 k m i = some v := by
  intro d
  induction d with
  | zero =>
    intro i hd
    obtain rfl : i = m.length := by omega
    exact ⟨1, 0, by rw [breakpoint_Follow.l0, if_neg (Int.lt_irrefl _)]⟩
  | succ d ih =>
    intro i hd
    have hi : i < m.length := by omega
    have hi1 : i ≤ 1000 := by omega
    by_cases h0 : m.getD i 0 = 0
    · obtain ⟨k, v, hk⟩ := ih (i + 1) (by omega)
      exact ⟨k + 1, v, by rw [breakpoint_Follow.l0, if_pos (lt' hi), if_pos (ge0 i), rdn, if_pos h0, up hi1, hk]⟩
    · exact ⟨1, m.getD i 0, by rw [breakpoint_Follow.l0, if_pos (lt' hi), if_pos (ge0 i), rdn, if_neg h0]⟩
theorem follow_spec (m : List Int) (hm : m.length ≤ 400) (a : Int) (ha : a ≤ 9223372036854775807) : ∃ k v, breakpoint_Follow.f k m a = some v ∧ debuggerref40_Follow.f k m a = some v := by
  by_cases h1 : a < 1
  · exact ⟨0, 0, by unfold breakpoint_Follow.f; rw [if_pos h1], by unfold debuggerref40_Follow.f; rw [if_pos h1]⟩
  · have cw : wrap64 (a - 1) = a - 1 := by unfold wrap64; omega
    have : ∃ k v, breakpoint_Follow.l0 k m (a - 1) = some v := by
      obtain ⟨n, hn⟩ := Int.eq_ofNat_of_zero_le (show 0 ≤ a - 1 by omega)
      rw [hn]
      by_cases hl : n ≤ m.length
      · exact follow_l0 m hm (m.length - n) n (by omega)
      · have c : ¬ ((n : Int) < (m.length : Int)) := by omega
        exact ⟨1, 0, by rw [breakpoint_Follow.l0, if_neg c]⟩
    obtain ⟨k, v, hk⟩ := this
    exact ⟨k, v, by unfold breakpoint_Follow.f; rw [if_neg h1, cw]; exact hk, by unfold debuggerref40_Follow.f; rw [if_neg h1, cw, follow_same]; exact hk⟩

/-- One pair of texts: what a round of the loop answers. -/
theorem mo_round (x4 : Int) (h4 : x4 ≤ 9223372036854775807) (ps : List S26) (i : Nat) (hi : i < ps.length) (hi1 : i ≤ 1000) (hs : (ps.getD i z26).f0.size ≤ 300 ∧ (ps.getD i z26).f1.size ≤ 300)
    (hn : ∃ k, debuggerlaw40_BreakpointMoves.l0 k x4 ps (ps.length : Int) ((i + 1 : Nat) : Int) = some true) : ∃ k, debuggerlaw40_BreakpointMoves.l0 k x4 ps (ps.length : Int) (i : Int) = some true := by
  obtain ⟨ka, ha⟩ := hn
  generalize ha' : (ps.getD i z26).f0 = a at hs
  generalize hb' : (ps.getD i z26).f1 = b at hs
  obtain ⟨s0, s1⟩ := hs
  have na := lines_length a.data.toList
  have nb := lines_length b.data.toList
  rw [← size_list] at na nb
  obtain ⟨k1, h1⟩ := move_spec a b (by omega) (by omega) (by omega) (by omega)
  obtain ⟨k2, h2⟩ := rmove_spec a b (by omega) (by omega) (by omega) (by omega)
  generalize hm : Lcs.tr (Spl.lines a.data.toList) (Spl.lines b.data.toList) 0 = m at h1 h2
  have hml : m.length ≤ 400 := by rw [← hm, Lcs.tr_length]; omega
  have cw : wrap64 ((m.length : Int) + 3) = ((m.length + 3 : Nat) : Int) := by unfold wrap64; omega
  obtain ⟨q, hq, q0, qn⟩ := mod_spec x4 ((m.length + 3 : Nat) : Int) (by omega) (by omega)
  obtain ⟨k3, h3⟩ := list_spec m hml
  obtain ⟨k4, v4, h4a, h4b⟩ := follow_spec m hml x4 h4
  have cq : wrap64 (q - 1) = q - 1 := by unfold wrap64; omega
  obtain ⟨k5, v5, h5a, h5b⟩ := follow_spec m hml (q - 1) (by omega)
  have g1 := LeO.up (f := fun k => breakpoint_Move.f k a b) (fun k => breakpoint_Move.mono _ _ k) h1 (k' := ka + k1 + k2 + k3 + k4 + k5) (by omega)
  have g2 := LeO.up (f := fun k => debuggerref40_Move.f k a b) (fun k => debuggerref40_Move.mono _ _ k) h2 (k' := ka + k1 + k2 + k3 + k4 + k5) (by omega)
  have g3 := LeO.up (f := fun k => debuggersame_List_int.f k m m) (fun k => debuggersame_List_int.mono _ _ k) h3 (k' := ka + k1 + k2 + k3 + k4 + k5) (by omega)
  have g4 := LeO.up (f := fun k => breakpoint_Follow.f k m x4) (fun k => breakpoint_Follow.mono _ _ k) h4a (k' := ka + k1 + k2 + k3 + k4 + k5) (by omega)
  have g4' := LeO.up (f := fun k => debuggerref40_Follow.f k m x4) (fun k => debuggerref40_Follow.mono _ _ k) h4b (k' := ka + k1 + k2 + k3 + k4 + k5) (by omega)
  have g5 := LeO.up (f := fun k => breakpoint_Follow.f k m (q - 1)) (fun k => breakpoint_Follow.mono _ _ k) h5a (k' := ka + k1 + k2 + k3 + k4 + k5) (by omega)
  have g5' := LeO.up (f := fun k => debuggerref40_Follow.f k m (q - 1)) (fun k => debuggerref40_Follow.mono _ _ k) h5b (k' := ka + k1 + k2 + k3 + k4 + k5) (by omega)
  have ga := LeO.up (f := fun k => debuggerlaw40_BreakpointMoves.l0 k x4 ps (ps.length : Int) ((i + 1 : Nat) : Int)) (fun k => (debuggerlaw40_BreakpointMoves.mono_l k).2 _ _ _ _) ha (k' := ka + k1 + k2 + k3 + k4 + k5) (by omega)
  have er : rd_T26 ps (i : Int) = ps.getD i z26 := by unfold rd_T26; rw [Int.toNat_natCast]
  generalize ka + k1 + k2 + k3 + k4 + k5 = K at g1 g2 g3 g4 g4' g5 g5' ga
  refine ⟨K + 1, ?_⟩
  rw [debuggerlaw40_BreakpointMoves.l0, if_pos (lt' hi), if_pos (ge0 i), if_pos (lt' hi), er, ha', hb', show breakpoint_Move.f K a b = _ from g1, Option.bind_some, show debuggerref40_Move.f K a b = _ from g2, Option.bind_some, cw, hq, Option.bind_some,
    show debuggersame_List_int.f K m m = _ from g3, Option.bind_some, if_pos rfl, show breakpoint_Follow.f K m x4 = _ from g4, Option.bind_some, show debuggerref40_Follow.f K m x4 = _ from g4', Option.bind_some, if_pos rfl, cq,
    show breakpoint_Follow.f K m (q - 1) = _ from g5, Option.bind_some, show debuggerref40_Follow.f K m (q - 1) = _ from g5', Option.bind_some, if_pos rfl, up hi1]
  exact ga

theorem mo_last (x4 : Int) (ps : List S26) : ∃ k, debuggerlaw40_BreakpointMoves.l0 k x4 ps (ps.length : Int) (ps.length : Int) = some true :=
  ⟨1, by rw [debuggerlaw40_BreakpointMoves.l0, if_neg (Int.lt_irrefl _)]; rfl⟩
theorem moves_pure : debuggerlaw40_BreakpointMoves.Pure := by
  intro a0 a1 l2 l3 a4 _ _ _ _ _ _ _ _ w4
  have h4 := (Go.bounds_i64 w4).2
  have yes : ∃ k, debuggerlaw40_BreakpointMoves.j0 k a0 a1 l2 l3 a4 true = some true := ⟨1, by rw [debuggerlaw40_BreakpointMoves.j0, if_pos rfl]; rfl⟩
  unfold debuggerlaw40_BreakpointMoves.f
  by_cases h0 : (a0.size : Int) > 300
  · obtain ⟨k, hk⟩ := yes
    exact ⟨k, by rw [if_pos h0]; exact hk⟩
  by_cases h1 : (a1.size : Int) > 300
  · obtain ⟨k, hk⟩ := yes
    exact ⟨k, by rw [if_neg h0, decide_eq_true h1]; exact hk⟩
  have s0 : a0.size ≤ 300 := by omega
  have s1 : a1.size ≤ 300 := by omega
  obtain ⟨k1, r, hr, r1, r2, _⟩ := texts_spec l2 l3
  have t1 : r.1.size ≤ 300 := by omega
  have t2 : r.2.size ≤ 300 := by omega
  have hend : ∃ k, debuggerlaw40_BreakpointMoves.l0 k a4 [⟨a0, a1⟩, ⟨r.1, r.2⟩, ⟨r.2, r.1⟩, ⟨r.1, a0⟩] (([⟨a0, a1⟩, ⟨r.1, r.2⟩, ⟨r.2, r.1⟩, ⟨r.1, a0⟩] : List S26).length : Int) ((4 : Nat) : Int) = some true :=
    mo_last a4 [⟨a0, a1⟩, ⟨r.1, r.2⟩, ⟨r.2, r.1⟩, ⟨r.1, a0⟩]
  have e3 := mo_round a4 h4 [⟨a0, a1⟩, ⟨r.1, r.2⟩, ⟨r.2, r.1⟩, ⟨r.1, a0⟩] 3 (by simp) (by decide) ⟨t1, s0⟩ hend
  have e2 := mo_round a4 h4 [⟨a0, a1⟩, ⟨r.1, r.2⟩, ⟨r.2, r.1⟩, ⟨r.1, a0⟩] 2 (by simp) (by decide) ⟨t2, t1⟩ e3
  have e1 := mo_round a4 h4 [⟨a0, a1⟩, ⟨r.1, r.2⟩, ⟨r.2, r.1⟩, ⟨r.1, a0⟩] 1 (by simp) (by decide) ⟨t1, t2⟩ e2
  obtain ⟨k2, h2⟩ := mo_round a4 h4 [⟨a0, a1⟩, ⟨r.1, r.2⟩, ⟨r.2, r.1⟩, ⟨r.1, a0⟩] 0 (by simp) (by decide) ⟨s0, s1⟩ e1
  have g1 := LeO.up (f := fun k => debuggerlaw40_texts.f k l2 l3) (fun k => debuggerlaw40_texts.mono _ _ k) hr (k' := k1 + k2) (by omega)
  have g2 := LeO.up (f := fun k => debuggerlaw40_BreakpointMoves.l0 k a4 [⟨a0, a1⟩, ⟨r.1, r.2⟩, ⟨r.2, r.1⟩, ⟨r.1, a0⟩] (([⟨a0, a1⟩, ⟨r.1, r.2⟩, ⟨r.2, r.1⟩, ⟨r.1, a0⟩] : List S26).length : Int) ((0 : Nat) : Int)) (fun k => (debuggerlaw40_BreakpointMoves.mono_l k).2 _ _ _ _) h2 (k' := k1 + k2) (by omega)
  refine ⟨k1 + k2 + 1, ?_⟩
  rw [if_neg h0, decide_eq_false h1, debuggerlaw40_BreakpointMoves.j0, if_neg Bool.false_ne_true, show debuggerlaw40_texts.f (k1 + k2) l2 l3 = _ from g1, Option.bind_some, Option.bind_some]
  exact g2
end Go.Proofs.YtkmhbfgkhalaoaaGreatDoor.PB

/- WatchpointSees over lists: what the printed functions answer. -/
import Derived.Test.YtgikmhpggfmcnaaPWatchpointSeesx5
namespace Go.Proofs.Ytgikmhpggfmcnaa.PWatchpointSees
open Go.RowKit Go.Proofs.YtgikmhpggfmcnaaW.PrintWords Go.Proofs.YtgikmhpggfmcnaaW.PrintLast
theorem numT (a : Int) : debuggerlaw41_number.f a true = some (1, 0, [true], [a]) := rfl
theorem numF (a : Int) : debuggerlaw41_number.f a false = some (1, 0, [false], [0]) := rfl
theorem chkT (k : Nat) (p m : Int) : watchpoint_Check.f (k + 10) 1 0 [true] [p] 1 0 [true] [m] = some (1, 0, [true], [m], p != m) := by kernel_rfl
theorem chkF (k : Nat) (p : Int) : watchpoint_Check.f (k + 10) 1 0 [true] [p] 1 0 [false] [0] = some (1, 0, [true], [p], false) := by kernel_rfl
theorem awk (k : Nat) : debuggerlaw41_awake.f (k + 20) = some true := by
  unfold debuggerlaw41_awake.f
  simp only [numT, numF, Option.bind_some]
  rw [show k + 20 = (k + 10) + 10 from rfl, chkF]
  simp only [Option.bind_some, chkT]
  rfl
theorem loop (l1 : List Int) (l2 : List Bool) (hl : l1.length ≤ 140737488351232) : ∀ (d k i : Nat) (p : Int), l1.length - i = d → i ≤ l1.length → 4 * d + 40 ≤ k →
    debuggerlaw41_WatchpointSees.l0 k l1 l2 p (i : Int) 1 0 [true] [p] = some true := by
  intro d
  induction d with
  | zero =>
    intro k i p hd hi hk
    obtain ⟨k, rfl⟩ : ∃ m, k = m + 22 := ⟨k - 22, by omega⟩
    simp only [debuggerlaw41_WatchpointSees.l0, debuggerlaw41_WatchpointSees.j1]
    rw [if_neg (by omega)]
    simp [awk]
  | succ d ih =>
    intro k i p hd hi hk
    obtain ⟨k, rfl⟩ : ∃ m, k = m + 24 := ⟨k - 24, by omega⟩
    have hw : wrap64 ((i : Int) + 1) = ((i + 1 : Nat) : Int) := by unfold wrap64; omega
    have hlt : (i : Int) < (l1.length : Int) := by omega
    have hstep : ∀ b : Bool, debuggerlaw41_WatchpointSees.j2 (k + 22) l1 l2 p (i : Int) b 1 0 [true] [p] = some true := by
      intro b
      have hmod : ∃ m, debuggerkit_Mod.f (rd l1 (i : Int)) 3 = some m := by
        unfold debuggerkit_Mod.f
        rw [if_neg (by decide)]
        split <;> exact ⟨_, rfl⟩
      obtain ⟨m, hm⟩ := hmod
      simp only [debuggerlaw41_WatchpointSees.j2]
      rw [if_pos (by omega), if_pos hlt, hm]
      simp only [Option.bind_some]
      cases b with
      | true =>
        rw [numT]
        simp only [Option.bind_some]
        rw [show k + 21 = (k + 11) + 10 from rfl, chkT]
        simp only [Option.bind_some]
        rw [if_pos trivial]
        have e : ((p != m) != (m != p)) = false := by
          rw [bne_comm (a := m)]
          cases (p != m) <;> rfl
        rw [e]
        simp only [debuggerlaw41_WatchpointSees.j3]
        have := ih (k + 20) (i + 1) m (by omega) (by omega) (by omega)
        simpa [hw, rd, rdOf] using this
      | false =>
        rw [numF]
        simp only [Option.bind_some]
        rw [show k + 21 = (k + 11) + 10 from rfl, chkF]
        simp only [Option.bind_some]
        rw [if_neg (by decide)]
        simp only [debuggerlaw41_WatchpointSees.j3]
        have := ih (k + 20) (i + 1) p (by omega) (by omega) (by omega)
        simpa [hw, rd, rdOf] using this
    have hj1 : ∀ b : Bool, debuggerlaw41_WatchpointSees.j1 (k + 23) l1 l2 p (i : Int) b 1 0 [true] [p] = some true := by
      intro b
      simp only [debuggerlaw41_WatchpointSees.j1]
      cases b with
      | true =>
        rw [if_pos rfl]
        split
        · exact hstep _
        · rename_i h
          rw [if_pos (by omega), if_pos (by omega)]
          exact hstep _
      | false =>
        rw [if_neg (by decide), show k + 22 = (k + 2) + 20 from rfl, awk]
        rfl
    simp only [debuggerlaw41_WatchpointSees.l0]
    rw [if_pos hlt]
    exact hj1 _
theorem pure (a0 : Int) (l1 : List Int) (l2 : List Bool) (hl : l1.length ≤ 140737488351232) : ∃ k, debuggerlaw41_WatchpointSees.f k a0 l1 l2 = some true := by
  refine ⟨4 * l1.length + 40, ?_⟩
  unfold debuggerlaw41_WatchpointSees.f
  rw [numT]
  have h := loop l1 l2 hl l1.length (4 * l1.length + 40) 0 a0 rfl (Nat.zero_le _) (Nat.le_refl _)
  rw [show ((0 : Nat) : Int) = 0 from rfl] at h
  simp only [Option.bind_some]
  generalize 4 * l1.length + 40 = n at h ⊢
  exact h
end Go.Proofs.Ytgikmhpggfmcnaa.PWatchpointSees

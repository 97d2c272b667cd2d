/- append where the capacity is not known. -/
import Derived.Test.YtkmhbfgkhalaoaaGreatDoorLm12
set_option linter.unusedVariables false
set_option linter.unusedSimpArgs false
set_option linter.unusedSectionVars false
namespace Go.Proofs.YtkmhbfgkhalaoaaGreatDoor.LM
open Go Go.RowKit

theorem appU_inv {H H' : Heap} {bs : Option Addr} {l c m z : Nat} {new : List Value} {v : Value} (h : appU H bs l c m z new = some (v, H')) :
    ∃ (b o : Nat) (B : Blk) (NC : Tr Value) (an : List Nat) (full : Bool), bs = some ⟨b, o, none⟩ ∧ c = U + z ∧ H.bl.get b = some B ∧ B.stale = false ∧ o + l * z ≤ B.n ∧ v = .slice (some ⟨H.next, 0, none⟩) (l + m) c ∧ H'.next = H.next + 1 ∧
      (∀ i u, (B.cells (l * z) o ++ new)[i]? = some u → (⟨(l + m) * z, .bool false, NC, B.chain, false, an⟩ : Blk).cell i = u) ∧
      (full = true → o + l * z = B.n ∧ an = b :: B.anc) ∧ (full = false → an = []) ∧
      ∀ k, H'.bl.get k = if k = H.next then some ⟨(l + m) * z, .bool false, NC, B.chain, false, an⟩ else if k = b then some ⟨if full then B.n else 0, B.z, B.c, B.chain, true, []⟩
        else if full = false ∧ k ∈ B.anc then (H.bl.get k).map (fun B => { B with n := 0 }) else H.bl.get k := by
  obtain ⟨nx, bl⟩ := H
  unfold appU at h
  split at h
  · rename_i b o nx' bl' heq
    cases heq
    cases hc : Nat.beq c (Nat.add U z) <;> rw [hc] at h <;> simp only [cond_true, cond_false] at h
    · cases h
    · have hc' : c = U + z := Nat.eq_of_beq_eq_true hc
      split at h
      · rename_i n bz bc ch stale anc hg
        split at h
        · cases h
        · cases hle : Nat.ble (o + l * z) n <;> rw [hle] at h <;> simp only [cond_true, cond_false] at h
          · cases h
          · have hle' := Nat.le_of_ble_eq_true hle
            rw [fNat_eq, fNat_eq] at h
            have hk := Blk.cellsK_eq ⟨n, bz, bc, ch, false, anc⟩ (l * z) o (fun old => putC old .nil 0 fun c' => putC new c' (l * z) fun c' =>
              bif Nat.beq (o + l * z) n then
                bl.put b ⟨n, bz, bc, ch, true, []⟩ fun bl =>
                bl.put nx ⟨(l + m) * z, .bool false, c', ch, false, b :: anc⟩ fun bl =>
                some (Value.slice (some ⟨nx, 0, none⟩) (l + m) c, (⟨Nat.succ nx, bl⟩ : Heap))
              else
                kill anc bl fun bl =>
                bl.put b ⟨0, bz, bc, ch, true, []⟩ fun bl =>
                bl.put nx ⟨(l + m) * z, .bool false, c', ch, false, []⟩ fun bl =>
                some (Value.slice (some ⟨nx, 0, none⟩) (l + m) c, (⟨Nat.succ nx, bl⟩ : Heap)))
            dsimp only at hk
            rw [hk] at h
            clear hk
            have hol := Blk.cells_length ⟨n, bz, bc, ch, false, anc⟩ (l * z) o
            generalize hold : Blk.cells ⟨n, bz, bc, ch, false, anc⟩ (l * z) o = old at h hol
            obtain ⟨c1, e1, h1⟩ := putC_eq old .nil 0 (fun c' => putC new c' (l * z) fun c' =>
              bif Nat.beq (o + l * z) n then
                bl.put b ⟨n, bz, bc, ch, true, []⟩ fun bl =>
                bl.put nx ⟨(l + m) * z, .bool false, c', ch, false, b :: anc⟩ fun bl =>
                some (Value.slice (some ⟨nx, 0, none⟩) (l + m) c, (⟨Nat.succ nx, bl⟩ : Heap))
              else
                kill anc bl fun bl =>
                bl.put b ⟨0, bz, bc, ch, true, []⟩ fun bl =>
                bl.put nx ⟨(l + m) * z, .bool false, c', ch, false, []⟩ fun bl =>
                some (Value.slice (some ⟨nx, 0, none⟩) (l + m) c, (⟨Nat.succ nx, bl⟩ : Heap)))
            rw [e1] at h
            obtain ⟨c2, e2, h2⟩ := putC_eq new c1 (l * z) (fun c' =>
              bif Nat.beq (o + l * z) n then
                bl.put b ⟨n, bz, bc, ch, true, []⟩ fun bl =>
                bl.put nx ⟨(l + m) * z, .bool false, c', ch, false, b :: anc⟩ fun bl =>
                some (Value.slice (some ⟨nx, 0, none⟩) (l + m) c, (⟨Nat.succ nx, bl⟩ : Heap))
              else
                kill anc bl fun bl =>
                bl.put b ⟨0, bz, bc, ch, true, []⟩ fun bl =>
                bl.put nx ⟨(l + m) * z, .bool false, c', ch, false, []⟩ fun bl =>
                some (Value.slice (some ⟨nx, 0, none⟩) (l + m) c, (⟨Nat.succ nx, bl⟩ : Heap)))
            rw [e2] at h
            have hcell : ∀ (an : List Nat) i u, (old ++ new)[i]? = some u → (⟨(l + m) * z, .bool false, c2, ch, false, an⟩ : Blk).cell i = u := by
              intro an i u hu
              have hi := (List.getElem?_eq_some_iff.1 hu).1
              rw [List.length_append, hol] at hi
              have hcg : c2.get i = some u := by
                rw [h2 i]
                by_cases hlt : l * z ≤ i
                · rw [if_pos ⟨hlt, hi⟩]
                  rw [List.getElem?_append_right (by omega), hol] at hu
                  exact hu
                · rw [if_neg (by omega), h1 i, if_pos (by omega)]
                  rw [List.getElem?_append_left (by omega)] at hu
                  simpa using hu
              simp only [Blk.cell, hcg]
            cases hfull : Nat.beq (o + l * z) n <;> rw [hfull] at h <;> simp only [cond_true, cond_false] at h
            · obtain ⟨bk, e3, h3⟩ := kill_eq anc bl (fun bl =>
                bl.put b ⟨0, bz, bc, ch, true, []⟩ fun bl =>
                bl.put nx ⟨(l + m) * z, .bool false, c2, ch, false, []⟩ fun bl =>
                some (Value.slice (some ⟨nx, 0, none⟩) (l + m) c, (⟨Nat.succ nx, bl⟩ : Heap)))
              rw [e3, Tr.put_eq, Tr.put_eq] at h
              cases h
              refine ⟨b, o, _, c2, [], false, rfl, hc', hg, rfl, hle', rfl, rfl, ?_, fun h => (by cases h), fun _ => rfl, fun k => ?_⟩
              · rw [hold]; exact hcell []
              · simp only [Tr.get_set, h3]
                simp
            · rw [Tr.put_eq, Tr.put_eq] at h
              cases h
              refine ⟨b, o, _, c2, b :: anc, true, rfl, hc', hg, rfl, hle', rfl, rfl, ?_, fun _ => ⟨Nat.eq_of_beq_eq_true hfull, rfl⟩, fun h => (by cases h), fun k => ?_⟩
              · rw [hold]; exact hcell _
              · simp only [Tr.get_set]
                simp
      · cases h
  · cases h

end Go.Proofs.YtkmhbfgkhalaoaaGreatDoor.LM

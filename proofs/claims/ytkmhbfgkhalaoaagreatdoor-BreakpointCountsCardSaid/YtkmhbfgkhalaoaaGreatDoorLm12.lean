/- append. -/
import Derived.Test.YtkmhbfgkhalaoaaGreatDoorLm11
set_option linter.unusedVariables false
set_option linter.unusedSimpArgs false
set_option linter.unusedSectionVars false
namespace Go.Proofs.YtkmhbfgkhalaoaaGreatDoor.LM
open Go Go.RowKit

theorem run_app_room {P : Program} (w : World) {t t' ty e : TypeId} {i : TypeInfo} {d : TypeDesc} {r p l c m : Nat} {x : Value} {news : List Value} (ht : P.underlying t = some (.slice e)) (ht' : P.underlying t' = some d) (hd : (∃ e', d = .slice e') ∨ d = .string)
    (hi : P.info? e = some i) (hx : (Builtin.lenOf x).run P w = .ok m w) (hf : (Builtin.firstCells i.size m x).run P w = .ok ⟨news⟩ w) (hroom : l + m ≤ c)
    (hc : ∀ j, j < news.length → (w.cell? ⟨r, p + l * i.size + j, none⟩).isSome = true ∧ w.frozen? ⟨r, p + l * i.size + j, none⟩ = false) (h1 : ∀ v ∈ news, v.oneCell' = true) :
    (Builtin.append_ #[t, t'] ty #[.slice (some ⟨r, p, none⟩) l c, x]).run P w = .ok (.slice (some ⟨r, p, none⟩) (l + m) c) (w.setCells r (p + l * i.size) news) := by
  have hst := run_storeCells_cells (P := P) r (p + l * i.size) news 0 w (fun j hj => (hc j hj).1) (fun j hj => (hc j hj).2) h1
  rcases hd with ⟨e', rfl⟩ | rfl <;> simp [Builtin.append_, run_underlying ht, run_underlying ht', sizeOf, typeInfo, hi, hx, hf, hroom, add_off, hst]

theorem run_app_grow {P : Program} (w : World) {t t' ty e : TypeId} {i : TypeInfo} {zv : Value} {d : TypeDesc} {A : Option Addr} {l c m : Nat} {x : Value} {olds news : List Value} (ht : P.underlying t = some (.slice e)) (ht' : P.underlying t' = some d) (hd : (∃ e', d = .slice e') ∨ d = .string)
    (hi : P.info? e = some i) (hz : i.zero = some zv) (hx : (Builtin.lenOf x).run P w = .ok m w) (hf : ∀ w1 : World, w1.heap = w.heap → (Builtin.firstCells i.size m x).run P w1 = .ok ⟨news⟩ w1)
    (ho : ∀ w1 : World, w1.heap = w.heap → (Builtin.firstCells i.size l (.slice A l c)).run P w1 = .ok ⟨olds⟩ w1) (hg : c < l + m) (hby : (l + m) * i.bytes ≤ 140737488355328) (hlt : l + m < 4611686018427387904) :
    (Builtin.append_ #[t, t'] ty #[.slice A l c, x]).run P w = .ok (.slice (some ⟨w.heap.size, 0, none⟩) (l + m) (grownCap w (l + m) c e))
      (w.drew.alloc (.cells ⟨olds ++ news ++ (Builtin.zeroCells zv.cells (grownCap w (l + m) c e - (l + m))).toList⟩ e)) := by
  have hn : ¬ (l + m ≤ c) := by omega
  have h63' : ¬ (9223372036854775807 < ((l : Int) + (m : Int))) := by omega
  have hfit := growslice_fits (bytes := i.bytes) hg hby
  have h48' : ¬ (281474976710656 < Builtin.nextslicecap (l + m) c * i.bytes) := by omega
  have hf1 := hf w.drew rfl
  have hf2 := ho w.drew rfl
  rcases hd with ⟨e', rfl⟩ | rfl
  all_goals
    simp [Builtin.append_, run_underlying ht, run_underlying ht', sizeOf, typeInfo, zeroValue, hi, hz, hx, hn, h63', h48', Question.forced, hf1, hf2, newRow, grownCap]
    congr 2
    apply Array.ext'
    simp [List.append_assoc]

theorem lenA_run {P : Program} {μ : Mu} (w : World) {x x' : Value} {m : Nat} (h : lenA x = some m) (hR : VR μ x x') : (Builtin.lenOf x').run P w = .ok m w := by
  cases x with
  | slice a n c =>
    cases h
    cases a with
    | none =>
      obtain ⟨rfl, ⟨_, rfl⟩ | ⟨_, A, c', rfl⟩⟩ := sl0_inv hR <;> rfl
    | some a => obtain ⟨b, o, r, d, lim, c', rfl, rfl, _⟩ := sl_inv hR; rfl
  | string s =>
    cases h
    rw [string_inv hR]
    have : s.data.toList.length = s.size := Array.length_toList
    rw [this]
    rfl
  | _ => cases h

theorem firstA_run {P : Program} {μ : Mu} {base : Nat} {H : Heap} {w : World} (hr : HR μ base H w) {x x' : Value} {z n : Nat} {l : List Value} (h : firstA H z n x = some l) (hR : VR μ x x') :
    ∃ l', LR μ l l' ∧ ∀ w1 : World, w1.heap = w.heap → (Builtin.firstCells z n x').run P w1 = .ok ⟨l'⟩ w1 := by
  cases x with
  | slice a len c =>
    cases a with
    | none =>
      simp only [firstA] at h
      cases hn : Nat.beq n 0 <;> rw [hn] at h <;> simp only [cond_true, cond_false] at h
      · cases h
      · cases h
        have hn0 := Nat.eq_of_beq_eq_true hn
        subst hn0
        refine ⟨[], LR.nil, fun w1 _ => ?_⟩
        obtain ⟨rfl, ⟨_, rfl⟩ | ⟨_, A, c', rfl⟩⟩ := sl0_inv hR
        · rfl
        · cases A with
          | none => rfl
          | some A => simp [Builtin.firstCells, loadCells, loadCellsFrom]
    | some a =>
      obtain ⟨b, o, r, d, lim, c', rfl, rfl, hm, _⟩ := sl_inv hR
      have h : rdN H ⟨b, o, none⟩ (n * z) = some l := h
      obtain ⟨b', o', B, e2, hg, hle, rfl⟩ := rdN_inv h
      cases e2
      obtain ⟨ys, hyl, hyc, hyL⟩ := hr.row hg hm (n * z) o hle
      refine ⟨ys, hyL, fun w1 hw1 => ?_⟩
      have hload := run_loadCells_list (P := P) w1 ⟨r, d + o, none⟩ ys (fun j v hj => by
        rw [add_off]
        have := hyc j v hj
        simpa [World.cell?, hw1] using this)
      rw [hyl] at hload
      simp [Builtin.firstCells, hload]
  | string s =>
    simp only [firstA] at h
    cases hn : Nat.beq n s.data.toList.length <;> rw [hn] at h <;> simp only [cond_true, cond_false] at h
    · cases h
    · rw [fL0_eq] at h
      cases h
      have hn0 := Nat.eq_of_beq_eq_true hn
      rw [string_inv hR]
      refine ⟨s.data.toList.map fun b => Value.int .u8 b.toNat, ⟨rfl, fun i x y hx hy => ?_⟩, fun w1 _ => ?_⟩
      · rw [hx] at hy
        cases hy
        obtain ⟨b, _, rfl⟩ := List.mem_map.1 (List.mem_of_getElem? hx)
        exact .flat rfl
      · have e1 : s.size = s.data.size := rfl
        have e2 : s.extract 0 n = s := by
          apply ByteArray.ext
          rw [hn0]
          simp
        simp only [Builtin.firstCells, e2, Sem.run_pure]
        congr 1
        apply Array.ext'
        simp
  | _ => cases h

end Go.Proofs.YtkmhbfgkhalaoaaGreatDoor.LM

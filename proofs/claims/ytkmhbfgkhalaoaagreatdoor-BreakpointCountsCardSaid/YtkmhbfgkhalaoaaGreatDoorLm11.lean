/- Conversions and small builtins. -/
import Derived.Test.YtkmhbfgkhalaoaaGreatDoorLm10
import Derived.Laws.BytesString
import Derived.Lib.ConvBytes
import Derived.Laws.Cover1
import Derived.Laws.AppendOwn
set_option linter.unusedVariables false
set_option linter.unusedSimpArgs false
set_option linter.unusedSectionVars false
namespace Go.Proofs.YtkmhbfgkhalaoaaGreatDoor.LM
open Go Go.RowKit

theorem nums_eq (H : Heap) : ∀ (cs : List Value) (l : List UInt8), nums H cs = some l → ∃ ns : List Int, cs = ns.map (Value.int .u8) ∧ l = ns.map fun n => UInt8.ofNat n.toNat := by
  intro cs
  induction cs with
  | nil => intro l h; cases h; exact ⟨[], rfl, rfl⟩
  | cons v r ih =>
    intro l h
    unfold nums at h
    split at h
    · rename_i he; cases he
    · rename_i n r' he
      cases he
      split at h
      · rename_i l' hl
        cases h
        obtain ⟨ns, rfl, rfl⟩ := ih _ hl
        exact ⟨n :: ns, rfl, rfl⟩
      · cases h
    · cases h
theorem push_fold (ns : List Int) : ∀ (s : ByteArray), (ns.foldl (fun r n => r.push (UInt8.ofNat n.toNat)) s) = ⟨⟨s.data.toList ++ ns.map fun n => UInt8.ofNat n.toNat⟩⟩ := by
  induction ns with
  | nil => intro s; simp
  | cons n r ih =>
    intro s
    rw [List.foldl_cons, ih]
    apply ByteArray.ext
    apply Array.ext'
    simp [ByteArray.push]
theorem LR_ints {μ : Mu} {ns : List Int} {ys : List Value} (h : LR μ (ns.map (Value.int .u8)) ys) : ys = ns.map (Value.int .u8) := by
  induction ns generalizing ys with
  | nil => exact h.inv_nil
  | cons n r ih => obtain ⟨y, ys', rfl, h1, h2⟩ := h.inv_cons; rw [int_inv h1, ih h2]; rfl

theorem convA_run {P : Program} {μ : Mu} (w : World) {s d : TypeId} {x x' v : Value} (h : convA P s d x = some v) (hR : VR μ x x') : (convert s d x').run P w = .ok v w ∧ flat v = true := by
  unfold convA at h
  split at h
  · rename_i hs hd
    rw [fInt_eq] at h
    cases h
    rw [int_inv hR]
    exact ⟨by simp [convert, run_underlying hs, run_underlying hd, Conv.intToInt], rfl⟩
  · rename_i hs hd
    cases h
    rw [string_inv hR]
    exact ⟨by simp [convert, run_underlying hs, run_underlying hd], rfl⟩
  · cases h

/-- The bytes of a constant string are marked behind their end. -/
theorem mark_run {P : Program} (w : World) (r o : Nat) : ∃ w', (markStringish ⟨r, o, none⟩).run P w = .ok () w' ∧ (∀ a, w'.cell? a = w.cell? a) ∧
    (∀ i, (∀ j, j ≤ i → (∃ v, w.cell? ⟨r, j, none⟩ = some v) ∧ w.fro ⟨r, j, none⟩ = false) → w'.fro ⟨r, i, none⟩ = false) ∧ (∀ q, q ≠ r → w'.heap[q]? = w.heap[q]?) ∧ w'.heap.size = w.heap.size ∧ w'.os = w.os ∧ w'.tape = w.tape ∧ w'.output = w.output := by
  cases hx : w.heap[r]? with
  | none =>
    refine ⟨w, by simp [markStringish, World.shape?, hx], fun _ => rfl, fun i h => (h i (Nat.le_refl _)).2, fun _ _ => rfl, rfl, rfl, rfl, rfl⟩
  | some ob =>
    cases ob with
    | cells c e fz =>
      obtain ⟨lo, hi⟩ := fz
      have hlt : r < w.heap.size := (Array.getElem?_eq_some_iff.1 hx).1
      have hat : (w.freeze ⟨r, c.size, none⟩ 1).heap[r]? = some (.cells c e (if lo == hi then (c.size, c.size + 1) else (min lo c.size, max hi (c.size + 1)))) := by
        unfold World.freeze
        rw [if_neg (by decide)]
        simp only [Array.getElem?_modify, if_true, hx, Option.map_some]
      have hoff : ∀ q, q ≠ r → (w.freeze ⟨r, c.size, none⟩ 1).heap[q]? = w.heap[q]? := by
        intro q hq
        unfold World.freeze
        rw [if_neg (by decide)]
        simp only [Array.getElem?_modify, if_neg (Ne.symm hq)]
      refine ⟨w.freeze ⟨r, c.size, none⟩ 1, by simp [markStringish, World.shape?, hx], fun a => ?_, fun i h => ?_, hoff, ?_, ?_, ?_, ?_⟩
      · unfold World.cell?
        by_cases ha : a.block = r
        · rw [ha, hat, hx]
        · rw [hoff _ ha]
      · have hi1 := h i (Nat.le_refl _)
        obtain ⟨⟨v, hv⟩, hf⟩ := hi1
        have hic : i < c.size := by
          simp only [World.cell?, hx] at hv
          simp at hv
          exact (Array.getElem?_eq_some_iff.1 hv).1
        unfold World.fro at hf ⊢
        rw [hat]
        rw [hx] at hf
        dsimp only at hf ⊢
        by_cases he : lo = hi
        · subst he
          simp
          omega
        · have he' : (lo == hi) = false := by simpa using he
          rw [he']
          simp only [Bool.or_eq_false_iff, Bool.and_eq_false_iff, decide_eq_false_iff_not, Bool.false_eq_true, if_false] at hf ⊢
          have hlo : ¬ lo ≤ i := by
            intro hle
            have := (h lo hle).2
            unfold World.fro at this
            rw [hx] at this
            simp at this
            omega
          omega
      · unfold World.freeze; rw [if_neg (by decide)]; simp
      all_goals (unfold World.freeze; rw [if_neg (by decide)])
    | _ => exact ⟨w, by simp [markStringish, World.shape?, hx], fun _ => rfl, fun i h => (h i (Nat.le_refl _)).2, fun _ _ => rfl, rfl, rfl, rfl, rfl⟩

section
variable {P : Program} {o : Oper} {a : Act} {w : World} {μ : Mu} {base : Nat} {H H' : Heap} {tm : Tr Value} {v : Value}
  (hw : HW H) (hr : HR μ base H w) (hb : base ≤ w.heap.size) (ht : TR μ tm a) (hf : Free μ H H')
include hw hr hb ht hf

theorem sConv_ok {s d : TypeId} {x : Operand} (ho : o.op = .convert s d x) (h : sConv P H tm s d x = some (v, H')) : OpOk P o a w μ base H v H' := by
  unfold sConv at h
  split at h
  · rename_i p hp
    have hR := ev_eq ht hp
    unfold convH at h
    split at h
    · rename_i e ad n c hs hd
      split at h
      · rename_i he
        split at h
        · cases h
          obtain ⟨rfl, hc⟩ := sl0_inv hR
          have : (convert s d (a.eval x)).run P w = .ok (.string ⟨⟨[]⟩⟩) w := by
            rcases hc with ⟨_, e1⟩ | ⟨_, A, c', e1⟩
            · rw [e1]; simp [convert, run_underlying hs, run_underlying hd, run_underlying he, Conv.bytesToString]; rfl
            · rw [e1]
              cases A with
              | none => simp [convert, run_underlying hs, run_underlying hd, run_underlying he, Conv.bytesToString]; rfl
              | some A => simp [convert, run_underlying hs, run_underlying hd, run_underlying he, Conv.bytesToString, loadCells, loadCellsFrom]; rfl
          exact .pure hw hr (by simp [execOp, ho, this]) (.flat rfl)
        · rename_i ad
          split at h
          · rename_i cs hcs
            split at h
            · rename_i l hl
              rw [fBs_eq] at h
              cases h
              obtain ⟨ns, rfl, rfl⟩ := nums_eq H _ _ hl
              obtain ⟨b, oo, r, dd, lim, c', rfl, e1, hm, hlc, hcc⟩ := sl_inv hR
              obtain ⟨b', o', B, e2, hg, hle, e3⟩ := rdN_inv hcs
              cases e2
              obtain ⟨ys, hyl, hyc, hyL⟩ := hr.row hg hm n oo hle
              rw [← e3] at hyL
              have hys := LR_ints hyL
              subst hys
              have hload := run_loadCells_list (P := P) w ⟨r, dd + oo, none⟩ (ns.map (Value.int .u8)) (fun j v hj => by rw [add_off]; exact hyc j v hj)
              rw [hyl] at hload
              have hrun := run_bytesToString (P := P) w ⟨r, dd + oo, none⟩ n c' ns hload
              rw [push_fold] at hrun
              refine .pure hw hr (v' := .string ⟨⟨ns.map fun n => UInt8.ofNat n.toNat⟩⟩) ?_ (.flat rfl)
              have : (convert s d (a.eval x)).run P w = .ok (.string ⟨⟨ns.map fun n => UInt8.ofNat n.toNat⟩⟩) w := by
                rw [e1]
                simp only [convert, Sem.run_bind, run_underlying hs, run_underlying hd, run_underlying he, Result.andThen_ok]
                exact hrun
              simp [execOp, ho, this]
            · cases h
          · cases h
      · cases h
    · rename_i e str hs hd
      split at h
      · rename_i he
        rw [fL0_eq] at h
        have hstr := string_inv hR
        have hrun := Lib.run_convert_string_bytes (P := P) w s d e str hs hd he
        obtain ⟨c, e1, hc⟩ := newL_eq H (str.data.toList.map fun b => Value.int .u8 b.toNat) (fun H' b => fNat str.data.toList.length fun n => some (Value.slice (some ⟨b, 0, none⟩) n (U + 1), H'))
        rw [e1, fNat_eq] at h
        have h' := Option.some.inj h
        cases h'
        have hsz : (Lib.bytesCells w e str).size = grownCap w str.size 0 e := by
          have := grownCap_ge w str.size 0 e
          simp [Lib.bytesCells]
          have e2 : str.size = str.data.size := rfl
          omega
        have hge := grownCap_ge w str.size 0 e
        have hle : str.data.toList.length = str.size := Array.length_toList
        have hn : μ H.next = none := hf _ (Nat.le_refl _) (Nat.lt_succ_self _)
        have hfr : ∀ i, i < (Lib.bytesCells w e str).size → (Lib.bytesWorld w e str).fro ⟨w.heap.size, i, none⟩ = false := by
          intro i hi
          simp only [World.fro, Lib.bytesWorld_at_new]
          simp
          omega
        have hnb := new_block' (w' := Lib.bytesWorld w e str) (n := (str.data.toList.map fun b => Value.int .u8 b.toNat).length) (z := .bool false) (c := c) (cs := Lib.bytesCells w e str) hw hr hb hn
          (by rw [hsz, List.length_map, hle]; exact hge)
          (fun i hi => by
            have hx := List.getElem?_eq_getElem hi
            rw [hc i _ hx]
            refine ⟨by simp [Value.oneCell'], _, ?_, .flat (by simp [flat])⟩
            have hi2 : i < str.data.size := by simpa using hi
            have hi3 : i < str.size := hi2
            simp [Lib.bytesCells, Array.getElem?_append, hi2, hi3])
          (Lib.bytesWorld_size w e str) (fun r hr' => Lib.bytesWorld_at_old w e str r hr') (fun i v hv => by simp [World.cell?, Lib.bytesWorld_at_new, hv]) hfr rfl rfl rfl
        refine ⟨.slice (some ⟨w.heap.size, 0, none⟩) str.size (grownCap w str.size 0 e), Lib.bytesWorld w e str, _, .inl ?_, ?_, hnb⟩
        · simp [execOp, ho, hstr, hrun]
        · have e3 : (⟨w.heap.size, 0, none⟩ : Addr) = ⟨w.heap.size, 0 + 0, none⟩ := rfl
          rw [hle]
          refine .sl (lim := (Lib.bytesCells w e str).size) (d := 0) (by unfold upd; rw [if_pos rfl]) hge (.inr ⟨1, rfl, ?_⟩)
          rw [hsz]; omega
      · cases h
    · rename_i e0 e ad n c hs hd
      split at h
      · rename_i hsd he
        have hsd := Nat.eq_of_beq_eq_true hsd
        subst hsd
        split at h
        · rename_i b0 o0
          split at h
          rename_i nx bl
          split at h
          · rename_i B hB
            cases h
            obtain ⟨b, oo, r, dd, lim, c', e2, e1, hm, hlc, hcc⟩ := sl_inv hR
            cases e2
            have hee : e0 = e := by rw [hs] at hd; cases hd; rfl
            subst hee
            obtain ⟨w', k1, k2, k3, k4, k5, k6, k7, k8⟩ := mark_run (P := P) w r (dd + o0)
            have hrun : (convert s s (a.eval x)).run P w = .ok (.slice (some ⟨r, dd + o0, none⟩) n c') w' := by
              rw [e1]
              simp [convert, run_underlying hs, run_underlying he, k1]
            refine ⟨.slice (some ⟨r, dd + o0, none⟩) n c', w', μ, .inl (by simp [execOp, ho, hrun]), (by rw [← e1]; exact hR), hw, ⟨fun k K rk dk limk hk hmk => ?_, fun k K rk dk limk i hk hmk hi => ?_, hr.chain, hr.ancm, hr.below⟩, ?_⟩
            · obtain ⟨g1, g2, g3, g4⟩ := hr.live k K rk dk limk hk hmk
              refine ⟨g1, by rw [k5]; exact g2, g3, fun i hi => ⟨by rw [k2]; exact (g4 i hi).1, ?_⟩⟩
              by_cases hq : rk = r
              · subst hq
                exact k3 i (fun j hj => g4 j (by omega))
              · unfold World.fro
                rw [k4 rk hq]
                exact (g4 i hi).2
            · obtain ⟨g1, v, g2, g3⟩ := hr.cell k K rk dk limk i hk hmk hi
              exact ⟨g1, v, by rw [k2]; exact g2, g3⟩
            · refine ⟨Nat.le_refl _, fun _ _ => rfl, fun k B' _ hk => ⟨B', hk⟩, fun _ _ _ => rfl, fun q hq hno => k4 q (fun e => hno b0 B dd lim hB (by rw [e]; exact hm)), fun k _ _ _ g1 g2 => absurd g1 (Nat.not_le.2 g2), by rw [k5]; exact Nat.le_refl _, k6, k7, k8⟩
          · cases h
        · cases h
      · cases h
    · split at h
      · rename_i u hu
        cases h
        obtain ⟨h1, h2⟩ := convA_run (P := P) w hu hR
        exact .pure hw hr (by simp [execOp, ho, h1]) (.flat h2)
      · cases h
  · cases h

end
end Go.Proofs.YtkmhbfgkhalaoaaGreatDoor.LM

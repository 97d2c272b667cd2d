/- A runner of closed calls, proved sound: part B. Its conditions stand in its lemmas. -/
import Derived.Test.YtkmhbfgkhalaoaaGreatDoorLmA
import Derived.Laws.BytesString
import Derived.Lib.ConvBytes
import Derived.Laws.Cover1
import Derived.Laws.AppendOwn
import Derived.OrdersIn
import Derived.LoopNIn
import Derived.RangeFuncRecord
/- Conversions and small builtins. -/
set_option linter.unusedVariables false
set_option linter.unusedSimpArgs false
set_option linter.unusedSectionVars false
namespace Go.Proofs.YtkmhbfgkhalaoaaGreatDoor.LM
open Go Go.RowKit

theorem nums_eq (H : Heap) : ∀ (cs : List Value) (l : List UInt8), nums H cs = some l → ∃ ns : List Int, cs = ns.map (Value.int .u8) ∧ l = ns.map fun n => UInt8.ofNat n.toNat := by
  intro cs
  induction cs with
  | nil => intro l h; cases h; exact ⟨[], rfl, rfl⟩
  | cons v r ih =>
    intro l h
    unfold nums at h
    split at h
    · rename_i he; cases he
    · rename_i n r' he
      cases he
      split at h
      · rename_i l' hl
        cases h
        obtain ⟨ns, rfl, rfl⟩ := ih _ hl
        exact ⟨n :: ns, rfl, rfl⟩
      · cases h
    · cases h
theorem push_fold (ns : List Int) : ∀ (s : ByteArray), (ns.foldl (fun r n => r.push (UInt8.ofNat n.toNat)) s) = ⟨⟨s.data.toList ++ ns.map fun n => UInt8.ofNat n.toNat⟩⟩ := by
  induction ns with
  | nil => intro s; simp
  | cons n r ih =>
    intro s
    rw [List.foldl_cons, ih]
    apply ByteArray.ext
    apply Array.ext'
    simp [ByteArray.push]
theorem LR_ints {μ : Mu} {ns : List Int} {ys : List Value} (h : LR μ (ns.map (Value.int .u8)) ys) : ys = ns.map (Value.int .u8) := by
  induction ns generalizing ys with
  | nil => exact h.inv_nil
  | cons n r ih => obtain ⟨y, ys', rfl, h1, h2⟩ := h.inv_cons; rw [int_inv h1, ih h2]; rfl

theorem convA_run {P : Program} {μ : Mu} (w : World) {s d : TypeId} {x x' v : Value} (h : convA P s d x = some v) (hR : VR μ x x') : (convert s d x').run P w = .ok v w ∧ flat v = true := by
  unfold convA at h
  split at h
  · rename_i hs hd
    rw [fInt_eq] at h
    cases h
    rw [int_inv hR]
    exact ⟨by simp [convert, run_underlying hs, run_underlying hd, Conv.intToInt], rfl⟩
  · rename_i hs hd
    cases h
    rw [string_inv hR]
    exact ⟨by simp [convert, run_underlying hs, run_underlying hd], rfl⟩
  · cases h

/-- The bytes of a constant string are marked behind their end. -/
theorem mark_run {P : Program} (w : World) (r o : Nat) : ∃ w', (markStringish ⟨r, o, none⟩).run P w = .ok () w' ∧ (∀ a, w'.cell? a = w.cell? a) ∧
    (∀ i, (∀ j, j ≤ i → (∃ v, w.cell? ⟨r, j, none⟩ = some v) ∧ w.fro ⟨r, j, none⟩ = false) → w'.fro ⟨r, i, none⟩ = false) ∧ (∀ q, q ≠ r → w'.heap[q]? = w.heap[q]?) ∧ w'.heap.size = w.heap.size ∧ w'.os = w.os ∧ w'.tape = w.tape ∧ w'.output = w.output := by
  cases hx : w.heap[r]? with
  | none =>
    refine ⟨w, by simp [markStringish, World.shape?, hx], fun _ => rfl, fun i h => (h i (Nat.le_refl _)).2, fun _ _ => rfl, rfl, rfl, rfl, rfl⟩
  | some ob =>
    cases ob with
    | cells c e fz =>
      obtain ⟨lo, hi⟩ := fz
      have hlt : r < w.heap.size := (Array.getElem?_eq_some_iff.1 hx).1
      have hat : (w.freeze ⟨r, c.size, none⟩ 1).heap[r]? = some (.cells c e (if lo == hi then (c.size, c.size + 1) else (min lo c.size, max hi (c.size + 1)))) := by
        unfold World.freeze
        rw [if_neg (by decide)]
        simp only [Array.getElem?_modify, if_true, hx, Option.map_some]
      have hoff : ∀ q, q ≠ r → (w.freeze ⟨r, c.size, none⟩ 1).heap[q]? = w.heap[q]? := by
        intro q hq
        unfold World.freeze
        rw [if_neg (by decide)]
        simp only [Array.getElem?_modify, if_neg (Ne.symm hq)]
      refine ⟨w.freeze ⟨r, c.size, none⟩ 1, by simp [markStringish, World.shape?, hx], fun a => ?_, fun i h => ?_, hoff, ?_, ?_, ?_, ?_⟩
      · unfold World.cell?
        by_cases ha : a.block = r
        · rw [ha, hat, hx]
        · rw [hoff _ ha]
      · have hi1 := h i (Nat.le_refl _)
        obtain ⟨⟨v, hv⟩, hf⟩ := hi1
        have hic : i < c.size := by
          simp only [World.cell?, hx] at hv
          simp at hv
          exact (Array.getElem?_eq_some_iff.1 hv).1
        unfold World.fro at hf ⊢
        rw [hat]
        rw [hx] at hf
        dsimp only at hf ⊢
        by_cases he : lo = hi
        · subst he
          simp
          omega
        · have he' : (lo == hi) = false := by simpa using he
          rw [he']
          simp only [Bool.or_eq_false_iff, Bool.and_eq_false_iff, decide_eq_false_iff_not, Bool.false_eq_true, if_false] at hf ⊢
          have hlo : ¬ lo ≤ i := by
            intro hle
            have := (h lo hle).2
            unfold World.fro at this
            rw [hx] at this
            simp at this
            omega
          omega
      · unfold World.freeze; rw [if_neg (by decide)]; simp
      all_goals (unfold World.freeze; rw [if_neg (by decide)])
    | _ => exact ⟨w, by simp [markStringish, World.shape?, hx], fun _ => rfl, fun i h => (h i (Nat.le_refl _)).2, fun _ _ => rfl, rfl, rfl, rfl, rfl⟩

section
variable {P : Program} {o : Oper} {a : Act} {w : World} {μ : Mu} {base : Nat} {H H' : Heap} {tm : Tr Value} {v : Value}
  (hw : HW H) (hr : HR μ base H w) (hb : base ≤ w.heap.size) (ht : TR μ tm a) (hf : Free μ H H')
include hw hr hb ht hf

theorem sConv_ok {s d : TypeId} {x : Operand} (ho : o.op = .convert s d x) (h : sConv P H tm s d x = some (v, H')) : OpOk P o a w μ base H v H' := by
  unfold sConv at h
  split at h
  · rename_i p hp
    have hR := ev_eq ht hp
    unfold convH at h
    split at h
    · rename_i e ad n c hs hd
      split at h
      · rename_i he
        split at h
        · cases h
          obtain ⟨rfl, hc⟩ := sl0_inv hR
          have : (convert s d (a.eval x)).run P w = .ok (.string ⟨⟨[]⟩⟩) w := by
            rcases hc with ⟨_, e1⟩ | ⟨_, A, c', e1⟩
            · rw [e1]; simp [convert, run_underlying hs, run_underlying hd, run_underlying he, Conv.bytesToString]; rfl
            · rw [e1]
              cases A with
              | none => simp [convert, run_underlying hs, run_underlying hd, run_underlying he, Conv.bytesToString]; rfl
              | some A => simp [convert, run_underlying hs, run_underlying hd, run_underlying he, Conv.bytesToString, loadCells, loadCellsFrom]; rfl
          exact .pure hw hr (by simp [execOp, ho, this]) (.flat rfl)
        · rename_i ad
          split at h
          · rename_i cs hcs
            split at h
            · rename_i l hl
              rw [fBs_eq] at h
              cases h
              obtain ⟨ns, rfl, rfl⟩ := nums_eq H _ _ hl
              obtain ⟨b, oo, r, dd, lim, c', rfl, e1, hm, hlc, hcc⟩ := sl_inv hR
              obtain ⟨b', o', B, e2, hg, hle, e3⟩ := rdN_inv hcs
              cases e2
              obtain ⟨ys, hyl, hyc, hyL⟩ := hr.row hg hm n oo hle
              rw [← e3] at hyL
              have hys := LR_ints hyL
              subst hys
              have hload := run_loadCells_list (P := P) w ⟨r, dd + oo, none⟩ (ns.map (Value.int .u8)) (fun j v hj => by rw [add_off]; exact hyc j v hj)
              rw [hyl] at hload
              have hrun := run_bytesToString (P := P) w ⟨r, dd + oo, none⟩ n c' ns hload
              rw [push_fold] at hrun
              refine .pure hw hr (v' := .string ⟨⟨ns.map fun n => UInt8.ofNat n.toNat⟩⟩) ?_ (.flat rfl)
              have : (convert s d (a.eval x)).run P w = .ok (.string ⟨⟨ns.map fun n => UInt8.ofNat n.toNat⟩⟩) w := by
                rw [e1]
                simp only [convert, Sem.run_bind, run_underlying hs, run_underlying hd, run_underlying he, Result.andThen_ok]
                exact hrun
              simp [execOp, ho, this]
            · cases h
          · cases h
      · cases h
    · rename_i e str hs hd
      split at h
      · rename_i he
        rw [fL0_eq] at h
        have hstr := string_inv hR
        have hrun := Lib.run_convert_string_bytes (P := P) w s d e str hs hd he
        obtain ⟨c, e1, hc⟩ := newL_eq H (str.data.toList.map fun b => Value.int .u8 b.toNat) (fun H' b => fNat str.data.toList.length fun n => some (Value.slice (some ⟨b, 0, none⟩) n (U + 1), H'))
        rw [e1, fNat_eq] at h
        have h' := Option.some.inj h
        cases h'
        have hsz : (Lib.bytesCells w e str).size = grownCap w str.size 0 e := by
          have := grownCap_ge w str.size 0 e
          simp [Lib.bytesCells]
          have e2 : str.size = str.data.size := rfl
          omega
        have hge := grownCap_ge w str.size 0 e
        have hle : str.data.toList.length = str.size := Array.length_toList
        have hn : μ H.next = none := hf _ (Nat.le_refl _) (Nat.lt_succ_self _)
        have hfr : ∀ i, i < (Lib.bytesCells w e str).size → (Lib.bytesWorld w e str).fro ⟨w.heap.size, i, none⟩ = false := by
          intro i hi
          simp only [World.fro, Lib.bytesWorld_at_new]
          simp
          omega
        have hnb := new_block' (w' := Lib.bytesWorld w e str) (n := (str.data.toList.map fun b => Value.int .u8 b.toNat).length) (z := .bool false) (c := c) (cs := Lib.bytesCells w e str) hw hr hb hn
          (by rw [hsz, List.length_map, hle]; exact hge)
          (fun i hi => by
            have hx := List.getElem?_eq_getElem hi
            rw [hc i _ hx]
            refine ⟨by simp [Value.oneCell'], _, ?_, .flat (by simp [flat])⟩
            have hi2 : i < str.data.size := by simpa using hi
            have hi3 : i < str.size := hi2
            simp [Lib.bytesCells, Array.getElem?_append, hi2, hi3])
          (Lib.bytesWorld_size w e str) (fun r hr' => Lib.bytesWorld_at_old w e str r hr') (fun i v hv => by simp [World.cell?, Lib.bytesWorld_at_new, hv]) hfr rfl rfl rfl
        refine ⟨.slice (some ⟨w.heap.size, 0, none⟩) str.size (grownCap w str.size 0 e), Lib.bytesWorld w e str, _, .inl ?_, ?_, hnb⟩
        · simp [execOp, ho, hstr, hrun]
        · have e3 : (⟨w.heap.size, 0, none⟩ : Addr) = ⟨w.heap.size, 0 + 0, none⟩ := rfl
          rw [hle]
          refine .sl (lim := (Lib.bytesCells w e str).size) (d := 0) (by unfold upd; rw [if_pos rfl]) hge (.inr ⟨1, rfl, ?_⟩)
          rw [hsz]; omega
      · cases h
    · rename_i e0 e ad n c hs hd
      split at h
      · rename_i hsd he
        have hsd := Nat.eq_of_beq_eq_true hsd
        subst hsd
        split at h
        · rename_i b0 o0
          split at h
          rename_i nx bl
          split at h
          · rename_i B hB
            cases h
            obtain ⟨b, oo, r, dd, lim, c', e2, e1, hm, hlc, hcc⟩ := sl_inv hR
            cases e2
            have hee : e0 = e := by rw [hs] at hd; cases hd; rfl
            subst hee
            obtain ⟨w', k1, k2, k3, k4, k5, k6, k7, k8⟩ := mark_run (P := P) w r (dd + o0)
            have hrun : (convert s s (a.eval x)).run P w = .ok (.slice (some ⟨r, dd + o0, none⟩) n c') w' := by
              rw [e1]
              simp [convert, run_underlying hs, run_underlying he, k1]
            refine ⟨.slice (some ⟨r, dd + o0, none⟩) n c', w', μ, .inl (by simp [execOp, ho, hrun]), (by rw [← e1]; exact hR), hw, ⟨fun k K rk dk limk hk hmk => ?_, fun k K rk dk limk i hk hmk hi => ?_, hr.chain, hr.ancm, hr.below⟩, ?_⟩
            · obtain ⟨g1, g2, g3, g4⟩ := hr.live k K rk dk limk hk hmk
              refine ⟨g1, by rw [k5]; exact g2, g3, fun i hi => ⟨by rw [k2]; exact (g4 i hi).1, ?_⟩⟩
              by_cases hq : rk = r
              · subst hq
                exact k3 i (fun j hj => g4 j (by omega))
              · unfold World.fro
                rw [k4 rk hq]
                exact (g4 i hi).2
            · obtain ⟨g1, v, g2, g3⟩ := hr.cell k K rk dk limk i hk hmk hi
              exact ⟨g1, v, by rw [k2]; exact g2, g3⟩
            · refine ⟨Nat.le_refl _, fun _ _ => rfl, fun k B' _ hk => ⟨B', hk⟩, fun _ _ _ => rfl, fun q hq hno => k4 q (fun e => hno b0 B dd lim hB (by rw [e]; exact hm)), fun k _ _ _ g1 g2 => absurd g1 (Nat.not_le.2 g2), by rw [k5]; exact Nat.le_refl _, k6, k7, k8⟩
          · cases h
        · cases h
      · cases h
    · split at h
      · rename_i u hu
        cases h
        obtain ⟨h1, h2⟩ := convA_run (P := P) w hu hR
        exact .pure hw hr (by simp [execOp, ho, h1]) (.flat h2)
      · cases h
  · cases h

end
end Go.Proofs.YtkmhbfgkhalaoaaGreatDoor.LM
/- append. -/

set_option linter.unusedVariables false
set_option linter.unusedSimpArgs false
set_option linter.unusedSectionVars false
namespace Go.Proofs.YtkmhbfgkhalaoaaGreatDoor.LM
open Go Go.RowKit

theorem run_app_room {P : Program} (w : World) {t t' ty e : TypeId} {i : TypeInfo} {d : TypeDesc} {r p l c m : Nat} {x : Value} {news : List Value} (ht : P.underlying t = some (.slice e)) (ht' : P.underlying t' = some d) (hd : (∃ e', d = .slice e') ∨ d = .string)
    (hi : P.info? e = some i) (hx : (Builtin.lenOf x).run P w = .ok m w) (hf : (Builtin.firstCells i.size m x).run P w = .ok ⟨news⟩ w) (hroom : l + m ≤ c)
    (hc : ∀ j, j < news.length → (w.cell? ⟨r, p + l * i.size + j, none⟩).isSome = true ∧ w.frozen? ⟨r, p + l * i.size + j, none⟩ = false) (h1 : ∀ v ∈ news, v.oneCell' = true) :
    (Builtin.append_ #[t, t'] ty #[.slice (some ⟨r, p, none⟩) l c, x]).run P w = .ok (.slice (some ⟨r, p, none⟩) (l + m) c) (w.setCells r (p + l * i.size) news) := by
  have hst := run_storeCells_cells (P := P) r (p + l * i.size) news 0 w (fun j hj => (hc j hj).1) (fun j hj => (hc j hj).2) h1
  rcases hd with ⟨e', rfl⟩ | rfl <;> simp [Builtin.append_, run_underlying ht, run_underlying ht', sizeOf, typeInfo, hi, hx, hf, hroom, add_off, hst]

theorem run_app_grow {P : Program} (w : World) {t t' ty e : TypeId} {i : TypeInfo} {zv : Value} {d : TypeDesc} {A : Option Addr} {l c m : Nat} {x : Value} {olds news : List Value} (ht : P.underlying t = some (.slice e)) (ht' : P.underlying t' = some d) (hd : (∃ e', d = .slice e') ∨ d = .string)
    (hi : P.info? e = some i) (hz : i.zero = some zv) (hx : (Builtin.lenOf x).run P w = .ok m w) (hf : ∀ w1 : World, w1.heap = w.heap → (Builtin.firstCells i.size m x).run P w1 = .ok ⟨news⟩ w1)
    (ho : ∀ w1 : World, w1.heap = w.heap → (Builtin.firstCells i.size l (.slice A l c)).run P w1 = .ok ⟨olds⟩ w1) (hg : c < l + m) (hby : (l + m) * i.bytes ≤ 140737488355328) (hlt : l + m < 4611686018427387904) :
    (Builtin.append_ #[t, t'] ty #[.slice A l c, x]).run P w = .ok (.slice (some ⟨w.heap.size, 0, none⟩) (l + m) (grownCap w (l + m) c e))
      (w.drew.alloc (.cells ⟨olds ++ news ++ (Builtin.zeroCells zv.cells (grownCap w (l + m) c e - (l + m))).toList⟩ e)) := by
  have hn : ¬ (l + m ≤ c) := by omega
  have h63' : ¬ (9223372036854775807 < ((l : Int) + (m : Int))) := by omega
  have hfit := growslice_fits (bytes := i.bytes) hg hby
  have h48' : ¬ (281474976710656 < Builtin.nextslicecap (l + m) c * i.bytes) := by omega
  have hf1 := hf w.drew rfl
  have hf2 := ho w.drew rfl
  rcases hd with ⟨e', rfl⟩ | rfl
  all_goals
    simp [Builtin.append_, run_underlying ht, run_underlying ht', sizeOf, typeInfo, zeroValue, hi, hz, hx, hn, h63', h48', Question.forced, hf1, hf2, newRow, grownCap]
    congr 2
    apply Array.ext'
    simp [List.append_assoc]

theorem lenA_run {P : Program} {μ : Mu} (w : World) {x x' : Value} {m : Nat} (h : lenA x = some m) (hR : VR μ x x') : (Builtin.lenOf x').run P w = .ok m w := by
  cases x with
  | slice a n c =>
    cases h
    cases a with
    | none =>
      obtain ⟨rfl, ⟨_, rfl⟩ | ⟨_, A, c', rfl⟩⟩ := sl0_inv hR <;> rfl
    | some a => obtain ⟨b, o, r, d, lim, c', rfl, rfl, _⟩ := sl_inv hR; rfl
  | string s =>
    cases h
    rw [string_inv hR]
    have : s.data.toList.length = s.size := Array.length_toList
    rw [this]
    rfl
  | _ => cases h

theorem firstA_run {P : Program} {μ : Mu} {base : Nat} {H : Heap} {w : World} (hr : HR μ base H w) {x x' : Value} {z n : Nat} {l : List Value} (h : firstA H z n x = some l) (hR : VR μ x x') :
    ∃ l', LR μ l l' ∧ ∀ w1 : World, w1.heap = w.heap → (Builtin.firstCells z n x').run P w1 = .ok ⟨l'⟩ w1 := by
  cases x with
  | slice a len c =>
    cases a with
    | none =>
      simp only [firstA] at h
      cases hn : Nat.beq n 0 <;> rw [hn] at h <;> simp only [cond_true, cond_false] at h
      · cases h
      · cases h
        have hn0 := Nat.eq_of_beq_eq_true hn
        subst hn0
        refine ⟨[], LR.nil, fun w1 _ => ?_⟩
        obtain ⟨rfl, ⟨_, rfl⟩ | ⟨_, A, c', rfl⟩⟩ := sl0_inv hR
        · rfl
        · cases A with
          | none => rfl
          | some A => simp [Builtin.firstCells, loadCells, loadCellsFrom]
    | some a =>
      obtain ⟨b, o, r, d, lim, c', rfl, rfl, hm, _⟩ := sl_inv hR
      have h : rdN H ⟨b, o, none⟩ (n * z) = some l := h
      obtain ⟨b', o', B, e2, hg, hle, rfl⟩ := rdN_inv h
      cases e2
      obtain ⟨ys, hyl, hyc, hyL⟩ := hr.row hg hm (n * z) o hle
      refine ⟨ys, hyL, fun w1 hw1 => ?_⟩
      have hload := run_loadCells_list (P := P) w1 ⟨r, d + o, none⟩ ys (fun j v hj => by
        rw [add_off]
        have := hyc j v hj
        simpa [World.cell?, hw1] using this)
      rw [hyl] at hload
      simp [Builtin.firstCells, hload]
  | string s =>
    simp only [firstA] at h
    cases hn : Nat.beq n s.data.toList.length <;> rw [hn] at h <;> simp only [cond_true, cond_false] at h
    · cases h
    · rw [fL0_eq] at h
      cases h
      have hn0 := Nat.eq_of_beq_eq_true hn
      rw [string_inv hR]
      refine ⟨s.data.toList.map fun b => Value.int .u8 b.toNat, ⟨rfl, fun i x y hx hy => ?_⟩, fun w1 _ => ?_⟩
      · rw [hx] at hy
        cases hy
        obtain ⟨b, _, rfl⟩ := List.mem_map.1 (List.mem_of_getElem? hx)
        exact .flat rfl
      · have e1 : s.size = s.data.size := rfl
        have e2 : s.extract 0 n = s := by
          apply ByteArray.ext
          rw [hn0]
          simp
        simp only [Builtin.firstCells, e2, Sem.run_pure]
        congr 1
        apply Array.ext'
        simp
  | _ => cases h

end Go.Proofs.YtkmhbfgkhalaoaaGreatDoor.LM
/- append where the capacity is not known. -/

set_option linter.unusedVariables false
set_option linter.unusedSimpArgs false
set_option linter.unusedSectionVars false
namespace Go.Proofs.YtkmhbfgkhalaoaaGreatDoor.LM
open Go Go.RowKit

theorem appU_inv {H H' : Heap} {bs : Option Addr} {l c m z : Nat} {new : List Value} {v : Value} (h : appU H bs l c m z new = some (v, H')) :
    ∃ (b o : Nat) (B : Blk) (NC : Tr Value) (an : List Nat) (full : Bool), bs = some ⟨b, o, none⟩ ∧ c = U + z ∧ H.bl.get b = some B ∧ B.stale = false ∧ o + l * z ≤ B.n ∧ v = .slice (some ⟨H.next, 0, none⟩) (l + m) c ∧ H'.next = H.next + 1 ∧
      (∀ i u, (B.cells (l * z) o ++ new)[i]? = some u → (⟨(l + m) * z, .bool false, NC, B.chain, false, an⟩ : Blk).cell i = u) ∧
      (full = true → o + l * z = B.n ∧ an = b :: B.anc) ∧ (full = false → an = []) ∧
      ∀ k, H'.bl.get k = if k = H.next then some ⟨(l + m) * z, .bool false, NC, B.chain, false, an⟩ else if k = b then some ⟨if full then B.n else 0, B.z, B.c, B.chain, true, []⟩
        else if full = false ∧ k ∈ B.anc then (H.bl.get k).map (fun B => { B with n := 0 }) else H.bl.get k := by
  obtain ⟨nx, bl⟩ := H
  unfold appU at h
  split at h
  · rename_i b o nx' bl' heq
    cases heq
    cases hc : Nat.beq c (Nat.add U z) <;> rw [hc] at h <;> simp only [cond_true, cond_false] at h
    · cases h
    · have hc' : c = U + z := Nat.eq_of_beq_eq_true hc
      split at h
      · rename_i n bz bc ch stale anc hg
        split at h
        · cases h
        · cases hle : Nat.ble (o + l * z) n <;> rw [hle] at h <;> simp only [cond_true, cond_false] at h
          · cases h
          · have hle' := Nat.le_of_ble_eq_true hle
            rw [fNat_eq, fNat_eq] at h
            have hk := Blk.cellsK_eq ⟨n, bz, bc, ch, false, anc⟩ (l * z) o (fun old => putC old .nil 0 fun c' => putC new c' (l * z) fun c' =>
              bif Nat.beq (o + l * z) n then
                bl.put b ⟨n, bz, bc, ch, true, []⟩ fun bl =>
                bl.put nx ⟨(l + m) * z, .bool false, c', ch, false, b :: anc⟩ fun bl =>
                some (Value.slice (some ⟨nx, 0, none⟩) (l + m) c, (⟨Nat.succ nx, bl⟩ : Heap))
              else
                kill anc bl fun bl =>
                bl.put b ⟨0, bz, bc, ch, true, []⟩ fun bl =>
                bl.put nx ⟨(l + m) * z, .bool false, c', ch, false, []⟩ fun bl =>
                some (Value.slice (some ⟨nx, 0, none⟩) (l + m) c, (⟨Nat.succ nx, bl⟩ : Heap)))
            dsimp only at hk
            rw [hk] at h
            clear hk
            have hol := Blk.cells_length ⟨n, bz, bc, ch, false, anc⟩ (l * z) o
            generalize hold : Blk.cells ⟨n, bz, bc, ch, false, anc⟩ (l * z) o = old at h hol
            obtain ⟨c1, e1, h1⟩ := putC_eq old .nil 0 (fun c' => putC new c' (l * z) fun c' =>
              bif Nat.beq (o + l * z) n then
                bl.put b ⟨n, bz, bc, ch, true, []⟩ fun bl =>
                bl.put nx ⟨(l + m) * z, .bool false, c', ch, false, b :: anc⟩ fun bl =>
                some (Value.slice (some ⟨nx, 0, none⟩) (l + m) c, (⟨Nat.succ nx, bl⟩ : Heap))
              else
                kill anc bl fun bl =>
                bl.put b ⟨0, bz, bc, ch, true, []⟩ fun bl =>
                bl.put nx ⟨(l + m) * z, .bool false, c', ch, false, []⟩ fun bl =>
                some (Value.slice (some ⟨nx, 0, none⟩) (l + m) c, (⟨Nat.succ nx, bl⟩ : Heap)))
            rw [e1] at h
            obtain ⟨c2, e2, h2⟩ := putC_eq new c1 (l * z) (fun c' =>
              bif Nat.beq (o + l * z) n then
                bl.put b ⟨n, bz, bc, ch, true, []⟩ fun bl =>
                bl.put nx ⟨(l + m) * z, .bool false, c', ch, false, b :: anc⟩ fun bl =>
                some (Value.slice (some ⟨nx, 0, none⟩) (l + m) c, (⟨Nat.succ nx, bl⟩ : Heap))
              else
                kill anc bl fun bl =>
                bl.put b ⟨0, bz, bc, ch, true, []⟩ fun bl =>
                bl.put nx ⟨(l + m) * z, .bool false, c', ch, false, []⟩ fun bl =>
                some (Value.slice (some ⟨nx, 0, none⟩) (l + m) c, (⟨Nat.succ nx, bl⟩ : Heap)))
            rw [e2] at h
            have hcell : ∀ (an : List Nat) i u, (old ++ new)[i]? = some u → (⟨(l + m) * z, .bool false, c2, ch, false, an⟩ : Blk).cell i = u := by
              intro an i u hu
              have hi := (List.getElem?_eq_some_iff.1 hu).1
              rw [List.length_append, hol] at hi
              have hcg : c2.get i = some u := by
                rw [h2 i]
                by_cases hlt : l * z ≤ i
                · rw [if_pos ⟨hlt, hi⟩]
                  rw [List.getElem?_append_right (by omega), hol] at hu
                  exact hu
                · rw [if_neg (by omega), h1 i, if_pos (by omega)]
                  rw [List.getElem?_append_left (by omega)] at hu
                  simpa using hu
              simp only [Blk.cell, hcg]
            cases hfull : Nat.beq (o + l * z) n <;> rw [hfull] at h <;> simp only [cond_true, cond_false] at h
            · obtain ⟨bk, e3, h3⟩ := kill_eq anc bl (fun bl =>
                bl.put b ⟨0, bz, bc, ch, true, []⟩ fun bl =>
                bl.put nx ⟨(l + m) * z, .bool false, c2, ch, false, []⟩ fun bl =>
                some (Value.slice (some ⟨nx, 0, none⟩) (l + m) c, (⟨Nat.succ nx, bl⟩ : Heap)))
              rw [e3, Tr.put_eq, Tr.put_eq] at h
              cases h
              refine ⟨b, o, _, c2, [], false, rfl, hc', hg, rfl, hle', rfl, rfl, ?_, fun h => (by cases h), fun _ => rfl, fun k => ?_⟩
              · rw [hold]; exact hcell []
              · simp only [Tr.get_set, h3]
                simp
            · rw [Tr.put_eq, Tr.put_eq] at h
              cases h
              refine ⟨b, o, _, c2, b :: anc, true, rfl, hc', hg, rfl, hle', rfl, rfl, ?_, fun _ => ⟨Nat.eq_of_beq_eq_true hfull, rfl⟩, fun h => (by cases h), fun k => ?_⟩
              · rw [hold]; exact hcell _
              · simp only [Tr.get_set]
                simp
      · cases h
  · cases h

end Go.Proofs.YtkmhbfgkhalaoaaGreatDoor.LM
/- append where the capacity is not known: the machine. -/

set_option linter.unusedVariables false
set_option linter.unusedSimpArgs false
set_option linter.unusedSectionVars false
namespace Go.Proofs.YtkmhbfgkhalaoaaGreatDoor.LM
open Go Go.RowKit

theorem ext_heap {μ : Mu} {base : Nat} {H H' : Heap} {w w' : World} (hw : HW H) (hr : HR μ base H w) (hf : μ H.next = none) {b : Nat} {B NB : Blk} {full : Bool} {r2 d2 lim2 : Nat} {rb db limb : Nat}
    (hg : H.bl.get b = some B) (hmb : μ b = some (rb, db, limb)) (hst : B.stale = false) (hnx : H'.next = H.next + 1) (hNst : NB.stale = false) (hNch : NB.chain = B.chain)
    (hfu : full = true → NB.anc = b :: B.anc) (hnf : full = false → NB.anc = [])
    (hbl : ∀ k, H'.bl.get k = if k = H.next then some NB else if k = b then some ⟨if full then B.n else 0, B.z, B.c, B.chain, true, []⟩
        else if full = false ∧ k ∈ B.anc then (H.bl.get k).map (fun B => { B with n := 0 }) else H.bl.get k)
    (hsz : w.heap.size ≤ w'.heap.size)
    (hold : ∀ k K rk dk limk i, H.bl.get k = some K → μ k = some (rk, dk, limk) → i < K.n → (k = b → full = true) → (k ∈ B.anc → full = true) → w'.cell? ⟨rk, dk + i, none⟩ = w.cell? ⟨rk, dk + i, none⟩)
    (hlive : ∀ k K rk dk limk i, H.bl.get k = some K → μ k = some (rk, dk, limk) → i < limk → (∃ v, w'.cell? ⟨rk, i, none⟩ = some v) ∧ w'.fro ⟨rk, i, none⟩ = false)
    (hN1 : base ≤ r2 ∧ r2 < w'.heap.size ∧ d2 + NB.n ≤ lim2) (hN2 : ∀ i, i < lim2 → (∃ v, w'.cell? ⟨r2, i, none⟩ = some v) ∧ w'.fro ⟨r2, i, none⟩ = false)
    (hN3 : ∀ i, i < NB.n → (NB.cell i).oneCell' = true ∧ ∃ v, w'.cell? ⟨r2, d2 + i, none⟩ = some v ∧ VR μ (NB.cell i) v)
    (hN4 : ∀ k K dk limk, H.bl.get k = some K → μ k = some (r2, dk, limk) → K.chain = B.chain)
    (hN5 : full = true → ∀ x X d' lim', (x = b ∨ x ∈ B.anc) → H.bl.get x = some X → 0 < X.n → μ x = some (r2, d', lim') → d' + X.n ≤ d2 + NB.n)
    (hkeep : ∀ q, q < w.heap.size → (∀ k K d lim, H.bl.get k = some K → μ k ≠ some (q, d, lim)) → w'.heap[q]? = w.heap[q]?)
    (hfresh : w.heap.size ≤ r2 ∨ ∃ b0 B0 d0 l0, H.bl.get b0 = some B0 ∧ μ b0 = some (r2, d0, l0)) (h1 : w'.os = w.os) (h2 : w'.tape = w.tape) (h3 : w'.output = w.output) :
    HW H' ∧ HR (upd μ H.next (r2, d2, lim2)) base H' w' ∧ Ext μ H w (upd μ H.next (r2, d2, lim2)) H' w' := by
  have hup : ∀ k x, μ k = some x → upd μ H.next (r2, d2, lim2) k = some x := by
    intro k x hx; unfold upd; rw [if_neg (fun e => by rw [e, hf] at hx; cases hx)]; exact hx
  have hmo : ∀ k, k ≠ H.next → upd μ H.next (r2, d2, lim2) k = μ k := fun k hk => by unfold upd; rw [if_neg hk]
  have hmn : upd μ H.next (r2, d2, lim2) H.next = some (r2, d2, lim2) := by unfold upd; rw [if_pos rfl]
  have hbn : b ≠ H.next := fun e => by have := hw.dom b B hg; omega
  -- what the blocks are
  have hcase : ∀ k K', H'.bl.get k = some K' → (k = H.next ∧ K' = NB) ∨ (k ≠ H.next ∧ ∃ K, H.bl.get k = some K ∧ K'.chain = K.chain ∧ K'.n ≤ K.n ∧ (K'.stale = false → k ≠ b ∧ K.stale = false ∧ K'.anc = K.anc) ∧ (K'.anc = [] ∨ K'.anc = K.anc) ∧ (K.stale = true → K'.stale = true) ∧
      (0 < K'.n → (k = b → full = true) ∧ (k ∈ B.anc → full = true) ∧ K'.n = K.n ∧ ∀ i, K'.cell i = K.cell i) ∧ (K'.stale = false → 0 < K'.n → K' = K) ∧ (K'.stale = false → k ∉ B.anc → K' = K)) := by
    intro k K' hk
    rw [hbl k] at hk
    by_cases e1 : k = H.next
    · rw [if_pos e1] at hk; cases hk; exact .inl ⟨e1, rfl⟩
    · rw [if_neg e1] at hk
      refine .inr ⟨e1, ?_⟩
      by_cases e2 : k = b
      · rw [if_pos e2] at hk
        cases hk
        subst e2
        refine ⟨B, hg, rfl, ?_, fun h => (by cases h), .inl rfl, fun _ => rfl, fun hp => ?_, fun h => (by cases h), fun h => (by cases h)⟩
        · cases full
          · exact Nat.zero_le _
          · exact Nat.le_refl _
        · cases full
          · exact absurd hp (Nat.lt_irrefl _)
          · exact ⟨fun _ => rfl, fun _ => rfl, rfl, fun i => rfl⟩
      · rw [if_neg e2] at hk
        by_cases e3 : full = false ∧ k ∈ B.anc
        · rw [if_pos e3] at hk
          cases hK : H.bl.get k with
          | none => rw [hK] at hk; cases hk
          | some K =>
            rw [hK] at hk
            cases hk
            exact ⟨K, rfl, rfl, Nat.zero_le _, fun h => ⟨e2, h, rfl⟩, .inr rfl, fun h => h, fun hp => absurd hp (Nat.lt_irrefl _), fun _ hp => absurd hp (Nat.lt_irrefl _), fun _ h => absurd e3.2 h⟩
        · rw [if_neg e3] at hk
          refine ⟨K', hk, rfl, Nat.le_refl _, fun h => ⟨e2, h, rfl⟩, .inr rfl, fun h => h, fun _ => ⟨fun e => absurd e e2, fun ha => ?_, rfl, fun _ => rfl⟩, fun _ _ => rfl, fun _ _ => rfl⟩
          cases full
          · exact absurd ⟨rfl, ha⟩ e3
          · rfl
  have hNanc : ∀ x, x ∈ NB.anc → full = true ∧ (x = b ∨ x ∈ B.anc) := by
    intro x hx
    cases hfl : full with
    | true => rw [hfu hfl] at hx; exact ⟨rfl, List.mem_cons.1 hx⟩
    | false => rw [hnf hfl] at hx; cases hx
  refine ⟨⟨?_, ?_, ?_, ?_, ?_, ?_⟩, ⟨?_, ?_, ?_, ?_, ?_⟩, ?_⟩
  · intro k K' hk
    rcases hcase k K' hk with ⟨rfl, _⟩ | ⟨_, K, hK, _⟩
    · omega
    · have := hw.dom k K hK; omega
  · intro k K' hk
    rcases hcase k K' hk with ⟨rfl, rfl⟩ | ⟨_, K, hK, hc, _⟩
    · rw [hNch]; have := hw.chlt b B hg; omega
    · rw [hc]; have := hw.chlt k K hK; omega
  · intro k1 K1 k2 K2 hk1 hk2 hch hne hs hp
    rcases hcase k1 K1 hk1 with ⟨rfl, rfl⟩ | ⟨n1, L1, hL1, c1, m1, s1, a1, t1, p1, q1, u1⟩
    · rcases hcase k2 K2 hk2 with ⟨rfl, _⟩ | ⟨n2, L2, hL2, c2, m2, s2, a2, t2, p2, q2, u2⟩
      · exact absurd rfl hne
      · obtain ⟨f1, f2, f3, _⟩ := p2 hp
        by_cases e : k2 = b
        · have := hfu (f1 e); rw [this, e]; exact List.mem_cons_self
        · have := hw.anc b B k2 L2 hg hL2 (by rw [← c2, ← hch, hNch]) (Ne.symm e) hst (by omega)
          rw [hfu (f2 this)]
          exact List.mem_cons_of_mem _ this
    · obtain ⟨s1a, s1b, s1c⟩ := s1 hs
      rcases hcase k2 K2 hk2 with ⟨rfl, rfl⟩ | ⟨n2, L2, hL2, c2, m2, s2, a2, t2, p2, q2, u2⟩
      · exact absurd (hw.uniq k1 L1 b B hL1 hg (by rw [← c1, hch, hNch]) s1b hst) s1a
      · rw [s1c]
        exact hw.anc k1 L1 k2 L2 hL1 hL2 (by rw [← c1, ← c2]; exact hch) hne s1b (by omega)
  · intro k1 K1 k2 K2 hk1 hk2 hch hs1 hs2
    rcases hcase k1 K1 hk1 with ⟨rfl, rfl⟩ | ⟨n1, L1, hL1, c1, m1, s1, a1, t1, p1, q1, u1⟩
    · rcases hcase k2 K2 hk2 with ⟨rfl, _⟩ | ⟨n2, L2, hL2, c2, m2, s2, _⟩
      · rfl
      · obtain ⟨y1, y2, _⟩ := s2 hs2
        exact absurd (hw.uniq k2 L2 b B hL2 hg (by rw [← c2, ← hch, hNch]) y2 hst) y1
    · obtain ⟨s1a, s1b, s1c⟩ := s1 hs1
      rcases hcase k2 K2 hk2 with ⟨rfl, rfl⟩ | ⟨n2, L2, hL2, c2, m2, s2, _⟩
      · exact absurd (hw.uniq k1 L1 b B hL1 hg (by rw [← c1, hch, hNch]) s1b hst) s1a
      · exact hw.uniq k1 L1 k2 L2 hL1 hL2 (by rw [← c1, ← c2]; exact hch) s1b (s2 hs2).2.1
  · intro k K' x hk hx
    rcases hcase k K' hk with ⟨rfl, rfl⟩ | ⟨_, K, hK, _, _, _, ha, _⟩
    · rcases (hNanc x hx).2 with rfl | h
      · have := hw.dom x B hg; omega
      · have := hw.ancdom b B x hg h; omega
    · rcases ha with ha | ha
      · rw [ha] at hx; cases hx
      · rw [ha] at hx; have := hw.ancdom k K x hK hx; omega
  · intro k K' x X hk hx hX
    rcases hcase x X hX with ⟨rfl, rfl⟩ | ⟨nx, L, hL, cL, mL, sL, aL, tL, _⟩
    · -- the new block is nobody's ancestor
      rcases hcase k K' hk with ⟨rfl, rfl⟩ | ⟨_, K, hK, _, _, _, ha, _⟩
      · rcases (hNanc _ hx).2 with h | h
        · exact absurd h.symm hbn
        · have := hw.ancdom b B _ hg h; omega
      · rcases ha with ha | ha
        · rw [ha] at hx; cases hx
        · rw [ha] at hx; have := hw.ancdom k K _ hK hx; omega
    · cases hXs : X.stale with
      | true => rfl
      | false =>
        obtain ⟨y1, y2, _⟩ := sL hXs
        rcases hcase k K' hk with ⟨rfl, rfl⟩ | ⟨_, K, hK, _, _, _, ha, _⟩
        · rcases (hNanc _ hx).2 with h | h
          · exact absurd h y1
          · rw [hw.ancs b B x L hg h hL] at y2; cases y2
        · rcases ha with ha | ha
          · rw [ha] at hx; cases hx
          · rw [ha] at hx; rw [hw.ancs k K x L hK hx hL] at y2; cases y2
  · intro k K' rk dk limk hk hm
    rcases hcase k K' hk with ⟨rfl, rfl⟩ | ⟨hn, K, hK, _, hle, _⟩
    · rw [hmn] at hm
      cases hm
      exact ⟨hN1.1, hN1.2.1, hN1.2.2, hN2⟩
    · rw [hmo k hn] at hm
      obtain ⟨g1, g2, g3, g4⟩ := hr.live k K rk dk limk hK hm
      exact ⟨g1, by omega, by omega, fun i hi => hlive k K rk dk limk i hK hm hi⟩
  · intro k K' rk dk limk i hk hm hi
    rcases hcase k K' hk with ⟨rfl, rfl⟩ | ⟨hn, K, hK, _, hle, _, _, _, hp, _⟩
    · rw [hmn] at hm
      cases hm
      obtain ⟨q1, u, q2, q3⟩ := hN3 i hi
      exact ⟨q1, u, q2, q3.mono hup⟩
    · rw [hmo k hn] at hm
      obtain ⟨f1, f2, f3, f4⟩ := hp (by omega)
      obtain ⟨q1, u, q2, q3⟩ := hr.cell k K rk dk limk i hK hm (by omega)
      exact ⟨by rw [f4]; exact q1, u, by rw [hold k K rk dk limk i hK hm (by omega) f1 f2]; exact q2, by rw [f4]; exact q3.mono hup⟩
  · intro k1 K1 rk d1 l1 k2 K2 d2' l2 hk1 hm1 hk2 hm2
    rcases hcase k1 K1 hk1 with ⟨rfl, rfl⟩ | ⟨n1, L1, hL1, c1, _⟩
    · rw [hmn] at hm1
      cases hm1
      rcases hcase k2 K2 hk2 with ⟨rfl, rfl⟩ | ⟨n2, L2, hL2, c2, _⟩
      · rfl
      · rw [hmo k2 n2] at hm2
        rw [hNch, c2]
        exact (hN4 k2 L2 d2' l2 hL2 hm2).symm
    · rw [hmo k1 n1] at hm1
      rcases hcase k2 K2 hk2 with ⟨rfl, rfl⟩ | ⟨n2, L2, hL2, c2, _⟩
      · rw [hmn] at hm2
        cases hm2
        rw [hNch, c1]
        exact hN4 k1 L1 d1 l1 hL1 hm1
      · rw [hmo k2 n2] at hm2
        rw [c1, c2]
        exact hr.chain k1 L1 rk d1 l1 k2 L2 d2' l2 hL1 hm1 hL2 hm2
  · intro k K' rk dk limk hk hm x hx
    rcases hcase k K' hk with ⟨rfl, rfl⟩ | ⟨hn, K, hK, _, _, _, ha, _⟩
    · rcases (hNanc x hx).2 with rfl | h
      · exact ⟨_, hup _ _ hmb⟩
      · obtain ⟨y, hy⟩ := hr.ancm b B rb db limb hg hmb x h
        exact ⟨y, hup _ _ hy⟩
    · rw [hmo k hn] at hm
      rcases ha with ha | ha
      · rw [ha] at hx; cases hx
      · rw [ha] at hx
        obtain ⟨y, hy⟩ := hr.ancm k K rk dk limk hK hm x hx
        exact ⟨y, hup _ _ hy⟩
  · intro k K' x X rk dk limk d' lim' hk hs hx hX hp hm hm'
    rcases hcase x X hX with ⟨rfl, rfl⟩ | ⟨nx, L, hL, cL, mL, sL, aL, tL, pL, _⟩
    · rcases hcase k K' hk with ⟨rfl, rfl⟩ | ⟨_, K, hK, _, _, _, ha, _⟩
      · rcases (hNanc _ hx).2 with h | h
        · exact absurd h.symm hbn
        · have := hw.ancdom b B _ hg h; omega
      · rcases ha with ha | ha
        · rw [ha] at hx; cases hx
        · rw [ha] at hx; have := hw.ancdom k K _ hK hx; omega
    · rw [hmo x nx] at hm'
      obtain ⟨f1, f2, f3, f4⟩ := pL hp
      rcases hcase k K' hk with ⟨rfl, rfl⟩ | ⟨hn, K, hK, _, hle, hsK, ha, _, _, _, hsame⟩
      · rw [hmn] at hm
        cases hm
        obtain ⟨hfl, hor⟩ := hNanc x hx
        rw [f3]
        exact hN5 hfl x L d' lim' hor hL (by omega) hm'
      · rw [hmo k hn] at hm
        obtain ⟨g1, g2, g3⟩ := hsK hs
        rw [g3] at hx
        have hkn : k ∉ B.anc := fun h => by rw [hw.ancs b B k K hg h hK] at g2; cases g2
        have := hsame hs hkn
        subst this
        rw [f3]
        exact hr.below k K' x L rk dk limk d' lim' hK g2 hx hL (by omega) hm hm'
  · refine ⟨by omega, fun k hk => hmo k (by omega), fun k K' hlt hk => ?_, fun k hlt hn => ?_, hkeep, fun k rk dk limk hl1 hl2 hm => ?_, hsz, h1, h2, h3⟩
    · rcases hcase k K' hk with ⟨rfl, _⟩ | ⟨_, K, hK, _⟩
      · omega
      · exact ⟨K, hK⟩
    · rw [hbl k, if_neg (by omega), if_neg (fun e => by rw [e, hmb] at hn; cases hn)]
      rw [if_neg]
      rintro ⟨_, ha⟩
      obtain ⟨y, hy⟩ := hr.ancm b B rb db limb hg hmb k ha
      rw [hn] at hy
      cases hy
    · have : k = H.next := by omega
      subst this
      rw [hmn] at hm
      cases hm
      exact hfresh

end Go.Proofs.YtkmhbfgkhalaoaaGreatDoor.LM
/- append, whole. -/

set_option linter.unusedVariables false
set_option linter.unusedSimpArgs false
set_option linter.unusedSectionVars false
namespace Go.Proofs.YtkmhbfgkhalaoaaGreatDoor.LM
open Go Go.RowKit

theorem first_zero {P : Program} {μ : Mu} (w : World) {x x' : Value} (z : Nat) (h : lenA x = some 0) (hR : VR μ x x') : (Builtin.firstCells z 0 x').run P w = .ok #[] w := by
  cases x with
  | slice a n c =>
    cases a with
    | none =>
      obtain ⟨rfl, ⟨_, rfl⟩ | ⟨_, A, c', rfl⟩⟩ := sl0_inv hR
      · rfl
      · cases A with
        | none => rfl
        | some A => simp [Builtin.firstCells, loadCells, loadCellsFrom]
    | some a =>
      obtain ⟨b, o, r, d, lim, c', rfl, rfl, _⟩ := sl_inv hR
      simp [Builtin.firstCells, loadCells, loadCellsFrom]
  | string s =>
    rw [string_inv hR]
    have : s.extract 0 0 = ByteArray.empty := by apply ByteArray.ext; simp
    simp only [Builtin.firstCells, this, Sem.run_pure]
    have e0 : ByteArray.empty.data = #[] := rfl
    rw [e0]
    simp
  | _ => cases h

theorem run_app_zero {P : Program} (w : World) {t t' ty e : TypeId} {i : TypeInfo} {d : TypeDesc} {A : Option Addr} {l c : Nat} {x : Value} (ht : P.underlying t = some (.slice e)) (ht' : P.underlying t' = some d) (hd : (∃ e', d = .slice e') ∨ d = .string)
    (hi : P.info? e = some i) (hx : (Builtin.lenOf x).run P w = .ok 0 w) (hf : (Builtin.firstCells i.size 0 x).run P w = .ok #[] w) (hroom : l ≤ c) :
    (Builtin.append_ #[t, t'] ty #[.slice A l c, x]).run P w = .ok (.slice A l c) w := by
  rcases hd with ⟨e', rfl⟩ | rfl <;> cases A <;> simp [Builtin.append_, run_underlying ht, run_underlying ht', sizeOf, typeInfo, hi, hx, hf, hroom, storeCells]

theorem one_append {xs ys : List Value} (h1 : one xs = true) (h2 : one ys = true) : one (xs ++ ys) = true := one_of_mem _ (fun v hv => by
  rcases List.mem_append.1 hv with h | h
  · exact one_eq xs h1 v h
  · exact one_eq ys h2 v h)

theorem appA_run {P : Program} {μ : Mu} {base : Nat} {H H' : Heap} {w : World} (hw : HW H) (hr : HR μ base H w) (hb : base ≤ w.heap.size) (hf : Free μ H H') {t t' ty e : TypeId} {d : TypeDesc} {s x s' x' v : Value}
    (ht : P.underlying t = some (.slice e)) (ht' : P.underlying t' = some d) (hd : (∃ e', d = .slice e') ∨ d = .string) (h : appA P H e s x = some (v, H')) (hs : VR μ s s') (hx : VR μ x x') :
    ∃ v' w' μ', (Builtin.append_ #[t, t'] ty #[s', x']).run P w = .ok v' w' ∧ VR μ' v v' ∧ HW H' ∧ HR μ' base H' w' ∧ Ext μ H w μ' H' w' := by
  unfold appA at h
  split at h
  · rename_i bs l c m z i hm hz hi
    have hiz : i.size = z := by unfold sizeP at hz; rw [hi] at hz; exact Option.some.inj hz
    subst hiz
    have hlen := lenA_run (P := P) w hm hx
    split at h
    · cases h
    · rename_i zv hzv
      split at h
      · -- nothing is appended
        cases h
        have hfz := first_zero (P := P) w i.size hm hx
        have hex : ∃ A c', s' = .slice A l c' ∧ l ≤ c' := by
          cases bs with
          | none => obtain ⟨rfl, ⟨_, rfl⟩ | ⟨_, A, c', rfl⟩⟩ := sl0_inv hs; exact ⟨_, _, rfl, Nat.le_refl _⟩; exact ⟨_, _, rfl, Nat.zero_le _⟩
          | some a => obtain ⟨b, o, r, dd, lim, c', rfl, rfl, _, hl, _⟩ := sl_inv hs; exact ⟨_, _, rfl, hl⟩
        obtain ⟨A, c', rfl, hl⟩ := hex
        exact ⟨_, w, μ, run_app_zero w ht ht' hd hi hlen hfz hl, hs, hw, hr, Ext.refl _ _ _⟩
      · rename_i hm0
        have hmp : 0 < m := Nat.pos_of_ne_zero hm0
        split at h
        · cases h
        · rename_i new hnew
          obtain ⟨news, hLn, hfn⟩ := firstA_run (P := P) hr hnew hx
          cases hcond : (Nat.beq (cellsOf zv).length i.size && Nat.ble 1 i.size && Nat.ble ((l + m) * i.bytes) 140737488355328 && Nat.blt (l + m) 4611686018427387904 && one new && Nat.beq new.length (m * i.size)) <;> rw [hcond] at h <;> simp only [cond_true, cond_false] at h
          · cases h
          · simp only [Bool.and_eq_true] at hcond
            obtain ⟨⟨⟨⟨⟨k1, k2⟩, k3⟩, k4⟩, k5⟩, k6⟩ := hcond
            have hzl : (cellsOf zv).length = i.size := Nat.eq_of_beq_eq_true k1
            have hz1 : 1 ≤ i.size := Nat.le_of_ble_eq_true k2
            have hby := Nat.le_of_ble_eq_true k3
            have hlm : l + m < 4611686018427387904 := by rwa [Nat.blt_eq] at k4
            have hnl : new.length = m * i.size := Nat.eq_of_beq_eq_true k6
            have hnl' : news.length = m * i.size := by rw [← hLn.1]; exact hnl
            have hnone := one_of hLn k5
            have hzc : ∀ n, (Builtin.zeroCells zv.cells n).size = n * i.size := fun n => by rw [size_zeroCells, cells_of]; show n * (cellsOf zv).length = _; rw [hzl]
            have hzcl : ∀ n, (Builtin.zeroCells zv.cells n).toList.length = n * i.size := fun n => by rw [Array.length_toList, hzc]
            cases hU : Nat.ble U c <;> rw [hU] at h <;> simp only [cond_true, cond_false] at h
            · -- the capacity is known
              have hcU : ¬ U ≤ c := fun e => by rw [ble_U.2 e] at hU; cases hU
              cases hroom : Nat.ble (l + m) c <;> rw [hroom] at h <;> simp only [cond_true, cond_false] at h
              · have hg : c < l + m := by
                  have : ¬ (l + m ≤ c) := fun e => by rw [Nat.ble_eq_true_of_le e] at hroom; cases hroom
                  omega
                split at h
                · cases h
                · rename_i old hold
                  obtain ⟨olds, hLo, hfo⟩ := firstA_run (P := P) hr hold hs
                  cases hc2 : (one old && Nat.beq old.length (l * i.size)) <;> rw [hc2] at h <;> simp only [cond_true, cond_false] at h
                  · cases h
                  · simp only [Bool.and_eq_true] at hc2
                    have hol : old.length = l * i.size := Nat.eq_of_beq_eq_true hc2.2
                    have hol' : olds.length = l * i.size := by rw [← hLo.1]; exact hol
                    have hex : ∃ A, s' = .slice A l c := by
                      cases bs with
                      | none =>
                        obtain ⟨rfl, ⟨rfl, rfl⟩ | ⟨rfl, _⟩⟩ := sl0_inv hs
                        · exact ⟨_, rfl⟩
                        · exact absurd (Nat.le_refl U) hcU
                      | some a =>
                        obtain ⟨b, o, r, dd, lim, c', rfl, rfl, _, hl, hcc⟩ := sl_inv hs
                        rcases hcc with ⟨rfl, _⟩ | ⟨z0, e0, _⟩
                        · exact ⟨_, rfl⟩
                        · exact absurd (by rw [e0]; exact Nat.le_add_right _ _) hcU
                    obtain ⟨A, rfl⟩ := hex
                    have hrun := run_app_grow (P := P) (ty := ty) w ht ht' hd hi hzv hlen hfn hfo hg hby hlm
                    rw [fNat_eq] at h
                    obtain ⟨cc, e1, hcell⟩ := newL_eq H (old ++ new) (fun H' b => fNat (Nat.add U i.size) fun u => some (Value.slice (some ⟨b, 0, none⟩) (l + m) u, H'))
                    rw [e1, fNat_eq] at h
                    have h' := Option.some.inj h
                    cases h'
                    generalize hG : grownCap w (l + m) c e = G at hrun
                    have hGe : l + m ≤ G := by rw [← hG]; exact grownCap_ge _ _ _ _
                    generalize hcs : olds ++ news ++ (Builtin.zeroCells zv.cells (G - (l + m))).toList = cs at hrun
                    have hcl : cs.length = G * i.size := by
                      rw [← hcs, List.length_append, List.length_append, hzcl, hol', hnl', ← Nat.add_mul, ← Nat.add_mul]
                      congr 1
                      omega
                    have hLon := hLo.append hLn
                    have hnb := new_block' (w' := w.drew.alloc (.cells ⟨cs⟩ e)) (n := (old ++ new).length) (z := .bool false) (c := cc) (cs := ⟨cs⟩) hw hr hb (hf _ (Nat.le_refl _) (Nat.lt_succ_self _))
                      (by show (old ++ new).length ≤ cs.length; rw [List.length_append, hol, hnl, hcl, ← Nat.add_mul]; exact Nat.mul_le_mul_right _ hGe)
                      (fun j hj => by
                        have hx := List.getElem?_eq_getElem hj
                        rw [hcell j _ hx]
                        obtain ⟨y, hy, hR⟩ := hLon.get hx
                        refine ⟨one_eq _ (one_append hc2.1 k5) _ (List.getElem_mem hj), y, ?_, hR⟩
                        have : cs[j]? = some y := by
                          rw [← hcs, List.getElem?_append_left (List.getElem?_eq_some_iff.1 hy).1]
                          exact hy
                        simpa using this)
                      (by show (w.heap.push (.cells ⟨cs⟩ e)).size = w.heap.size + 1; exact Array.size_push _) (fun q hq => heap_alloc_old w.drew _ q hq) (fun j u hu => by
                        have := World.cell?_alloc_new w.drew ⟨cs⟩ e j
                        exact this.trans hu) (fun j _ => World.fro_alloc_new w.drew ⟨cs⟩ e j) rfl rfl rfl
                    refine ⟨_, _, _, hrun, ?_, hnb⟩
                    refine .sl (d := 0) (r := w.heap.size) (lim := cs.length) (by unfold upd; rw [if_pos rfl]; rfl) hGe (.inr ⟨i.size, rfl, ?_⟩)
                    rw [hcl]; omega
              · have hroom' := Nat.le_of_ble_eq_true hroom
                split at h
                · cases h
                · rename_i ad
                  obtain ⟨b, o, r, dd, lim, c', rfl, rfl, hmu, hl, hcc⟩ := sl_inv hs
                  have hcc' : c = c' ∧ c' < U := by
                    rcases hcc with hh | ⟨z0, e0, _⟩
                    · exact hh
                    · exact absurd (by rw [e0]; exact Nat.le_add_right _ _) hcU
                  obtain ⟨rfl, hltU⟩ := hcc'
                  simp only [addA, fNat_eq] at h
                  split at h
                  · rename_i H1 hwr
                    cases h
                    have hwr' : wrN H ⟨b, o + l * i.size, none⟩ new = some H' := hwr
                    obtain ⟨g1, g2, g3, g4, g5, g6⟩ := wr_row hw hr hwr' hmu hLn
                    have e0 : dd + (o + l * i.size) = dd + o + l * i.size := by omega
                    rw [e0] at g2 g3 g5
                    exact ⟨_, _, μ, run_app_room (P := P) (ty := ty) w ht ht' hd hi hlen (hfn w rfl) hroom' g5 g6, .sl hmu hroom' (.inl ⟨rfl, hltU⟩), g1, g2, g3⟩
                  · cases h
            · -- the capacity is not known
              obtain ⟨b, o, B, NC, an, full, rfl, hcz, hg, hst, hle, rfl, hnx, hcell, hfu, hnf, hbl⟩ := appU_inv h
              obtain ⟨b', o', r, dd, lim, c', e1, rfl, hmu, hlc, hcc⟩ := sl_inv hs
              cases e1
              have hlim : dd + o + c' * i.size ≤ lim := by
                rcases hcc with ⟨e0, hlt⟩ | ⟨z0, e0, hh⟩
                · have := ble_U.1 hU; omega
                · have : z0 = i.size := by omega
                  rw [← this]; exact hh
              have hfree : μ H.next = none := hf _ (Nat.le_refl _) (by omega)
              obtain ⟨olds, hol', hoc, hLo⟩ := hr.row hg hmu (l * i.size) o hle
              have hLon := hLo.append hLn
              have hlenN : (B.cells (l * i.size) o ++ new).length = (l + m) * i.size := by rw [List.length_append, B.cells_length, hnl, ← Nat.add_mul]
              have holdone : ∀ u ∈ B.cells (l * i.size) o, u.oneCell' = true := by
                intro u hu
                obtain ⟨j, hj⟩ := List.getElem?_of_mem hu
                have hjl : j < l * i.size := by have := (List.getElem?_eq_some_iff.1 hj).1; rw [B.cells_length] at this; exact this
                rw [B.cells_get _ _ _ hjl] at hj
                cases hj
                exact (hr.cell b B r dd lim (o + j) hg hmu (by omega)).1
              have hNone : ∀ j, j < (l + m) * i.size → ∃ u y, (B.cells (l * i.size) o ++ new)[j]? = some u ∧ (⟨(l + m) * i.size, .bool false, NC, B.chain, false, an⟩ : Blk).cell j = u ∧ u.oneCell' = true ∧ (olds ++ news)[j]? = some y ∧ VR μ u y := by
                intro j hj
                have hx := List.getElem?_eq_getElem (l := B.cells (l * i.size) o ++ new) (i := j) (by rw [hlenN]; exact hj)
                obtain ⟨y, hy, hR⟩ := hLon.get hx
                refine ⟨_, y, hx, hcell j _ hx, ?_, hy, hR⟩
                rcases List.mem_append.1 (List.mem_of_getElem? hx) with hh | hh
                · exact holdone _ hh
                · exact one_eq new k5 _ hh
              have hcLen : ∀ K k rk dk limk, H.bl.get k = some K → μ k = some (rk, dk, limk) → base ≤ rk ∧ rk < w.heap.size ∧ dk + K.n ≤ limk ∧ ∀ i, i < limk → (∃ v, w.cell? ⟨rk, i, none⟩ = some v) ∧ w.fro ⟨rk, i, none⟩ = false := fun K k rk dk limk hK hm => hr.live k K rk dk limk hK hm
              by_cases hroom : l + m ≤ c'
              · -- there is room
                have hmul : (l + m) * i.size ≤ c' * i.size := Nat.mul_le_mul_right _ hroom
                have hadd : (l + m) * i.size = l * i.size + m * i.size := Nat.add_mul _ _ _
                have hcells : ∀ j, j < news.length → (w.cell? ⟨r, dd + o + l * i.size + j, none⟩).isSome = true ∧ w.frozen? ⟨r, dd + o + l * i.size + j, none⟩ = false := by
                  intro j hj
                  rw [hnl'] at hj
                  obtain ⟨⟨u, hu⟩, hfz⟩ := (hcLen B b r dd lim hg hmu).2.2.2 (dd + o + l * i.size + j) (by omega)
                  exact ⟨by rw [hu]; rfl, frozen_of_fro hfz⟩
                have hrun := run_app_room (P := P) (ty := ty) w ht ht' hd hi hlen (hfn w rfl) hroom hcells hnone
                have hin : ∀ j (hj : j < news.length), (w.setCells r (dd + o + l * i.size) news).cell? ⟨r, dd + o + l * i.size + j, none⟩ = some news[j] :=
                  World.cell?_setCells_in r news (dd + o + l * i.size) w (fun j hj => (hcells j hj).1)
                have hout : ∀ q j, (q = r → j < dd + o + l * i.size ∨ dd + o + l * i.size + news.length ≤ j) → (w.setCells r (dd + o + l * i.size) news).cell? ⟨q, j, none⟩ = w.cell? ⟨q, j, none⟩ := fun q j h =>
                  World.cell?_setCells_out r news (dd + o + l * i.size) w _ (fun e _ => h e)
                have hfro : ∀ y, (w.setCells r (dd + o + l * i.size) news).fro y = w.fro y := fun y => World.fro_setCells r news (dd + o + l * i.size) w y
                obtain ⟨q1, q2, q3⟩ := setCells_rest r news (dd + o + l * i.size) w
                have hany : ∀ q j u, w.cell? ⟨q, j, none⟩ = some u → ∃ u', (w.setCells r (dd + o + l * i.size) news).cell? ⟨q, j, none⟩ = some u' := by
                  intro q j u hu
                  by_cases hh : q = r ∧ dd + o + l * i.size ≤ j ∧ j < dd + o + l * i.size + news.length
                  · obtain ⟨e, ha, hb'⟩ := hh
                    subst e
                    have := hin (j - (dd + o + l * i.size)) (by omega)
                    rw [show dd + o + l * i.size + (j - (dd + o + l * i.size)) = j by omega] at this
                    exact ⟨_, this⟩
                  · exact ⟨u, by rw [hout q j (fun e => by omega)]; exact hu⟩
                have hE := ext_heap (NB := ⟨(l + m) * i.size, .bool false, NC, B.chain, false, an⟩) (w' := w.setCells r (dd + o + l * i.size) news) (r2 := r) (d2 := dd + o) (lim2 := lim) hw hr hfree hg hmu hst hnx rfl rfl (fun h => (hfu h).2) hnf hbl (by rw [setCells_size]; exact Nat.le_refl _)
                  (fun k K rk dk limk j hK hm hj hfb hfa => by
                    refine hout rk (dk + j) (fun e => ?_)
                    subst e
                    by_cases ek : k = b
                    · subst ek
                      rw [hg] at hK
                      cases hK
                      rw [hmu] at hm
                      cases hm
                      have := (hfu (hfb rfl)).1
                      left; omega
                    · have hch := hr.chain b B rk dd lim k K dk limk hg hmu hK hm
                      have hin' := hw.anc b B k K hg hK hch (Ne.symm ek) hst (by omega)
                      have hb2 := hr.below b B k K rk dd lim dk limk hg hst hin' hK (by omega) hmu hm
                      have := (hfu (hfa hin')).1
                      left; omega)
                  (fun k K rk dk limk j hK hm hj => by
                    obtain ⟨⟨u, hu⟩, hfz⟩ := (hcLen K k rk dk limk hK hm).2.2.2 j hj
                    exact ⟨hany rk j u hu, by rw [hfro]; exact hfz⟩)
                  ⟨(hcLen B b r dd lim hg hmu).1, by rw [setCells_size]; exact (hcLen B b r dd lim hg hmu).2.1, by show dd + o + (l + m) * i.size ≤ lim; omega⟩
                  (fun j hj => by
                    obtain ⟨⟨u, hu⟩, hfz⟩ := (hcLen B b r dd lim hg hmu).2.2.2 j hj
                    exact ⟨hany r j u hu, by rw [hfro]; exact hfz⟩)
                  (fun j hj => by
                    obtain ⟨u, y, hu, hce, hone1, hy, hR⟩ := hNone j hj
                    rw [hce]
                    refine ⟨hone1, y, ?_, hR⟩
                    by_cases hjl : j < l * i.size
                    · rw [hout r (dd + o + j) (fun _ => by omega)]
                      rw [List.getElem?_append_left (by omega)] at hy
                      exact hoc j y hy
                    · have hjlt : j - l * i.size < news.length := by rw [hnl']; have : j < (l + m) * i.size := hj; omega
                      have := hin (j - l * i.size) hjlt
                      rw [show dd + o + l * i.size + (j - l * i.size) = dd + o + j by omega] at this
                      rw [this]
                      rw [List.getElem?_append_right (by omega), hol', List.getElem?_eq_getElem hjlt] at hy
                      exact hy)
                  (fun k K dk limk hK hm => (hr.chain b B r dd lim k K dk limk hg hmu hK hm).symm)
                  (fun hfl x X d' lim' hor hX hp hm => by
                    have hfull := (hfu hfl).1
                    show d' + X.n ≤ dd + o + (l + m) * i.size
                    rcases hor with rfl | hin'
                    · rw [hg] at hX; cases hX; rw [hmu] at hm; cases hm; omega
                    · have hb2 := hr.below b B x X r dd lim d' lim' hg hst hin' hX hp hmu hm
                      omega)
                  (fun q hq hno => setCells_heap r q (fun e => hno b B dd lim hg (by rw [e]; exact hmu)) news _ w)
                  (.inr ⟨b, B, dd, lim, hg, hmu⟩) q1 q2 q3
                refine ⟨_, _, _, hrun, ?_, hE⟩
                exact .sl (o := 0) (d := dd + o) (lim := lim) (by unfold upd; rw [if_pos rfl]) hroom (.inr ⟨i.size, hcz, by omega⟩)
              · -- it grows
                have hgr : c' < l + m := by omega
                have hfo : ∀ w1 : World, w1.heap = w.heap → (Builtin.firstCells i.size l (.slice (some ⟨r, dd + o, none⟩) l c')).run P w1 = .ok ⟨olds⟩ w1 := by
                  intro w1 hw1
                  have hload := run_loadCells_list (P := P) w1 ⟨r, dd + o, none⟩ olds (fun j u hj => by
                    rw [add_off]
                    have := hoc j u hj
                    simpa [World.cell?, hw1] using this)
                  rw [hol'] at hload
                  simp [Builtin.firstCells, hload]
                have hrun := run_app_grow (P := P) (ty := ty) w ht ht' hd hi hzv hlen hfn hfo hgr hby hlm
                generalize hG : grownCap w (l + m) c' e = G at hrun
                have hGe : l + m ≤ G := by rw [← hG]; exact grownCap_ge _ _ _ _
                generalize hcs : olds ++ news ++ (Builtin.zeroCells zv.cells (G - (l + m))).toList = cs at hrun
                have hcl : cs.length = G * i.size := by
                  rw [← hcs, List.length_append, List.length_append, hzcl, hol', hnl', ← Nat.add_mul, ← Nat.add_mul]
                  congr 1
                  omega
                have hGm : (l + m) * i.size ≤ G * i.size := Nat.mul_le_mul_right _ hGe
                have hsz : (w.drew.alloc (.cells ⟨cs⟩ e)).heap.size = w.heap.size + 1 := by show (w.heap.push (.cells ⟨cs⟩ e)).size = w.heap.size + 1; exact Array.size_push _
                have hk : ∀ q, q < w.heap.size → (w.drew.alloc (.cells ⟨cs⟩ e)).heap[q]? = w.heap[q]? := fun q hq => heap_alloc_old w.drew _ q hq
                have hcn : ∀ j, (w.drew.alloc (.cells ⟨cs⟩ e)).cell? ⟨w.heap.size, j, none⟩ = cs[j]? := fun j => by
                  have h0 := World.cell?_alloc_new w.drew ⟨cs⟩ e j
                  rw [List.getElem?_toArray] at h0
                  exact h0
                have hE := ext_heap (NB := ⟨(l + m) * i.size, .bool false, NC, B.chain, false, an⟩) (w' := w.drew.alloc (.cells ⟨cs⟩ e)) (r2 := w.heap.size) (d2 := 0) (lim2 := cs.length) hw hr hfree hg hmu hst hnx rfl rfl (fun h => (hfu h).2) hnf hbl (by omega)
                  (fun k K rk dk limk j hK hm hj _ _ => by simp [World.cell?, hk rk (hcLen K k rk dk limk hK hm).2.1])
                  (fun k K rk dk limk j hK hm hj => by
                    obtain ⟨_, h2, _, h4⟩ := hcLen K k rk dk limk hK hm
                    obtain ⟨⟨u, hu⟩, hfz⟩ := h4 j hj
                    exact ⟨⟨u, by simpa [World.cell?, hk rk h2] using hu⟩, by simpa [World.fro, hk rk h2] using hfz⟩)
                  ⟨hb, by omega, by show 0 + (l + m) * i.size ≤ cs.length; omega⟩
                  (fun j hj => ⟨⟨cs[j], by rw [hcn, List.getElem?_eq_getElem hj]⟩, World.fro_alloc_new w.drew ⟨cs⟩ e j⟩)
                  (fun j hj => by
                    obtain ⟨u, y, hu, hce, hone1, hy, hR⟩ := hNone j hj
                    rw [hce]
                    refine ⟨hone1, y, ?_, hR⟩
                    rw [Nat.zero_add, hcn, ← hcs, List.getElem?_append_left (List.getElem?_eq_some_iff.1 hy).1]
                    exact hy)
                  (fun k K dk limk hK hm => absurd (hcLen K k _ dk limk hK hm).2.1 (Nat.lt_irrefl _))
                  (fun _ x X d' lim' _ hX _ hm => absurd (hcLen X x _ d' lim' hX hm).2.1 (Nat.lt_irrefl _))
                  (fun q hq _ => hk q hq) (.inl (Nat.le_refl _)) rfl rfl rfl
                refine ⟨_, _, _, hrun, ?_, hE⟩
                exact .sl (o := 0) (d := 0) (lim := cs.length) (by unfold upd; rw [if_pos rfl]) hGe (.inr ⟨i.size, hcz, by omega⟩)
  · cases h

end Go.Proofs.YtkmhbfgkhalaoaaGreatDoor.LM
/- Builtins, and every operation that is no call of a function. -/

set_option linter.unusedVariables false
set_option linter.unusedSimpArgs false
set_option linter.unusedSectionVars false
namespace Go.Proofs.YtkmhbfgkhalaoaaGreatDoor.LM
open Go Go.RowKit

theorem run_builtin {P : Program} (w : World) (ρ : Operand → Value) (o : Oper) {b : Builtin} {args : Array Operand} {ts : Array TypeId} (ho : o.op = .call ⟨.builtin b, args, ts⟩) :
    ∃ cs, (execOp ρ o).run P w = (builtin b ts o.type cs (args.map ρ)).run P w := by
  simp only [execOp, ho, resolve, invoke, Sem.run_bind, Sem.run_pure, Result.andThen_ok]
  exact ⟨_, rfl⟩

theorem max_case {n m : Int} : (bif ilt n m then m else n) = if m > n then m else n := by
  cases h : ilt n m
  · have : ¬ n < m := fun e => by rw [ilt_eq.2 e] at h; cases h
    rw [cond_false, if_neg this]
  · rw [cond_true, if_pos (ilt_eq.1 h)]
theorem min_case {n m : Int} : (bif ilt m n then m else n) = if m < n then m else n := by
  cases h : ilt m n
  · have : ¬ m < n := fun e => by rw [ilt_eq.2 e] at h; cases h
    rw [cond_false, if_neg this]
  · rw [cond_true, if_pos (ilt_eq.1 h)]

section
variable {P : Program} {o : Oper} {a : Act} {w : World} {μ : Mu} {base : Nat} {H H' : Heap} {tm : Tr Value} {v : Value}
  (hw : HW H) (hr : HR μ base H w) (hb : base ≤ w.heap.size) (ht : TR μ tm a) (hf : Free μ H H')
include hw hr hb ht hf

theorem sBuiltin_ok {b : Builtin} {args : Array Operand} {ts : Array TypeId} (ho : o.op = .call ⟨.builtin b, args, ts⟩) {vs : List Value} (hvs : evs tm args.toList = some vs) (h : sBuiltin P H b vs ts = some (v, H')) : OpOk P o a w μ base H v H' := by
  have hL := evs_eq ht _ _ hvs
  have hargs : args.map a.eval = ⟨args.toList.map a.eval⟩ := by apply Array.ext'; simp
  obtain ⟨cs, hrun⟩ := run_builtin (P := P) w a.eval o ho
  rw [hargs] at hrun
  generalize args.toList.map a.eval = us at hL hrun
  unfold sBuiltin at h
  split at h
  · -- len
    split at h
    · rename_i x t hts
      obtain ⟨y, ys, rfl, hx, hy⟩ := hL.inv_cons
      have := hy.inv_nil
      subst this
      split at h
      · rename_i e aa n c hu
        cases h
        have hlen : ∃ A c', y = .slice A n c' := by
          cases aa with
          | none => obtain ⟨rfl, ⟨_, rfl⟩ | ⟨_, A, c', rfl⟩⟩ := sl0_inv hx; exact ⟨_, _, rfl⟩; exact ⟨_, _, rfl⟩
          | some q => obtain ⟨b, oo, r, d, lim, c', rfl, rfl, _⟩ := sl_inv hx; exact ⟨_, _, rfl⟩
        obtain ⟨A, c', rfl⟩ := hlen
        exact .pure hw hr (by rw [hrun]; simp [builtin, Builtin.len_, hts, run_underlying hu, goInt]) (.flat rfl)
      · rename_i s hu
        rw [fNat_eq] at h
        cases h
        rw [string_inv hx] at hrun
        have e : s.data.toList.length = s.size := Array.length_toList
        rw [e]
        exact .pure hw hr (by rw [hrun]; simp [builtin, Builtin.len_, hts, run_underlying hu, goInt]) (.flat rfl)
      · rename_i n e hu
        rw [fNat_eq] at h
        cases h
        exact .pure hw hr (by rw [hrun]; simp [builtin, Builtin.len_, hts, run_underlying hu, goInt]) (.flat rfl)
      · cases h
    · cases h
  · -- append
    split at h
    · rename_i s x t t' hts hts'
      obtain ⟨y, ys, rfl, hs, hy⟩ := hL.inv_cons
      obtain ⟨z, zs, rfl, hx, hz⟩ := hy.inv_cons
      have := hz.inv_nil
      subst this
      have key : ∀ {e : TypeId} {d : TypeDesc}, P.underlying t = some (.slice e) → P.underlying t' = some d → ((∃ e', d = .slice e') ∨ d = .string) → appA P H e s x = some (v, H') → OpOk P o a w μ base H v H' := by
        intro e d hu hu' hd h
        obtain ⟨v', w', μ', h1, h2, h3, h4, h5⟩ := appA_run (ty := o.type) hw hr hb hf hu hu' hd h hs hx
        refine ⟨v', w', μ', .inl ?_, h2, h3, h4, h5⟩
        have e1 : Builtin.append_ ts o.type ⟨[y, z]⟩ = Builtin.append_ #[t, t'] o.type #[y, z] := by
          unfold Builtin.append_
          rw [hts, hts']
          rfl
        rw [hrun]
        show ((do pure (Next.value (← Builtin.append_ ts o.type ⟨[y, z]⟩)) : Sem Next)).run P w = _
        rw [e1]
        simp [h1]
      split at h
      · rename_i e e' hu hu'
        exact key hu hu' (.inl ⟨_, rfl⟩) h
      · rename_i e hu hu'
        exact key hu hu' (.inr rfl) h
      · cases h
    · cases h
  · -- max
    split at h
    · rename_i k n k' m
      dsimp only at h
      rw [fInt_eq] at h
      cases h
      obtain ⟨y, ys, rfl, h1, hy⟩ := hL.inv_cons
      obtain ⟨z, zs, rfl, h2, hz⟩ := hy.inv_cons
      have := hz.inv_nil
      subst this
      rw [int_inv h1, int_inv h2] at hrun
      exact .pure hw hr (by rw [hrun, max_case]; simp only [builtin, Sem.run_bind]; rw [run_max_int2]; rfl) (.flat rfl)
    · rename_i k n k' m k'' l
      dsimp only at h
      rw [fInt_eq] at h
      cases h
      obtain ⟨y, ys, rfl, h1, hy⟩ := hL.inv_cons
      obtain ⟨z, zs, rfl, h2, hz⟩ := hy.inv_cons
      obtain ⟨q, qs, rfl, h3, hq⟩ := hz.inv_cons
      have := hq.inv_nil
      subst this
      rw [int_inv h1, int_inv h2, int_inv h3] at hrun
      exact .pure hw hr (by rw [hrun, max_case, max_case]; simp only [builtin, Sem.run_bind]; rw [run_max_int3]; rfl) (.flat rfl)
    · cases h
  · -- min
    split at h
    · rename_i k n k' m
      dsimp only at h
      rw [fInt_eq] at h
      cases h
      obtain ⟨y, ys, rfl, h1, hy⟩ := hL.inv_cons
      obtain ⟨z, zs, rfl, h2, hz⟩ := hy.inv_cons
      have := hz.inv_nil
      subst this
      rw [int_inv h1, int_inv h2] at hrun
      exact .pure hw hr (by rw [hrun, min_case]; simp only [builtin, Sem.run_bind]; rw [run_min_int2]; rfl) (.flat rfl)
    · rename_i k n k' m k'' l
      dsimp only at h
      rw [fInt_eq] at h
      cases h
      obtain ⟨y, ys, rfl, h1, hy⟩ := hL.inv_cons
      obtain ⟨z, zs, rfl, h2, hz⟩ := hy.inv_cons
      obtain ⟨q, qs, rfl, h3, hq⟩ := hz.inv_cons
      have := hq.inv_nil
      subst this
      rw [int_inv h1, int_inv h2, int_inv h3] at hrun
      exact .pure hw hr (by rw [hrun, min_case, min_case]; simp only [builtin, Sem.run_bind]; rw [run_min_int3]; rfl) (.flat rfl)
    · cases h
  · -- copy
    split at h
    · rename_i ad n c x t hts
      obtain ⟨y, ys, rfl, hs, hy⟩ := hL.inv_cons
      obtain ⟨z, zs, rfl, hx, hz⟩ := hy.inv_cons
      have := hz.inv_nil
      subst this
      split at h
      · rename_i e m hu hm
        split at h
        · rename_i sz hsz
          rw [fNat_eq] at h
          split at h
          · rename_i cs' hcs
            split at h
            · rename_i H1 hwr
              cases h
              obtain ⟨b, oo, r, d, lim, c', rfl, rfl, hmu, _⟩ := sl_inv hs
              obtain ⟨news, hLn, hfn⟩ := firstA_run (P := P) hr hcs hx
              have hlen := lenA_run (P := P) w hm hx
              obtain ⟨g1, g2, g3, g4, g5, g6⟩ := wr_row hw hr hwr hmu hLn
              have hst := run_storeCells_cells (P := P) r (d + oo) news 0 w (fun j hj => (g5 j hj).1) (fun j hj => (g5 j hj).2) g6
              refine ⟨_, _, μ, .inl ?_, .flat rfl, g1, g2, g3⟩
              rw [hrun]
              have hmin : Nat.min m n = min m n := rfl
              simp [builtin, Builtin.copy_, hts, run_underlying hu, hlen, sizeOf_run w hsz, hmin, hfn w rfl, hst, goInt]
            · cases h
          · cases h
        · cases h
      · cases h
    · cases h
  · cases h

theorem stepA_ok (h : stepA P H tm o.op = some (v, H')) : OpOk P o a w μ base H v H' := by
  generalize hop : o.op = op at h
  cases op <;> simp only [stepA] at h <;> first
    | exact absurd h (by simp)
    | exact sMove_ok hw hr hb ht hf (.inl hop) h
    | exact sMove_ok hw hr hb ht hf (.inr hop) h
    | exact sPick_ok hw hr hb ht hf hop h
    | exact sAlloc_ok hw hr hb ht hf hop h
    | exact sBox_ok hw hr hb ht hf hop h
    | exact sBuild_ok hw hr hb ht hf hop h
    | exact sBuildSlice_ok hw hr hb ht hf hop h
    | exact sLoad_ok hw hr hb ht hf hop h
    | exact sStore_ok hw hr hb ht hf hop h
    | exact sNil_ok hw hr hb ht hf hop h
    | exact sBin_ok hw hr hb ht hf hop h
    | exact sUn_ok hw hr hb ht hf hop h
    | exact sConv_ok hw hr hb ht hf hop h
    | exact sMake_ok hw hr hb ht hf hop h
    | exact sSlice_ok hw hr hb ht hf hop h
    | exact sFieldAddr_ok hw hr hb ht hf hop h
    | exact sField_ok hw hr hb ht hf hop h
    | exact sIndexAddr_ok hw hr hb ht hf hop h
    | exact sIndex_ok hw hr hb ht hf hop h
    | exact sExtract_ok hw hr hb ht hf hop h
    | exact sFunc_ok hw hr hb ht hf hop h

end
end Go.Proofs.YtkmhbfgkhalaoaaGreatDoor.LM
/- Operations of a region, one behind the other; calls. -/

set_option linter.unusedVariables false
set_option linter.unusedSimpArgs false
set_option linter.unusedSectionVars false
namespace Go.Proofs.YtkmhbfgkhalaoaaGreatDoor.LM
open Go Go.RowKit

def Fresh (μ : Mu) (H : Heap) : Prop := ∀ b, H.next ≤ b → μ b = none
theorem Fresh.free {μ : Mu} {H : Heap} (h : Fresh μ H) (H' : Heap) : Free μ H H' := fun b hb _ => h b hb
theorem Fresh.ext {μ μ' : Mu} {H H' : Heap} {w w' : World} (h : Fresh μ H) (e : Ext μ H w μ' H' w') : Fresh μ' H' := fun b hb => by
  rw [e.mu b (.inr hb)]; exact h b (Nat.le_trans e.next hb)

/-- The fence that asks nothing, in a frame or in a round. -/
def FR (rd : Option Nat) : Fence := { Fence.wide with round := rd }
theorem callsIn_FR {rd : Option Nat} {n : Nat} {P : Program} {f : FuncId} {args : Array Value} {w : World} {R : Ending → World → Prop} : CallsIn (FR rd) n P f args w R ↔ Calls P f args w R := callsIn_wide (n := n)

/-- No block that lives stands in this row of the machine. -/
def NoMap (μ : Mu) (H : Heap) (r : Nat) : Prop := ∀ b B d lim, H.bl.get b = some B → μ b ≠ some (r, d, lim)
theorem NoMap.ext {μ μ' : Mu} {H H' : Heap} {w w' : World} (hw' : HW H') (he : Ext μ H w μ' H' w') {r : Nat} (hr : r < w.heap.size) (h : NoMap μ H r) : NoMap μ' H' r := by
  intro b B d lim hg hm
  by_cases hb : b < H.next
  · obtain ⟨B0, h0⟩ := he.back b B hb hg
    exact h b B0 d lim h0 (by rw [← he.mu b (.inl hb)]; exact hm)
  · rcases he.fresh b r d lim (by omega) (hw'.dom b B hg) hm with hf | ⟨b0, B0, d0, l0, h0, h1⟩
    · omega
    · exact h b0 B0 d0 l0 h0 h1

structure RecOk (μ : Mu) (H : Heap) (w : World) (e : LoopR) (l : Nat) (r : Loop) : Prop where
  b : e.b < H.next
  m : μ e.b = some (l, 0, 0)
  lt : l < w.heap.size
  nm : NoMap μ H l
  rec_ : w.heap[l]? = some (.loop r)
  ready : r.state = .ready
  pend : r.pending = none
  ps : r.params.toList = e.ps
  as : r.assign = e.assign
  bd : r.body = e.body
  tm : TR μ e.tm { tmps := r.tmps, defers := [] }
  nt : r.tmps.size = e.nt
/-- The loops around are ready. -/
def EnvOk (env : Env) (μ : Mu) (H : Heap) (w : World) : Prop :=
  (∀ e ∈ env, ∃ l r, RecOk μ H w e l r) ∧ ∀ e ∈ env, ∀ e' ∈ env, ∀ l, μ e.b = some (l, 0, 0) → μ e'.b = some (l, 0, 0) → e.b = e'.b
theorem EnvOk.nil {μ : Mu} {H : Heap} {w : World} : EnvOk [] μ H w := ⟨fun e he => (by cases he), fun e he => (by cases he)⟩
theorem RecOk.ext {μ μ' : Mu} {H H' : Heap} {w w' : World} (hw' : HW H') (hf : Fresh μ H) (he : Ext μ H w μ' H' w') {e : LoopR} {l : Nat} {r : Loop} (h : RecOk μ H w e l r) : RecOk μ' H' w' e l r :=
  ⟨Nat.lt_of_lt_of_le h.b he.next, by rw [he.mu _ (.inl h.b)]; exact h.m, Nat.lt_of_lt_of_le h.lt he.size, h.nm.ext hw' he h.lt, by rw [he.keep l h.lt h.nm]; exact h.rec_, h.ready, h.pend, h.ps, h.as, h.bd,
    h.tm.mono (he.le (hf.free H')), h.nt⟩
theorem EnvOk.ext {env : Env} {μ μ' : Mu} {H H' : Heap} {w w' : World} (hw' : HW H') (hf : Fresh μ H) (he : Ext μ H w μ' H' w') (h : EnvOk env μ H w) : EnvOk env μ' H' w' := by
  refine ⟨fun e hm => ?_, fun e hm e' hm' l h1 h2 => ?_⟩
  · obtain ⟨l, r, hr⟩ := h.1 e hm
    exact ⟨l, r, hr.ext hw' hf he⟩
  · obtain ⟨_, _, hr⟩ := h.1 e hm
    obtain ⟨_, _, hr'⟩ := h.1 e' hm'
    rw [he.mu _ (.inl hr.b)] at h1
    rw [he.mu _ (.inl hr'.b)] at h2
    exact h.2 e hm e' hm' l h1 h2

def mark (r : Nat) : Deferred := { target := .collected r, args := #[] }
/-- The deferred calls of a frame: marks of loops over functions, none of which has deferred anything. -/
def Marks (fb : Nat) (μ : Mu) (H : Heap) (w : World) (ds : List Deferred) : Prop :=
  ∃ rs : List Nat, ds = rs.map mark ∧ rs.Nodup ∧ ∀ r ∈ rs, fb ≤ r ∧ r < w.heap.size ∧ NoMap μ H r ∧ w.heap[r]? = some (.deferred (some []))
theorem Marks.ext {fb : Nat} {μ μ' : Mu} {H H' : Heap} {w w' : World} {ds : List Deferred} (hw' : HW H') (he : Ext μ H w μ' H' w') (h : Marks fb μ H w ds) : Marks fb μ' H' w' ds := by
  obtain ⟨rs, h1, h2, h3⟩ := h
  refine ⟨rs, h1, h2, fun r hr => ?_⟩
  obtain ⟨g1, g2, g3, g4⟩ := h3 r hr
  exact ⟨g1, Nat.lt_of_lt_of_le g2 he.size, g3.ext hw' he g2, by rw [he.keep r g2 g3]; exact g4⟩
structure Side (env : Env) (fb : Nat) (μ : Mu) (H : Heap) (w : World) (ds : List Deferred) : Prop where
  env : EnvOk env μ H w
  marks : Marks fb μ H w ds
  fb : fb ≤ w.heap.size
theorem Side.ext {env : Env} {fb : Nat} {μ μ' : Mu} {H H' : Heap} {w w' : World} {ds : List Deferred} (hw' : HW H') (hf : Fresh μ H) (he : Ext μ H w μ' H' w') (h : Side env fb μ H w ds) : Side env fb μ' H' w' ds :=
  ⟨h.env.ext hw' hf he, h.marks.ext hw' he, Nat.le_trans h.fb he.size⟩

/-- A row of the machine in which no block stands is changed. -/
theorem HR.off {μ : Mu} {base : Nat} {H : Heap} {w w' : World} (h : HR μ base H w) {r : Nat} (hn : NoMap μ H r) (hs : w'.heap.size = w.heap.size) (hk : ∀ q, q ≠ r → w'.heap[q]? = w.heap[q]?) : HR μ base H w' := by
  have hc : ∀ q i, q ≠ r → w'.cell? ⟨q, i, none⟩ = w.cell? ⟨q, i, none⟩ := fun q i hq => by simp [World.cell?, hk q hq]
  have hf : ∀ q i, q ≠ r → w'.fro ⟨q, i, none⟩ = w.fro ⟨q, i, none⟩ := fun q i hq => by simp [World.fro, hk q hq]
  have hne : ∀ b B q d lim, H.bl.get b = some B → μ b = some (q, d, lim) → q ≠ r := fun b B q d lim h1 h2 e => hn b B d lim h1 (by rw [← e]; exact h2)
  refine ⟨fun b B q d lim h1 h2 => ?_, fun b B q d lim i h1 h2 h3 => ?_, h.chain, h.ancm, h.below⟩
  · obtain ⟨g1, g2, g3, g4⟩ := h.live b B q d lim h1 h2
    refine ⟨g1, by rw [hs]; exact g2, g3, fun i hi => ?_⟩
    rw [hc q i (hne b B q d lim h1 h2), hf q i (hne b B q d lim h1 h2)]
    exact g4 i hi
  · rw [hc q _ (hne b B q d lim h1 h2)]
    exact h.cell b B q d lim i h1 h2 h3
theorem Ext.off {μ μ' : Mu} {H H' : Heap} {w w' w'' : World} (h : Ext μ H w μ' H' w') {r : Nat} (hr : w.heap.size ≤ r) (hs : w''.heap.size = w'.heap.size) (hk : ∀ q, q ≠ r → w''.heap[q]? = w'.heap[q]?)
    (h1 : w''.os = w'.os) (h2 : w''.tape = w'.tape) (h3 : w''.output = w'.output) : Ext μ H w μ' H' w'' :=
  ⟨h.next, h.mu, h.back, h.unm, fun q hq hno => by rw [hk q (by omega)]; exact h.keep q hq hno, h.fresh, by rw [hs]; exact h.size, h1.trans h.os, h2.trans h.tape, h3.trans h.output⟩
theorem EnvOk.off {env : Env} {μ : Mu} {H : Heap} {w w' : World} (h : EnvOk env μ H w) {r : Nat} (hs : w'.heap.size = w.heap.size) (hk : ∀ q, q ≠ r → w'.heap[q]? = w.heap[q]?) (hne : ∀ e ∈ env, μ e.b ≠ some (r, 0, 0)) : EnvOk env μ H w' := by
  refine ⟨fun e he => ?_, h.2⟩
  obtain ⟨l, q, hr⟩ := h.1 e he
  have hl : l ≠ r := fun e' => hne e he (by rw [hr.m, e'])
  exact ⟨l, q, hr.b, hr.m, by rw [hs]; exact hr.lt, hr.nm, by rw [hk l hl]; exact hr.rec_, hr.ready, hr.pend, hr.ps, hr.as, hr.bd, hr.tm, hr.nt⟩

/-- What holds of the machine at a state of the evaluator. -/
structure Good (env : Env) (fb : Nat) (μ : Mu) (base : Nat) (H : Heap) (w : World) (tm : Tr Value) (nt : Nat) (a : Act) : Prop where
  hw : HW H
  hr : HR μ base H w
  hb : base ≤ w.heap.size
  ht : TR μ tm a
  fr : Fresh μ H
  nt : a.tmps.size = nt
  sd : Side env fb μ H w a.defers

theorem put_TR {μ : Mu} {tm tm' : Tr Value} {nt : Nat} {d : Option Tmp} {v v' : Value} {a : Act} (h : putT tm nt d v = some tm') (ht : TR μ tm a) (hv : VR μ v v') (hn : a.tmps.size = nt) :
    TR μ tm' (a.put d v') ∧ (a.put d v').tmps.size = nt ∧ (a.put d v').defers = a.defers := by
  cases d with
  | none => cases h; exact ⟨ht, hn, rfl⟩
  | some t =>
    simp only [putT] at h
    cases hl : Nat.blt t nt <;> rw [hl] at h <;> simp only [cond_true, cond_false] at h
    · cases h
    · rw [Tr.put_eq] at h
      cases h
      have hlt : t < nt := by rwa [Nat.blt_eq] at hl
      refine ⟨fun k u hk => ?_, by simp [Act.put, hn], rfl⟩
      rw [Tr.get_set] at hk
      by_cases e : k = t
      · subst e
        rw [if_pos rfl] at hk
        cases hk
        exact ⟨v', by simp [Act.put, hn, hlt], hv⟩
      · rw [if_neg e] at hk
        obtain ⟨u', h1, h2⟩ := ht k u hk
        exact ⟨u', by simp [Act.put, Array.getElem?_setIfInBounds_ne (Ne.symm e), h1], h2⟩

theorem not_bool {μ : Mu} {v v' : Value} (h : VR μ v v') (hv : ∀ b, v ≠ .bool b) : ∀ b, v' ≠ .bool b := by
  intro b e
  subst e
  cases h
  exact hv b rfl

theorem wantedA_eq {μ : Mu} {tm : Tr Value} {a : Act} (ht : TR μ tm a) {ops : Array Oper} {o : Oper} {b : Bool} (h : wantedA ops.toList tm o = some b) : Region.wanted o (yielded ops a.tmps) = b := by
  unfold wantedA at h
  unfold Region.wanted
  split at h
  · rename_i hg; cases h; rw [hg]
  · rename_i j want hg
    rw [hg]
    rw [nth_eq] at h
    split at h
    · rename_i g hj
      split at h
      · rename_i d hd
        have hj' : ops[j]? = some g := by simpa using hj
        split at h
        · rename_i c hc
          cases h
          obtain ⟨v', h1, h2⟩ := ht d _ hc
          rw [bool_inv h2] at h1
          simp only [yielded, hj', hd, Option.bind_some, h1]
          cases c <;> cases want <;> rfl
        · rename_i v hv hc
          cases h
          obtain ⟨v', h1, h2⟩ := ht d _ hc
          have hn := not_bool h2 (fun b e => by rw [e] at hv; exact hv b rfl)
          simp only [yielded, hj', hd, Option.bind_some, h1]
          cases v' <;> first | rfl | exact absurd rfl (hn _)
        · cases h
      · cases h
    · cases h

def exitOf : Ex → Exit
  | .normal => .normal
  | .exit i => .exit i
  | .ret => .ret

/-- What a run leaves. -/
def Left (env : Env) (fb : Nat) (μ : Mu) (base : Nat) (H : Heap) (w : World) (r : Ex) (tm' : Tr Value) (nt : Nat) (H' : Heap) (e : Exit) (a' : Act) (w' : World) : Prop :=
  e = exitOf r ∧ ∃ μ', Good env fb μ' base H' w' tm' nt a' ∧ Ext μ H w μ' H' w'
/-- The evaluator's answers are the machine's. -/
def SoundC (P : Program) (env : Env) (inR : Bool) (ih : Eval) : Prop := ∀ (c : Code) (tm : Tr Value) (nt : Nat) (H : Heap) (r : Ex) (tm' : Tr Value) (H' : Heap), ih c tm nt H = some (r, tm', H') →
  ∀ (rd : Option Nat), rd.isSome = inR → ∀ (a : Act) (w : World) (μ : Mu) (base fb : Nat), Good env fb μ base H w tm nt a →
    c.wpIn (FR rd) 0 P (Left env fb μ base H w r tm' nt H') a w

/-- No function of the program is one that the model answers itself though it has a body. -/
def NoNum (P : Program) : Prop := ∀ (k : Nat) (fn : Func), P.funcs[k]? = some fn → fn.body.isSome = true → (fn.name == "runtime.NumGoroutine") = false

def resM (tmps : Array Value) (x : ResultVar) : Sem Value := match x with
  | .tmp t => pure (tmps.getD t undef)
  | .cell p t => do loadVar t (← asAddr (tmps.getD p undef))
theorem results_eq (fn : Func) (tmps : Array Value) : results fn tmps = (do let vs ← fn.results.mapM (resM tmps); pure (if h : vs.size = 1 then vs[0] else .tuple vs)) := rfl

theorem ldRes_run {P : Program} {μ : Mu} {base : Nat} {H : Heap} {w : World} {tm : Tr Value} {a : Act} (hr : HR μ base H w) (ht : TR μ tm a) : ∀ (rs : List ResultVar) (vs : List Value), ldRes P H tm rs = some vs →
    ∃ us, (rs.mapM (resM a.tmps)).run P w = .ok us w ∧ LR μ vs us := by
  intro rs
  induction rs with
  | nil => intro vs h; cases h; exact ⟨[], by simp, LR.nil⟩
  | cons x r ih =>
    intro vs h
    cases x with
    | tmp t =>
      simp only [ldRes] at h
      split at h
      · rename_i v l hv hl
        cases h
        obtain ⟨us, h1, h2⟩ := ih _ hl
        obtain ⟨v', h3, h4⟩ := ht t v hv
        refine ⟨v' :: us, ?_, h2.cons h4⟩
        have e : a.tmps.getD t undef = v' := by rw [Array.getD_eq_getD_getElem?, h3]; rfl
        simp only [List.mapM_cons, resM, Sem.run_bind, Sem.run_pure, Result.andThen_ok, e, h1]
      · cases h
    | cell p t =>
      simp only [ldRes] at h
      split at h
      · rename_i ad hp
        split at h
        · rename_i v l hv hl
          cases h
          obtain ⟨us, h1, h2⟩ := ih _ hl
          obtain ⟨p', h3, h4⟩ := ht p _ hp
          obtain ⟨v', h5, h6⟩ := ldT_run hr hv h4
          refine ⟨v' :: us, ?_, h2.cons h6⟩
          have e : a.tmps.getD p undef = p' := by rw [Array.getD_eq_getD_getElem?, h3]; rfl
          obtain ⟨b, o, r', d, lim, rfl, rfl, hm⟩ := ptr_inv h4
          have h5' : (loadVar t ⟨r', d + o, none⟩).run P w = .ok v' w := by simpa [Instr.loadAt, Instr.sureAddr] using h5
          simp [List.mapM_cons, resM, e, asAddr, h5', h1]
        · cases h
      · cases h

theorem putC_args {μ : Mu} {vs us : List Value} (h : LR μ vs us) (n : Nat) (hn : us.length ≤ n) {β : Type} (f : Tr Value → β) :
    ∃ tm, putC vs .nil 0 f = f tm ∧ TR μ tm { tmps := (⟨us⟩ : Array Value) ++ Array.replicate (n - us.length) undef, defers := [] } := by
  obtain ⟨tm, e, hg⟩ := putC_eq vs .nil 0 f
  refine ⟨tm, e, fun t v ht => ?_⟩
  rw [hg t] at ht
  by_cases hlt : t < vs.length
  · rw [if_pos (by omega)] at ht
    obtain ⟨u, hu, hR⟩ := h.get (by simpa using ht)
    refine ⟨u, ?_, hR⟩
    have hl : t < us.length := by rw [← h.1]; exact hlt
    simp only
    rw [Array.getElem?_append_left (by simpa using hl)]
    simpa using hu
  · rw [if_neg (by omega)] at ht
    cases ht

/-- The marks are passed on the way out. -/
theorem leaves_marks {P : Program} {fn : Func} {tmps : Array Value} {R : Ending → World → Prop} {fb : Nat} {μ : Mu} {base : Nat} {H : Heap} : ∀ (rs : List Nat) (w : World), rs.Nodup →
    (∀ r ∈ rs, fb ≤ r ∧ r < w.heap.size ∧ NoMap μ H r ∧ w.heap[r]? = some (.deferred (some []))) → HR μ base H w →
    (∀ w', HR μ base H w' → w'.heap.size = w.heap.size → (∀ q, q < fb → w'.heap[q]? = w.heap[q]?) → w'.os = w.os → w'.tape = w.tape → w'.output = w.output → ∃ v, (results fn tmps).run P w' = .ok v w' ∧ R (.returned v) w') →
    LeavesInM (FR none) 0 P fn tmps R (rs.map mark) .returning w := by
  intro rs
  induction rs with
  | nil => intro w _ _ hr hf; exact hf w hr rfl (fun _ _ => rfl) rfl rfl rfl
  | cons r rs ih =>
    intro w hn hm hr hf
    obtain ⟨hn1, hn2⟩ := List.nodup_cons.1 hn
    obtain ⟨g1, g2, g3, g4⟩ := hm r (by simp)
    refine ⟨by simp, .inl ⟨r, _, rfl, run_takeDeferred g4, ?_⟩⟩
    have hk : ∀ q, q ≠ r → (w.putObj r (.deferred none)).heap[q]? = w.heap[q]? := fun q hq => World.putObj_heap_other hq
    refine ih _ hn2 (fun q hq => ?_) (hr.off g3 World.putObj_size hk) (fun w' h1 h2 h3 h4 h5 h6 => ?_)
    · obtain ⟨k1, k2, k3, k4⟩ := hm q (List.mem_cons_of_mem _ hq)
      exact ⟨k1, by rw [World.putObj_size]; exact k2, k3, by rw [hk q (fun e => hn1 (by rw [← e]; exact hq))]; exact k4⟩
    · exact hf w' h1 (by rw [h2, World.putObj_size]) (fun q hq => by rw [h3 q hq]; exact hk q (by omega)) h4 h5 h6

/-- A call of a function of the program. -/
theorem callA_run {P : Program} {env : Env} {ih : Eval} (hs : SoundC P env false ih) {μ : Mu} {base : Nat} {H H' : Heap} {w : World} (hw : HW H) (hr : HR μ base H w) (hb : base ≤ w.heap.size) (hf : Fresh μ H) (hen : EnvOk env μ H w) {f : FuncId} {vs us : List Value} {v : Value}
    (h : callA P ih H f vs = some (v, H')) (hL : LR μ vs us) :
    (∃ fn, P.funcs[f]? = some fn ∧ fn.body.isSome = true) ∧ Calls P f ⟨us⟩ w fun e w' => ∃ v' μ', e = .returned v' ∧ VR μ' v v' ∧ HW H' ∧ HR μ' base H' w' ∧ Ext μ H w μ' H' w' := by
  unfold callA at h
  split at h
  · cases h
  · rename_i fn hfn
    split at h
    · cases h
    · rename_i c hc
      refine ⟨⟨fn, hfn, by rw [hc]; rfl⟩, ?_⟩
      cases hle : Nat.ble vs.length fn.ntmps <;> rw [hle] at h <;> simp only [cond_true, cond_false] at h
      · cases h
      · have hle' : us.length ≤ fn.ntmps := by rw [← hL.1]; exact Nat.le_of_ble_eq_true hle
        obtain ⟨tm0, e0, ht0⟩ := putC_args hL fn.ntmps hle' (fun tm0 => finA P fn.results.toList (ih c tm0 fn.ntmps H))
        rw [e0] at h
        have key : ∀ (r : Ex) (tm' : Tr Value) (H1 : Heap), (r = .normal ∨ r = .ret) → ih c tm0 fn.ntmps H = some (r, tm', H1) → resA P H1 tm' fn.results.toList = some (v, H') → Calls P f ⟨us⟩ w fun e w' => ∃ v' μ', e = .returned v' ∧ VR μ' v v' ∧ HW H' ∧ HR μ' base H' w' ∧ Ext μ H w μ' H' w' := by
          intro r tm' H1 hrr hih hres
          have hG : Good env w.heap.size μ base H w tm0 fn.ntmps { tmps := (⟨us⟩ : Array Value) ++ Array.replicate (fn.ntmps - us.length) undef, defers := [] } :=
            ⟨hw, hr, hb, ht0, hf, by simp; omega, hen, ⟨[], rfl, List.nodup_nil, fun r hr => by cases hr⟩, Nat.le_refl _⟩
          have hwp := hs c tm0 fn.ntmps H r tm' H1 hih none rfl _ w μ base w.heap.size hG
          refine callsIn_FR.1 (callsIn_of_wp_marks (F := FR none) (n := 0) (args := ⟨us⟩) hfn hc trivial (wpIn_mono hwp ?_) rfl)
          rintro e a' w' ⟨he, μ', hG', hE⟩
          have fin : LeavesInM (FR none) 0 P fn a'.tmps (fun e w' => ∃ v' μ', e = .returned v' ∧ VR μ' v v' ∧ HW H' ∧ HR μ' base H' w' ∧ Ext μ H w μ' H' w') a'.defers .returning w' := by
            obtain ⟨rs, m1, m2, m3⟩ := hG'.sd.marks
            rw [m1]
            refine leaves_marks (fb := w.heap.size) (μ := μ') (base := base) (H := H1) rs w' m2 m3 hG'.hr (fun w2 k1 k2 k3 k4 k5 k6 => ?_)
            have hE2 : Ext μ H w μ' H1 w2 := ⟨hE.next, hE.mu, hE.back, hE.unm, fun q hq hno => by rw [k3 q hq]; exact hE.keep q hq hno, hE.fresh, by rw [k2]; exact hE.size, k4.trans hE.os, k5.trans hE.tape, k6.trans hE.output⟩
            unfold resA at hres
            cases hl : ldRes P H1 tm' fn.results.toList with
            | none => rw [hl] at hres; cases hres
            | some ls =>
              rw [hl] at hres
              obtain ⟨ys, h1, h2⟩ := ldRes_run k1 hG'.ht _ _ hl
              have hmap : (fn.results.mapM (resM a'.tmps)).run P w2 = .ok ⟨ys⟩ w2 := by
                rw [Array.mapM_eq_mapM_toList]
                simp [h1]
              have hrun : (results fn a'.tmps).run P w2 = .ok (if h : (⟨ys⟩ : Array Value).size = 1 then (⟨ys⟩ : Array Value)[0] else .tuple ⟨ys⟩) w2 := by
                rw [results_eq, Sem.run_bind, hmap]
                rfl
              refine ⟨_, hrun, _, μ', rfl, ?_⟩
              match ls, h2, hres with
              | [], h2, hres =>
                cases hres
                have := h2.inv_nil
                subst this
                exact ⟨.tup rfl (fun i x y hx => by simp at hx), hG'.hw, k1, hE2⟩
              | [x], h2, hres =>
                cases hres
                obtain ⟨y, ys', rfl, g1, g2⟩ := h2.inv_cons
                have := g2.inv_nil
                subst this
                exact ⟨g1, hG'.hw, k1, hE2⟩
              | x :: x2 :: r, h2, hres =>
                cases hres
                have hl2 := h2.1
                simp at hl2
                rw [dif_neg (by simp; omega)]
                exact ⟨.tup h2.1 h2.2, hG'.hw, k1, hE2⟩
          rcases hrr with rfl | rfl
          · subst he; exact fin
          · subst he; exact fin
        cases hih : ih c tm0 fn.ntmps H with
        | none => rw [hih] at h; cases h
        | some x =>
          obtain ⟨r, tm', H1⟩ := x
          rw [hih] at h
          cases r with
          | normal => exact key .normal tm' H1 (.inl rfl) hih h
          | ret => exact key .ret tm' H1 (.inr rfl) hih h
          | exit i => cases h

end Go.Proofs.YtkmhbfgkhalaoaaGreatDoor.LM
/- Code: the evaluator's answers are the machine's. -/

set_option linter.unusedVariables false
set_option linter.unusedSimpArgs false
set_option linter.unusedSectionVars false
namespace Go.Proofs.YtkmhbfgkhalaoaaGreatDoor.LM
open Go Go.RowKit

theorem Good.step {env : Env} {fb : Nat} {μ μ' : Mu} {base : Nat} {H H' : Heap} {w w' : World} {tm tm' : Tr Value} {nt : Nat} {a : Act} {d : Option Tmp} {v v' : Value} (g : Good env fb μ base H w tm nt a) (hv : VR μ' v v') (hw : HW H') (hr : HR μ' base H' w') (he : Ext μ H w μ' H' w') (hp : putT tm nt d v = some tm') :
    Good env fb μ' base H' w' tm' nt (a.put d v') := by
  obtain ⟨h1, h2, h3⟩ := put_TR hp (g.ht.mono (he.le (g.fr.free H'))) hv g.nt
  exact ⟨hw, hr, Nat.le_trans g.hb he.size, h1, g.fr.ext he, h2, by rw [h3]; exact g.sd.ext hw g.fr he⟩

theorem fn_inv {μ : Mu} {k : FuncId} {xs us : Array Value} {v : Value} (h : VR μ (.func (.func k) xs us) v) : ∃ ys vs : List Value, v = .func (.func k) ⟨ys⟩ ⟨vs⟩ ∧ LR μ xs.toList ys ∧ LR μ us.toList vs := by
  generalize hx : Value.func (.func k) xs us = x at h
  cases h with
  | flat h => subst hx; exact absurd h Bool.false_ne_true
  | fn h0 h1 h2 h3 h4 => cases hx; exact ⟨_, _, rfl, ⟨h1, h2⟩, ⟨h3, h4⟩⟩
  | _ => cases hx
theorem yl_inv {μ : Mu} {b : Nat} {v : Value} (h : VR μ (.func (.yield b) ⟨[]⟩ ⟨[]⟩) v) : ∃ l, v = .func (.yield l) #[] #[] ∧ μ b = some (l, 0, 0) := by
  generalize hx : Value.func (.yield b) ⟨[]⟩ ⟨[]⟩ = x at h
  cases h with
  | flat h => subst hx; exact absurd h Bool.false_ne_true
  | fn h0 h1 h2 h3 h4 => cases hx; exact absurd h0 Bool.false_ne_true
  | yl h => cases hx; exact ⟨_, rfl, h⟩
  | _ => cases hx

/-- The rounds of the loops around are as the evaluator says. -/
def YlOk (P : Program) (env : Env) (yl : Nat → List Value → Heap → Option (Value × Heap)) : Prop :=
  ∀ (b : Nat) (vs : List Value) (H : Heap) (v : Value) (H' : Heap), yl b vs H = some (v, H') → ∀ (l : Nat) (us : List Value) (w : World) (μ : Mu) (base : Nat), HW H → HR μ base H w → base ≤ w.heap.size → Fresh μ H → EnvOk env μ H w →
    μ b = some (l, 0, 0) → LR μ vs us → ∃ f tmps assign body, (Instr.yield l ⟨us⟩).run P w = .ok (.round l f tmps assign body) w ∧
      RoundIn (FR none) 0 P l f tmps assign body w (fun e w' => ∃ v' μ', e = .returned v' ∧ VR μ' v v' ∧ HW H' ∧ HR μ' base H' w' ∧ Ext μ H w μ' H' w')
/-- Functions that the model answers itself. -/
def NatOk (P : Program) (nat : FuncId → List Value → Option Value) : Prop :=
  ∀ (k : FuncId) (vs : List Value) (v : Value), nat k vs = some v → flats vs = true ∧ flat v = true ∧ ∀ w, (callFunc k ⟨vs⟩).run P w = .ok (.value v) w
theorem flatLR_eq {μ : Mu} : ∀ {xs ys : List Value}, LR μ xs ys → flats xs = true → ys = xs := by
  intro xs
  induction xs with
  | nil => intro ys h _; exact h.inv_nil
  | cons x r ih =>
    intro ys h hf
    obtain ⟨y, ys', rfl, hv, hr⟩ := h.inv_cons
    have hf' : (match flat x with | true => flats r | false => false) = true := hf
    split at hf'
    · rename_i hx
      rw [ih hr hf']
      congr 1
      cases hv with
      | flat _ => rfl
      | _ => first | rfl | exact absurd hx Bool.false_ne_true
    · cases hf'
structure CtxOk (P : Program) (env : Env) (cx : Ctx) : Prop where
  call : SoundC P env false cx.call
  yl : YlOk P env cx.yl
  nat : NatOk P cx.nat

theorem uponIn_step {rd : Option Nat} {P : Program} {o : Oper} {a : Act} {w : World} {next : Act → World → Prop} {Q : Exit → Act → World → Prop} (hd : ∀ c, o.op ≠ .defer c) (h : o.uponIn (FR rd) 0 P a next Q ((execOp a.eval o).run P w)) : o.wpIn (FR rd) 0 P a w next Q :=
  ⟨fun _ _ => trivial, by rw [Oper.semAt_eq _ _ _ hd]; exact h⟩

/-- One operation, without what holds of the temporaries behind it. -/
theorem opA_raw {P : Program} (hP : NoNum P) {env : Env} {rd : Option Nat} {ih : Ctx} (hs : CtxOk P env ih) {μ : Mu} {base : Nat} {H H' : Heap} {w : World} {tm : Tr Value} {a : Act} {o : Oper} {v : Value} (hw : HW H) (hr : HR μ base H w) (hb : base ≤ w.heap.size) (ht : TR μ tm a) (hf : Fresh μ H) (hen : EnvOk env μ H w)
    (h : opA P ih H tm o = some (v, H')) {next : Act → World → Prop} {Q : Exit → Act → World → Prop}
    (hn : ∀ v' w' μ', VR μ' v v' → HW H' → HR μ' base H' w' → Ext μ H w μ' H' w' → next (a.put o.dst v') w') : o.wpIn (FR rd) 0 P a w next Q := by
  have pure_ : (∀ c, o.op ≠ .defer c) → OpOk P o a w μ base H v H' → o.wpIn (FR rd) 0 P a w next Q := by
    rintro hd ⟨v', w', μ', hrun, h1, h2, h3, h4⟩
    refine uponIn_step hd ?_
    rcases hrun with hrun | ⟨hrun, rfl⟩
    · rw [hrun]; exact hn _ _ _ h1 h2 h3 h4
    · rw [hrun]; exact hn _ _ _ h1 h2 h3 h4
  unfold opA at h
  split at h
  · rename_i c hop
    have hd : ∀ c, o.op ≠ .defer c := fun c e => by rw [hop] at e; cases e
    unfold sCall at h
    split at h
    · rename_i f args ts
      split at h
      · rename_i k first captured vs hfv hvs
        have hR := ev_eq ht hfv
        have hL := evs_eq ht _ _ hvs
        obtain ⟨f1, c1, hef, hL1, hL2⟩ := fn_inv hR
        dsimp only at h
        split at h
        · rename_i u hu
          cases h
          obtain ⟨n1, n2, n3⟩ := hs.nat _ _ _ hu
          have hLL := flatLR_eq ((hL1.append hL).append hL2) n1
          have hargs : args.map a.eval = ⟨args.toList.map a.eval⟩ := by apply Array.ext'; simp
          have happ : (⟨f1⟩ : Array Value) ++ (⟨args.toList.map a.eval⟩ : Array Value) ++ (⟨c1⟩ : Array Value) = ⟨f1 ++ args.toList.map a.eval ++ c1⟩ := by apply Array.ext'; simp
          have hrun : (execOp a.eval o).run P w = .ok (.value v) w := by
            have := n3 w
            rw [← hLL] at this
            simp only [execOp, hop, resolve, hef, Deferred.ofValue, invoke, Sem.run_bind, Sem.run_pure, Result.andThen_ok, hargs, happ, this]
          exact pure_ hd (.pure hw hr hrun (.flat n2))
        obtain ⟨⟨fn, hfn, hbody⟩, hcalls⟩ := callA_run hs.call hw hr hb hf hen h ((hL1.append hL).append hL2)
        have hrun : (execOp a.eval o).run P w = .ok (.enter k ⟨f1 ++ args.toList.map a.eval ++ c1⟩) w := by
          have hargs : args.map a.eval = ⟨args.toList.map a.eval⟩ := by apply Array.ext'; simp
          have hnn := hP k fn hfn hbody
          have hnone : fn.body.isNone = false := by cases hb : fn.body with
            | none => rw [hb] at hbody; cases hbody
            | some _ => rfl
          have happ : (⟨f1⟩ : Array Value) ++ (⟨args.toList.map a.eval⟩ : Array Value) ++ (⟨c1⟩ : Array Value) = ⟨f1 ++ args.toList.map a.eval ++ c1⟩ := by apply Array.ext'; simp
          simp only [execOp, hop, resolve, hef, Deferred.ofValue, invoke, callFunc, Sem.run_bind, Sem.run_pure, Result.andThen_ok, run_program, hfn, hnn, hnone, hargs, happ]
          simp
        refine uponIn_step hd ?_
        rw [hrun, Oper.uponIn_enter]
        refine ⟨fun hh => absurd hh Bool.false_ne_true, callsIn_FR.2 (hcalls.mono ?_)⟩
        rintro e w' ⟨v', μ', rfl, h1, h2, h3, h4⟩
        exact hn _ _ _ h1 h2 h3 h4
      · rename_i b vs hfv hvs
        have hR := ev_eq ht hfv
        have hL := evs_eq ht _ _ hvs
        obtain ⟨l, hef, hm⟩ := yl_inv hR
        obtain ⟨f, tmps, assign, body, hrun0, hround⟩ := hs.yl b vs H v H' h l _ w μ base hw hr hb hf hen hm hL
        have hrun : (execOp a.eval o).run P w = .ok (.round l f tmps assign body) w := by
          have hargs : args.map a.eval = ⟨args.toList.map a.eval⟩ := by apply Array.ext'; simp
          simp only [execOp, hop, resolve, hef, Deferred.ofValue, invoke, Sem.run_bind, Sem.run_pure, Result.andThen_ok, hargs]
          simpa using hrun0
        refine uponIn_step hd ?_
        rw [hrun, Oper.uponIn_round]
        refine ⟨fun hh => absurd hh Bool.false_ne_true, RoundIn.mono (F := FR none) hround ?_⟩
        rintro e w' ⟨v', μ', rfl, h1, h2, h3, h4⟩
        exact hn _ _ _ h1 h2 h3 h4
      · cases h
    · rename_i b args ts
      split at h
      · rename_i vs hvs
        exact pure_ hd (sBuiltin_ok hw hr hb ht (hf.free H') hop hvs h)
      · cases h
    · cases h
  · refine pure_ (fun c e => ?_) (stepA_ok hw hr hb ht (hf.free H') h)
    rw [e] at h
    cases h

/-- One operation. -/
theorem opA_wp {P : Program} (hP : NoNum P) {env : Env} {fb : Nat} {rd : Option Nat} {ih : Ctx} (hs : CtxOk P env ih) {μ : Mu} {base : Nat} {H H' : Heap} {w : World} {tm tm' : Tr Value} {nt : Nat} {a : Act} {o : Oper} {v : Value} (g : Good env fb μ base H w tm nt a)
    (h : opA P ih H tm o = some (v, H')) (hp : putT tm nt o.dst v = some tm') {next : Act → World → Prop} {Q : Exit → Act → World → Prop}
    (hn : ∀ a' w' μ', Good env fb μ' base H' w' tm' nt a' → Ext μ H w μ' H' w' → next a' w') : o.wpIn (FR rd) 0 P a w next Q :=
  opA_raw hP hs g.hw g.hr g.hb g.ht g.fr g.sd.env h (fun v' w' μ' h1 h2 h3 h4 => hn _ _ _ (g.step h1 h2 h3 h4 hp) h4)

theorem opsA_wp {P : Program} (hP : NoNum P) {env : Env} {fb : Nat} {rd : Option Nat} {ih : Ctx} (hs : CtxOk P env ih) {ops : Array Oper} {nt : Nat} {base : Nat} : ∀ (l : List Oper) (k : Nat), ops.toList.drop k = l →
    ∀ (μ : Mu) (H H' : Heap) (w : World) (tm tm' : Tr Value) (a : Act), Good env fb μ base H w tm nt a → opsA P ih ops.toList nt l tm H = some (tm', H') → ∀ {Q : Exit → Act → World → Prop},
    (∀ a' w' μ', Good env fb μ' base H' w' tm' nt a' → Ext μ H w μ' H' w' → Q .normal a' w') → wpOpsIn (FR rd) 0 P ops Q (List.range' k l.length) a w := by
  intro l
  induction l with
  | nil =>
    intro k hk μ H H' w tm tm' a g h Q hq
    have h' : some (tm, H) = some (tm', H') := h
    cases h'
    exact hq a w μ g (Ext.refl _ _ _)
  | cons o r ihl =>
    intro k hk μ H H' w tm tm' a g h Q hq
    have ho : ops[k]? = some o := by
      have : (ops.toList.drop k)[0]? = some o := by rw [hk]; rfl
      rw [List.getElem?_drop] at this
      simpa using this
    have hr : ops.toList.drop (k + 1) = r := by rw [← List.drop_drop, hk]; rfl
    have h2 : (match wantedA ops.toList tm o with
      | some true => match opA P ih H tm o with
        | some (v, H1) => match putT tm nt o.dst v with
          | some tm1 => opsA P ih ops.toList nt r tm1 H1
          | none => none
        | none => none
      | some false => match putT tm nt o.dst undef with
        | some tm1 => opsA P ih ops.toList nt r tm1 H
        | none => none
      | none => none) = some (tm', H') := h
    clear h
    show wpOpsIn (FR rd) 0 P ops Q (k :: List.range' (k + 1) r.length) a w
    simp only [wpOpsIn, ho]
    split at h2
    · rename_i hwt
      rw [if_pos (wantedA_eq g.ht hwt)]
      split at h2
      · rename_i v H1 hop
        split at h2
        · rename_i tm1 hput
          refine opA_wp hP hs g hop hput (fun a' w' μ' g' e' => ?_)
          exact ihl (k + 1) hr μ' H1 H' w' tm1 tm' a' g' h2 (fun a2 w2 μ2 g2 e2 => hq a2 w2 μ2 g2 (e'.trans g'.hw e2))
        · cases h2
      · cases h2
    · rename_i hwf
      rw [if_neg (by rw [wantedA_eq g.ht hwf]; decide)]
      refine ⟨fun _ _ => trivial, ?_⟩
      split at h2
      · rename_i tm1 hput
        have hu : VR μ undef undef := .tup rfl (fun i x y hx => by simp at hx)
        have g' := g.step hu g.hw g.hr (Ext.refl _ _ _) hput
        exact ihl (k + 1) hr μ H H' w tm1 tm' _ g' h2 hq
      · cases h2
    · cases h2

/-- A region that draws its order is run as the machine runs it, in whatever order. -/
def DrwOk (P : Program) (drw : Drw) : Prop := ∀ (env : Env) (ih : Ctx), CtxOk P env ih → ∀ (rd : Option Nat) (id : Nat) (ops : Array Oper) (nt base fb : Nat) (μ : Mu) (H H' : Heap) (w : World) (tm tm' : Tr Value) (a : Act), Good env fb μ base H w tm nt a → drw ih ops.toList nt tm H = some (tm', H') →
  (Code.region id ops true).wpIn (FR rd) 0 P (Left env fb μ base H w .normal tm' nt H') a w

theorem roundsIn_mono {rd : Option Nat} {P : Program} {c : Code} {Q Q' : Exit → Act → World → Prop} (hq : ∀ e a w, Q e a w → Q' e a w) : ∀ (n : Nat) (a : Act) (w : World), Code.roundsIn (FR rd) 0 P c Q n a w → Code.roundsIn (FR rd) 0 P c Q' n a w := by
  intro n
  induction n with
  | zero => intro a w h; exact h
  | succ n ih =>
    intro a w h
    rw [roundsIn_succ] at h ⊢
    refine wpIn_mono h ?_
    intro e a' w' he
    cases e with
    | normal => exact ih a' w' he
    | exit i => exact hq _ _ _ he
    | goto l => exact hq _ _ _ he
    | ret => exact hq _ _ _ he
    | panic ch => exact hq _ _ _ he
    | outgrown => exact hq _ _ _ he

end Go.Proofs.YtkmhbfgkhalaoaaGreatDoor.LM
/- An operation looks at its operands alone. -/

set_option linter.unusedVariables false
set_option linter.unusedSimpArgs false
set_option linter.unusedSectionVars false
namespace Go.Proofs.YtkmhbfgkhalaoaaGreatDoor.LM
open Go Go.RowKit

theorem evs_congr {tm tm' : Tr Value} : ∀ (l : List Operand), (∀ x ∈ l, ev tm x = ev tm' x) → evs tm l = evs tm' l := by
  intro l
  induction l with
  | nil => intro _; rfl
  | cons o r ih =>
    intro h
    have h1 := h o (by simp)
    have h2 := ih (fun x hx => h x (List.mem_cons_of_mem _ hx))
    show (match ev tm o with
      | some v => match evs tm r with
        | some vs => some (v :: vs)
        | none => none
      | none => none) = (match ev tm' o with
      | some v => match evs tm' r with
        | some vs => some (v :: vs)
        | none => none
      | none => none)
    rw [h1, h2]
theorem evParts_congr {tm tm' : Tr Value} : ∀ (l : List (Nat × Operand)), (∀ x ∈ l.map (·.2), ev tm x = ev tm' x) → evParts tm l = evParts tm' l := by
  intro l
  induction l with
  | nil => intro _; rfl
  | cons p r ih =>
    obtain ⟨i, o⟩ := p
    intro h
    have h1 := h o (by simp)
    have h2 := ih (fun x hx => h x (by simp only [List.map_cons]; exact List.mem_cons_of_mem _ hx))
    simp only [evParts, h1, h2]
theorem optEv_congr {tm tm' : Tr Value} (x : Option Operand) (h : ∀ y ∈ x.toArray, ev tm y = ev tm' y) : optEv tm x = optEv tm' x := by
  cases x with
  | none => rfl
  | some o =>
    have h1 := h o (by simp)
    show (match ev tm o with | some v => some (some v) | none => none) = (match ev tm' o with | some v => some (some v) | none => none)
    rw [h1]

theorem stepA_congr {P : Program} {H : Heap} {tm tm' : Tr Value} {op : Op} (h : ∀ x ∈ op.operands, ev tm x = ev tm' x) : stepA P H tm op = stepA P H tm' op := by
  cases op <;> simp only [stepA] <;> simp only [Op.operands] at h
  case move x => simp only [sMove, h x (by simp)]
  case assign x => simp only [sMove, h x (by simp)]
  case pick c a b => simp only [sPick, h c (by simp), h a (by simp), h b (by simp)]
  case box t x => simp only [sBox, h x (by simp)]
  case build t ps => simp only [sBuild, evParts_congr ps.toList (fun x hx => h x (by simpa using hx))]
  case buildSlice t n ps => simp only [sBuildSlice, evParts_congr ps.toList (fun x hx => h x (by simpa using hx))]
  case load t x => simp only [sLoad, h x (by simp)]
  case store t x y => simp only [sStore, h x (by simp), h y (by simp)]
  case nilCheck x => simp only [sNil, h x (by simp)]
  case binOp op t x y yt => simp only [sBin, h x (by simp), h y (by simp)]
  case unOp op t x => simp only [sUn, h x (by simp)]
  case convert s d x => simp only [sConv, h x (by simp)]
  case makeSlice t l c => simp only [sMake, h l (by simp), h c (by simp)]
  case slice t x lo hi mx =>
    have h1 := h x (by simp)
    have h2 := optEv_congr lo (fun y hy => h y (by simp; simp at hy; exact .inr (.inl hy)))
    have h3 := optEv_congr hi (fun y hy => h y (by simp; simp at hy; exact .inr (.inr (.inl hy))))
    have h4 := optEv_congr mx (fun y hy => h y (by simp; simp at hy; exact .inr (.inr (.inr hy))))
    simp only [sSlice, h1, h2, h3, h4]
  case fieldAddr t x f => simp only [sFieldAddr, h x (by simp)]
  case field t x f => simp only [sField, h x (by simp)]
  case indexAddr t x i => simp only [sIndexAddr, h x (by simp), h i (by simp)]
  case index t x i => simp only [sIndex, h x (by simp), h i (by simp)]
  case extract x i => simp only [sExtract, h x (by simp)]
  case makeFunc fn a b =>
    have h1 := evs_congr a.toList (fun x hx => h x (by simp; exact .inl (by simpa using hx)))
    have h2 := evs_congr b.toList (fun x hx => h x (by simp; exact .inr (by simpa using hx)))
    simp only [sFunc, h1, h2]

theorem opA_congr {P : Program} {ih : Ctx} {H : Heap} {tm tm' : Tr Value} {o : Oper} (h : ∀ x ∈ o.op.operands, ev tm x = ev tm' x) : opA P ih H tm o = opA P ih H tm' o := by
  unfold opA
  split
  · rename_i c hop
    rw [hop] at h
    simp only [Op.operands] at h
    unfold sCall
    split
    · rename_i f args ts
      have h1 := h f (by simp [Call.operands])
      have h2 := evs_congr args.toList (fun x hx => h x (by simp [Call.operands]; exact .inr (by simpa using hx)))
      rw [h1, h2]
    · rename_i b args ts
      have h2 := evs_congr args.toList (fun x hx => h x (by simp [Call.operands]; simpa using hx))
      rw [h2]
    · rfl
  · exact stepA_congr h

/-- A try cut to some places. -/
noncomputable def rst (tm : Tr Value) : List Tmp → Tr Value
  | [] => .nil
  | t :: ts => match tm.get t with
    | some v => (rst tm ts).set t v
    | none => rst tm ts
theorem rst_get (tm : Tr Value) : ∀ (ts : List Tmp) (t : Tmp), (rst tm ts).get t = if t ∈ ts then tm.get t else none := by
  intro ts
  induction ts with
  | nil => intro t; simp [rst, Tr.get_nil]
  | cons x r ih =>
    intro t
    simp only [rst]
    split
    · rename_i v hv
      rw [Tr.get_set]
      by_cases e : t = x
      · subst e; simp [hv]
      · rw [if_neg e, ih]; simp [e]
    · rename_i hv
      rw [ih]
      by_cases e : t = x
      · subst e; simp [hv]
      · simp [e]

end Go.Proofs.YtkmhbfgkhalaoaaGreatDoor.LM
/- Kinds of operations: those that only compute or read, those that make one block, those that stand in the chain. -/

set_option linter.unusedVariables false
set_option linter.unusedSimpArgs false
set_option linter.unusedSectionVars false
namespace Go.Proofs.YtkmhbfgkhalaoaaGreatDoor.LM
open Go Go.RowKit

inductive Kind where
  | pure | reads | makes | chain

def Kind.quiet : Kind → Bool
  | .pure => true
  | .reads => true
  | .makes => false
  | .chain => false

def kindA (P : Program) (o : Oper) : Kind :=
  match o.op with
  | .alloc _ => .makes
  | .box _ _ => .makes
  | .buildSlice _ _ _ => .makes
  | .makeSlice _ _ _ => .makes
  | .load _ _ => .reads
  | .convert s d _ => match P.underlying s, P.underlying d with
    | some .string, some (.slice _) => .makes
    | some (.slice _), _ => .reads
    | _, _ => .pure
  | .store _ _ _ => .chain
  | .call ⟨.builtin .len, _, _⟩ => .pure
  | .call ⟨.builtin .max, _, _⟩ => .pure
  | .call ⟨.builtin .min, _, _⟩ => .pure
  | .call _ => .chain
  | _ => .pure

theorem quiet_same {P : Program} {ih : Ctx} {H H' : Heap} {tm : Tr Value} {o : Oper} {v : Value} (hk : (kindA P o).quiet = true) (h : opA P ih H tm o = some (v, H')) : H' = H := by
  unfold kindA at hk
  unfold opA at h
  split at h
  · rename_i c hop
    rw [hop] at hk
    unfold sCall at h
    split at h
    · exact absurd hk Bool.false_ne_true
    · rename_i b args ts
      split at h
      · rename_i vs hvs
        cases b <;> first
          | (exact absurd hk Bool.false_ne_true)
          | (unfold sBuiltin at h
             dsimp only at h
             repeat' split at h
             all_goals first
               | (simp only [fNat_eq, fInt_eq] at h; cases h; rfl)
               | (cases h; done)
               | (cases h; rfl))
      · cases h
    · cases h
  · generalize hop : o.op = op at h hk
    cases op <;> simp only [stepA] at h <;> first
      | (exact absurd hk Bool.false_ne_true)
      | (cases h; done)
      | skip
    case move x => unfold sMove at h; split at h <;> cases h; rfl
    case assign x => unfold sMove at h; split at h <;> cases h; rfl
    case pick c a b => unfold sPick at h; (repeat' (split at h)); all_goals first | (cases h; rfl) | (cases h; done)
    case build t ps => unfold sBuild at h; (repeat' (split at h)); all_goals first | (cases h; rfl) | (cases h; done)
    case load t x => unfold sLoad at h; (repeat' (split at h)); all_goals first | (cases h; rfl) | (cases h; done)
    case nilCheck x => unfold sNil at h; (repeat' (split at h)); all_goals first | (cases h; rfl) | (cases h; done)
    case binOp op t x y yt => unfold sBin at h; (repeat' (split at h)); all_goals first | (cases h; rfl) | (cases h; done)
    case unOp op t x => unfold sUn at h; (repeat' (split at h)); all_goals first | (cases h; rfl) | (cases h; done)
    case convert s d x =>
      unfold sConv at h
      split at h
      · rename_i p hp
        unfold convH at h
        split at h
        · repeat' split at h
          all_goals first | (simp only [fBs_eq] at h; cases h; rfl) | (cases h; rfl) | (cases h; done)
        · rename_i e str hs hd
          simp only [hs, hd] at hk
          exact absurd hk Bool.false_ne_true
        · (repeat' (split at h))
          all_goals first | (cases h; rfl) | (cases h; done)
        · repeat' split at h
          all_goals first | (cases h; rfl) | (cases h; done)
      · cases h
    case slice t x lo hi mx =>
      unfold sSlice at h
      split at h
      · split at h
        · split at h <;> cases h; rfl
        · generalize Nat.blt _ U = bb at h
          cases bb <;> simp only [cond_true, cond_false] at h
          · cases h
          · split at h <;> cases h; rfl
        · split at h
          · cases h
          · dsimp only at h
            split at h
            · cases h
            · split at h
              · cases h
              · rw [fBs_eq] at h; cases h; rfl
        · cases h
      · cases h
    case fieldAddr t x f =>
      unfold sFieldAddr at h
      repeat' split at h
      all_goals first | (simp only [addA, fNat_eq] at h; cases h; rfl) | (cases h; done)
    case field t x f =>
      unfold sField at h
      repeat' split at h
      all_goals first | (simp only [fSp_eq] at h; cases h; rfl) | (cases h; rfl) | (cases h; done)
    case indexAddr t x i => unfold sIndexAddr at h; (repeat' (split at h)); all_goals first | (cases h; rfl) | (cases h; done)
    case index t x i => unfold sIndex at h; (repeat' (split at h)); all_goals first | (cases h; rfl) | (cases h; done)
    case extract x i => unfold sExtract at h; (repeat' (split at h)); all_goals first | (cases h; rfl) | (cases h; done)
    case makeFunc fn a b => unfold sFunc at h; (repeat' (split at h)); all_goals first | (cases h; rfl) | (cases h; done)

end Go.Proofs.YtkmhbfgkhalaoaaGreatDoor.LM

/- A runner of closed calls, proved sound: part C. Its conditions stand in its lemmas. -/
import Derived.Test.YtkmhbfgkhalaoaaGreatDoorLmB
import Derived.Scope
import Derived.Lib.Bytealg
import Derived.Laws.StandIn
import Derived.Below
/- Operations that make one block: what the block is, without a word on the rest of the memory. -/
set_option linter.unusedVariables false
set_option linter.unusedSimpArgs false
set_option linter.unusedSectionVars false
namespace Go.Proofs.YtkmhbfgkhalaoaaGreatDoor.LM
open Go Go.RowKit

/-- The machine makes one block; in the evaluator it has the number b and is B. -/
def Made (P : Program) (o : Oper) (a : Act) (w : World) (μ : Mu) (v : Value) (b : Nat) (B : Blk) : Prop :=
  B.chain = b ∧ B.stale = false ∧ B.anc = [] ∧ ∃ (v' : Value) (w' : World) (cs : Array Value), (execOp a.eval o).run P w = .ok (.value v') w' ∧ B.n ≤ cs.size ∧
    (∀ i, i < B.n → (B.cell i).oneCell' = true ∧ ∃ u, cs[i]? = some u ∧ VR μ (B.cell i) u) ∧
    w'.heap.size = w.heap.size + 1 ∧ (∀ r, r < w.heap.size → w'.heap[r]? = w.heap[r]?) ∧ (∀ i u, cs[i]? = some u → w'.cell? ⟨w.heap.size, i, none⟩ = some u) ∧
    (∀ i, i < cs.size → w'.fro ⟨w.heap.size, i, none⟩ = false) ∧ w'.os = w.os ∧ w'.tape = w.tape ∧ w'.output = w.output ∧
    ∀ μ' : Mu, μ' b = some (w.heap.size, 0, cs.size) → VR μ' v v'

theorem made_of {P : Program} {o : Oper} {a : Act} {w : World} {μ : Mu} {X X' : Heap} {v v' : Value} {cs ds : List Value} {t : TypeId} {mk : Nat → Value} (hL : LR μ cs ds) (h1 : ∀ u ∈ cs, u.oneCell' = true) (h : newL X cs (fun H' b => some (mk b, H')) = some (v, X'))
    (hrun : (execOp a.eval o).run P w = .ok (.value v') (w.alloc (.cells ⟨ds⟩ t))) (hv : ∀ μ' : Mu, μ' X.next = some (w.heap.size, 0, ds.length) → VR μ' (mk X.next) v') :
    ∃ B, X' = ⟨X.next + 1, X.bl.set X.next B⟩ ∧ Made P o a w μ v X.next B := by
  obtain ⟨c, e, hc⟩ := newL_eq X cs (fun H' b => some (mk b, H'))
  rw [e] at h
  have h' := Option.some.inj h
  cases h'
  refine ⟨_, rfl, rfl, rfl, rfl, v', w.alloc (.cells ⟨ds⟩ t), ⟨ds⟩, hrun, ?_, fun i hi => ?_, by simp, fun r hr => heap_alloc_old w _ r hr, fun i u hu => by rw [World.cell?_alloc_new]; exact hu, fun i _ => World.fro_alloc_new w ⟨ds⟩ t i, rfl, rfl, rfl, hv⟩
  · show cs.length ≤ ds.length
    rw [hL.1]; exact Nat.le_refl _
  · have hx := List.getElem?_eq_getElem (l := cs) (i := i) hi
    rw [hc i _ hx]
    obtain ⟨y, hy, hR⟩ := hL.get hx
    exact ⟨h1 _ (List.getElem_mem hi), y, by simpa using hy, hR⟩

theorem buildSlice_run {P : Program} {a : Act} (w : World) {o : Oper} {t e : TypeId} {n z : Nat} {ps : Array (Nat × Operand)} {zs ds : List Value} (ho : o.op = .buildSlice t n ps) (hu : P.underlying t = some (.slice e)) (hz : sizeP P e = some z) (hzs : zeroP P e = some zs) (h24 : n * z ≤ 16777216)
    (hzl : zs.length = z) (e1 : Instr.fill (fun i => some (i * z, z)) ⟨rep zs n⟩ (ps.toList.map fun (i, x) => (i, a.eval x)) = some ⟨ds⟩) :
    (execOp a.eval o).run P w = .ok (.value (.slice (some ⟨w.heap.size, 0, none⟩) n n)) (w.alloc (.cells ⟨ds⟩ e)) := by
  obtain ⟨it, zv, hi, hzv, hzc⟩ := zero_inv hzs
  have hfill : Instr.fill (fun i => some (i * z, z)) ((Array.range (n * z)).map (fun i => (⟨zs⟩ : Array Value)[i % (⟨zs⟩ : Array Value).size]!)) ((ps.map fun (i, x) => (i, a.eval x)).toList) = some ⟨ds⟩ := by
    rw [made_rep zs n (n * z) (by rw [hzl]), Array.toList_map]
    exact e1
  have h24' : ¬ (n * z > 2 ^ 24) := by omega
  have hfill' : Instr.fill (fun i => some (i * z, z)) ((Array.range (n * z)).map (fun i => (if n * z = 0 then (#[] : Array Value) else ⟨zs⟩)[i % (if n * z = 0 then (#[] : Array Value) else ⟨zs⟩).size]!)) ((ps.map fun (i, x) => (i, a.eval x)).toList) = some ⟨ds⟩ := by
    by_cases h0 : n * z = 0
    · have emp : ∀ f : Nat → Value, (Array.range 0).map f = #[] := fun f => by apply Array.ext_getElem?; intro i; simp
      rw [← hfill, h0, emp, emp]
    · simp only [if_neg h0]; exact hfill
  rw [show (⟨zs⟩ : Array Value) = zv.cells from hzc.symm] at hfill'
  have hgo : (Instr.buildSlice t n (ps.map fun (i, x) => (i, a.eval x))).run P w = .ok (.slice (some ⟨w.heap.size, 0, none⟩) n n) (w.alloc (.cells ⟨ds⟩ e)) := by
    simp only [Instr.buildSlice, Sem.run_bind, run_underlying hu, Result.andThen_ok, sizeOf_run w hz, if_neg h24']
    by_cases h0 : n * z = 0
    · simp only [if_pos h0] at hfill' ⊢
      simp only [Sem.run_bind, Sem.run_pure, Result.andThen_ok, hfill']
      simp [newRow, newObj, Sem.run, Result.andThen]
    · simp only [if_neg h0] at hfill' ⊢
      have hz' : (zeroValue e).run P w = .ok zv w := by simp [zeroValue, typeInfo, hi, hzv]
      simp only [Sem.run_bind, hz', Sem.run_pure, Result.andThen_ok, hfill']
      simp [newRow, newObj, Sem.run, Result.andThen]
  simp only [execOp, ho, Sem.run_bind, hgo, Result.andThen_ok, Sem.run_pure]

theorem kind_gen (A B : Option TypeDesc) (h : (match A, B with
    | some .string, some (.slice _) => Kind.makes
    | some (.slice _), _ => Kind.reads
    | _, _ => Kind.pure) = .makes) : A = some .string ∧ ∃ e, B = some (.slice e) := by
  split at h
  · exact ⟨rfl, _, rfl⟩
  · cases h
  · cases h

theorem makes_ok {P : Program} {ih : Ctx} {X X' : Heap} {tm : Tr Value} {o : Oper} {v : Value} {a : Act} {w : World} {μ : Mu} (hk : kindA P o = .makes) (ht : TR μ tm a) (h : opA P ih X tm o = some (v, X')) :
    ∃ B, X' = ⟨X.next + 1, X.bl.set X.next B⟩ ∧ Made P o a w μ v X.next B := by
  unfold kindA at hk
  unfold opA at h
  split at h
  · rename_i c hop
    rw [hop] at hk
    split at hk <;> first | (cases hk; done) | (rename_i h0; cases h0)
  · generalize hop : o.op = op at h hk
    cases op <;> simp only [stepA] at h <;> first
      | (cases hk; done)
      | (cases h; done)
      | skip
    case alloc t =>
      unfold sAlloc at h
      have run : ∀ {cs : List Value}, zeroP P t = some cs → (execOp a.eval o).run P w = .ok (.value (.pointer (some ⟨w.heap.size, 0, none⟩))) (w.alloc (.cells ⟨cs⟩ t)) := fun hz => by
        obtain ⟨z, h1, h2⟩ := zero_run w hz
        simp [execOp, hop, Instr.alloc, h1, newVar, newRow, newObj, cells_of, h2, Sem.run, Result.andThen]
      split at h
      · rename_i z cs hz
        split at h
        · rename_i hfl
          have hL : LR μ (z :: cs) (z :: cs) := LR.flats hfl
          have hone : ∀ u ∈ z :: cs, u.oneCell' = true := fun u hu => flat_one (flats_eq _ hfl u hu)
          cases hbig : Nat.blt 64 (z :: cs).length <;> rw [hbig] at h <;> simp only [cond_true, cond_false] at h
          · exact made_of hL hone h (run hz) (fun μ' hm => .ptr hm)
          · split at h
            · rename_i hall
              obtain ⟨nx, bl⟩ := X
              simp only [newB, fNat_eq, Tr.put_eq] at h
              cases h
              refine ⟨_, rfl, rfl, rfl, rfl, _, _, ⟨z :: cs⟩, run hz, Nat.le_refl _, fun i hi => ?_, by simp, fun r hr => heap_alloc_old w _ r hr, fun i u hu => by rw [World.cell?_alloc_new]; exact hu, fun i _ => World.fro_alloc_new w ⟨z :: cs⟩ t i, rfl, rfl, rfl, fun μ' hm => .ptr hm⟩
              have e : (⟨(z :: cs).length, z, .nil, nx, false, []⟩ : Blk).cell i = z := rfl
              rw [e]
              have hx : (z :: cs)[i]? = some z := by
                cases i with
                | zero => rfl
                | succ i =>
                  have hi' : i < cs.length := by
                    have : i + 1 < (z :: cs).length := hi
                    simpa using this
                  rw [List.getElem?_cons_succ, List.getElem?_eq_getElem hi', alleq_eq z cs hall _ (List.getElem_mem hi')]
              exact ⟨hone z (by simp), z, by simpa using hx, hL.2 0 z z rfl rfl⟩
            · cases h
        · cases h
      · rename_i hz
        exact made_of (μ := μ) LR.nil (fun u hu => by cases hu) h (run hz) (fun μ' hm => .ptr hm)
      · cases h
    case box t x =>
      unfold sBox at h
      split at h
      · rename_i u hx
        split at h
        · rename_i h1
          have hR := ev_eq ht hx
          refine made_of (t := t) hR.cells (fun u hu => one_eq _ h1 u hu) h (v' := .pointer (some ⟨w.heap.size, 0, none⟩)) ?_ (fun μ' hm => .ptr hm)
          simp [execOp, hop, Instr.box, newVar, newRow, newObj, cells_of, Sem.run, Result.andThen]
        · cases h
      · cases h
    case buildSlice t n ps =>
      unfold sBuildSlice at h
      split at h
      · rename_i l e hl hu
        split at h
        · rename_i z zs hz hzs
          cases hc : (Nat.ble (Nat.mul n z) 16777216 && Nat.blt n 4294967296 && Nat.beq zs.length z && flats zs) <;> rw [hc] at h <;> simp only [cond_true, cond_false] at h
          · cases h
          · simp only [Bool.and_eq_true] at hc
            obtain ⟨⟨⟨hc1, hc2⟩, hc3⟩, hc4⟩ := hc
            split at h
            · rename_i cs hcs
              split at h
              · rename_i h1
                rw [fSp_eq] at h
                have hp := evParts_eq ht _ _ hl
                obtain ⟨ds, e1, hR⟩ := fill_run hp (rep_LR hc4 n) hcs
                have hn32 : n < 4294967296 := by rwa [Nat.blt_eq] at hc2
                refine made_of (t := e) hR (fun u hu => one_eq _ h1 u hu) h (v' := .slice (some ⟨w.heap.size, 0, none⟩) n n) ?_ (fun μ' hm => .sl (d := 0) hm (Nat.le_refl _) (.inl ⟨rfl, by simp only [U]; omega⟩))
                exact buildSlice_run w hop hu hz hzs (Nat.le_of_ble_eq_true hc1) (Nat.eq_of_beq_eq_true hc3) e1
              · cases h
            · cases h
        · cases h
      · cases h
    case makeSlice t x y =>
      unfold sMake at h
      split at h
      · rename_i k1 n k2 m e hx hy hu
        split at h
        · rename_i zs i hzs hi
          cases hc : (Nat.ble n m && Nat.ble (m * i.bytes) 140737488355328 && Nat.blt m 4294967296 && Nat.beq zs.length i.size && flats zs) <;> rw [hc] at h <;> simp only [cond_true, cond_false] at h
          · cases h
          · simp only [Bool.and_eq_true] at hc
            obtain ⟨⟨⟨⟨c1, c2⟩, c3⟩, c4⟩, c5⟩ := hc
            have hnm : n ≤ m := Nat.le_of_ble_eq_true c1
            have hby := Nat.le_of_ble_eq_true c2
            have hm32 : m < 4294967296 := by rwa [Nat.blt_eq] at c3
            have hzl := Nat.eq_of_beq_eq_true c4
            obtain ⟨it, zv, hi', hzv, hzc⟩ := zero_inv hzs
            rw [hi] at hi'
            cases hi'
            refine made_of (t := e) (rep_LR c5 m) (fun u hu => flat_one (flats_eq zs c5 u (rep_mem zs m u hu))) h (v' := .slice (some ⟨w.heap.size, 0, none⟩) n m) ?_ (fun μ' hm => .sl (d := 0) hm hnm (.inl ⟨rfl, by simp only [U]; omega⟩))
            have hbi : (i.bytes : Int) * (m : Int) ≤ 281474976710656 := by
              have : ((m * i.bytes : Nat) : Int) ≤ 140737488355328 := by omega
              rw [Int.natCast_mul, Int.mul_comm] at this
              omega
            have := run_make (P := P) w t e i zv hu hi hzv k1 k2 (n : Int) (m : Int) (by omega) (by omega) hbi (by omega)
            rw [Int.toNat_natCast, Int.toNat_natCast, hzc] at this
            have e2 : madeCells ⟨zs⟩ (m * i.size) = ⟨rep zs m⟩ := made_rep zs m (m * i.size) (by rw [hzl])
            rw [e2] at this
            have ex := int_inv (ev_eq ht hx)
            have ey := int_inv (ev_eq ht hy)
            simp only [execOp, hop, ex, ey, Sem.run_bind, Int.ofNat_eq_natCast, this, Result.andThen_ok, Sem.run_pure]
        · cases h
      · cases h
    case convert s d x =>
      unfold sConv at h
      split at h
      · rename_i p hp
        have hR := ev_eq ht hp
        unfold convH at h
        split at h
        · rename_i hs hd
          simp only [hs, hd] at hk
          cases hk
        · rename_i e str hs hd
          split at h
          · rename_i he
            rw [fL0_eq] at h
            have hstr := string_inv hR
            have hrun := Lib.run_convert_string_bytes (P := P) w s d e str hs hd he
            obtain ⟨c, e1, hc⟩ := newL_eq X (str.data.toList.map fun b => Value.int .u8 b.toNat) (fun H' b => fNat str.data.toList.length fun n => some (Value.slice (some ⟨b, 0, none⟩) n (U + 1), H'))
            rw [e1, fNat_eq] at h
            have h' := Option.some.inj h
            cases h'
            have hsz : (Lib.bytesCells w e str).size = grownCap w str.size 0 e := by
              have := grownCap_ge w str.size 0 e
              simp [Lib.bytesCells]
              have e2 : str.size = str.data.size := rfl
              omega
            have hge := grownCap_ge w str.size 0 e
            have hle : str.data.toList.length = str.size := Array.length_toList
            refine ⟨_, rfl, rfl, rfl, rfl, .slice (some ⟨w.heap.size, 0, none⟩) str.size (grownCap w str.size 0 e), Lib.bytesWorld w e str, Lib.bytesCells w e str, by simp [execOp, hop, hstr, hrun], ?_, fun i hi => ?_, Lib.bytesWorld_size w e str, fun r hr' => Lib.bytesWorld_at_old w e str r hr',
              fun i v hv => by simp [World.cell?, Lib.bytesWorld_at_new, hv], fun i hi => ?_, rfl, rfl, rfl, fun μ' hm => ?_⟩
            · show (str.data.toList.map fun b => Value.int .u8 b.toNat).length ≤ _
              rw [hsz, List.length_map, hle]; exact hge
            · have hx := List.getElem?_eq_getElem (l := str.data.toList.map fun b => Value.int .u8 b.toNat) (i := i) hi
              rw [hc i _ hx]
              refine ⟨by simp [Value.oneCell'], _, ?_, .flat (by simp [flat])⟩
              have hi2 : i < str.data.size := by
                have : i < (str.data.toList.map fun b => Value.int .u8 b.toNat).length := hi
                simpa using this
              have hi3 : i < str.size := hi2
              simp [Lib.bytesCells, Array.getElem?_append, hi2, hi3]
            · simp only [World.fro, Lib.bytesWorld_at_new]
              simp
              omega
            · rw [hle]
              refine .sl (lim := (Lib.bytesCells w e str).size) (d := 0) hm hge (.inr ⟨1, rfl, ?_⟩)
              rw [hsz]; omega
          · cases h
        · rename_i hs hd
          simp only [hs, hd] at hk
          cases hk
        · exfalso
          have hsd : P.underlying s = some .string ∧ ∃ e, P.underlying d = some (.slice e) := by
            exact kind_gen _ _ hk
          obtain ⟨hs, e, hd⟩ := hsd
          simp [convA, hs, hd] at h
      · cases h

end Go.Proofs.YtkmhbfgkhalaoaaGreatDoor.LM
/- Blocks of the evaluator that the machine has not made yet. -/

set_option linter.unusedVariables false
set_option linter.unusedSimpArgs false
set_option linter.unusedSectionVars false
namespace Go.Proofs.YtkmhbfgkhalaoaaGreatDoor.LM
open Go Go.RowKit

/-- A block that the machine has not made yet is added. -/
theorem add_HW {H : Heap} {B : Blk} (hw : HW H) (hch : B.chain = H.next) (han : B.anc = []) : HW ⟨H.next + 1, H.bl.set H.next B⟩ := by
  have hc : ∀ k K, (H.bl.set H.next B).get k = some K → (k = H.next ∧ K = B) ∨ (k ≠ H.next ∧ H.bl.get k = some K) := by
    intro k K hk
    rw [Tr.get_set] at hk
    by_cases e : k = H.next
    · rw [if_pos e] at hk; cases hk; exact .inl ⟨e, rfl⟩
    · rw [if_neg e] at hk; exact .inr ⟨e, hk⟩
  refine ⟨fun k K hk => ?_, fun k K hk => ?_, fun k K k' K' hk hk' hcc hne hs hp => ?_, fun k K k' K' hk hk' hcc hs hs' => ?_, fun k K x hk hx => ?_, fun k K x X hk hx hX => ?_⟩
  · rcases hc k K hk with ⟨rfl, _⟩ | ⟨_, h⟩
    · exact Nat.lt_succ_self _
    · exact Nat.lt_succ_of_lt (hw.dom k K h)
  · rcases hc k K hk with ⟨rfl, rfl⟩ | ⟨_, h⟩
    · rw [hch]; exact Nat.lt_succ_self _
    · exact Nat.lt_succ_of_lt (hw.chlt k K h)
  · rcases hc k K hk with ⟨rfl, rfl⟩ | ⟨_, h⟩
    · rcases hc k' K' hk' with ⟨rfl, _⟩ | ⟨_, h'⟩
      · exact absurd rfl hne
      · have := hw.chlt k' K' h'; omega
    · rcases hc k' K' hk' with ⟨rfl, rfl⟩ | ⟨_, h'⟩
      · have := hw.chlt k K h; omega
      · exact hw.anc k K k' K' h h' hcc hne hs hp
  · rcases hc k K hk with ⟨rfl, rfl⟩ | ⟨_, h⟩
    · rcases hc k' K' hk' with ⟨rfl, _⟩ | ⟨_, h'⟩
      · rfl
      · have := hw.chlt k' K' h'; omega
    · rcases hc k' K' hk' with ⟨rfl, rfl⟩ | ⟨_, h'⟩
      · have := hw.chlt k K h; omega
      · exact hw.uniq k K k' K' h h' hcc hs hs'
  · rcases hc k K hk with ⟨rfl, rfl⟩ | ⟨_, h⟩
    · rw [han] at hx; cases hx
    · exact Nat.lt_succ_of_lt (hw.ancdom k K x h hx)
  · rcases hc k K hk with ⟨rfl, rfl⟩ | ⟨_, h⟩
    · rw [han] at hx; cases hx
    · rcases hc x X hX with ⟨rfl, rfl⟩ | ⟨_, h'⟩
      · have := hw.ancdom k K _ h hx; omega
      · exact hw.ancs k K x X h hx h'

theorem add_HR {μ : Mu} {base : Nat} {H : Heap} {w : World} {B : Blk} (hr : HR μ base H w) (hn : μ H.next = none) : HR μ base ⟨H.next + 1, H.bl.set H.next B⟩ w := by
  have hc : ∀ k K y, (H.bl.set H.next B).get k = some K → μ k = some y → H.bl.get k = some K := by
    intro k K y hk hm
    rw [Tr.get_set] at hk
    by_cases e : k = H.next
    · rw [e, hn] at hm; cases hm
    · rw [if_neg e] at hk; exact hk
  exact ⟨fun k K r d lim hk hm => hr.live k K r d lim (hc k K _ hk hm) hm, fun k K r d lim i hk hm hi => hr.cell k K r d lim i (hc k K _ hk hm) hm hi,
    fun k K r d lim k' K' d' lim' hk hm hk' hm' => hr.chain k K r d lim k' K' d' lim' (hc k K _ hk hm) hm (hc k' K' _ hk' hm') hm',
    fun k K r d lim hk hm x hx => hr.ancm k K r d lim (hc k K _ hk hm) hm x hx,
    fun k K x X r d lim d' lim' hk hs hx hX hp hm hm' => hr.below k K x X r d lim d' lim' (hc k K _ hk hm) hs hx (hc x X _ hX hm') hp hm hm'⟩

theorem add_Ext {μ0 μ : Mu} {H0 H : Heap} {w0 w : World} {B : Blk} (he : Ext μ0 H0 w0 μ H w) (hn : μ H.next = none) : Ext μ0 H0 w0 μ ⟨H.next + 1, H.bl.set H.next B⟩ w := by
  refine ⟨Nat.le_succ_of_le he.next, fun b hb => ?_, fun b B' hb hg => ?_, fun b hb hu => ?_, he.keep, fun b r d lim h1 h2 hm => ?_, he.size, he.os, he.tape, he.output⟩
  · rcases hb with hb | hb
    · exact he.mu b (.inl hb)
    · exact he.mu b (.inr (Nat.le_of_succ_le hb))
  · simp only [Tr.get_set] at hg
    rw [if_neg (by have := he.next; omega)] at hg
    exact he.back b B' hb hg
  · simp only [Tr.get_set]
    rw [if_neg (by have := he.next; omega)]
    exact he.unm b hb hu
  · by_cases e : b = H.next
    · rw [e, hn] at hm; cases hm
    · exact he.fresh b r d lim h1 (by have : b < H.next + 1 := h2; omega) hm

/-- The machine makes a block that the evaluator has already. -/
theorem map_HR {μ : Mu} {base : Nat} {H : Heap} {w w' : World} {b : Nat} {B : Blk} {cs : Array Value} (hr : HR μ base H w) (hb : base ≤ w.heap.size) (hg : H.bl.get b = some B) (hn : μ b = none) (han : B.anc = [])
    (hle : B.n ≤ cs.size) (hc : ∀ i, i < B.n → (B.cell i).oneCell' = true ∧ ∃ u, cs[i]? = some u ∧ VR μ (B.cell i) u)
    (hsz : w'.heap.size = w.heap.size + 1) (hkeep : ∀ r, r < w.heap.size → w'.heap[r]? = w.heap[r]?) (hcn : ∀ i u, cs[i]? = some u → w'.cell? ⟨w.heap.size, i, none⟩ = some u)
    (hfn : ∀ i, i < cs.size → w'.fro ⟨w.heap.size, i, none⟩ = false) : HR (upd μ b (w.heap.size, 0, cs.size)) base H w' := by
  have hup : ∀ k x, μ k = some x → upd μ b (w.heap.size, 0, cs.size) k = some x := by
    intro k x hx; unfold upd; rw [if_neg (fun e => by rw [e, hn] at hx; cases hx)]; exact hx
  have hold : ∀ k, k ≠ b → upd μ b (w.heap.size, 0, cs.size) k = μ k := fun k hk => by unfold upd; rw [if_neg hk]
  have hnew : upd μ b (w.heap.size, 0, cs.size) b = some (w.heap.size, 0, cs.size) := by unfold upd; rw [if_pos rfl]
  have hcell : ∀ r i, r < w.heap.size → w'.cell? ⟨r, i, none⟩ = w.cell? ⟨r, i, none⟩ := fun r i hr => by simp [World.cell?, hkeep r hr]
  have hfro : ∀ r i, r < w.heap.size → w'.fro ⟨r, i, none⟩ = w.fro ⟨r, i, none⟩ := fun r i hr => by simp [World.fro, hkeep r hr]
  refine ⟨?_, ?_, ?_, ?_, ?_⟩
  · intro k K r d lim hk hm
    by_cases e : k = b
    · subst e
      rw [hg] at hk
      cases hk
      rw [hnew] at hm
      cases hm
      exact ⟨hb, by omega, by omega, fun i hi => ⟨⟨cs[i], hcn i _ (Array.getElem?_eq_getElem hi)⟩, hfn i hi⟩⟩
    · rw [hold k e] at hm
      obtain ⟨h1, h2, h3, h4⟩ := hr.live k K r d lim hk hm
      refine ⟨h1, by omega, h3, fun i hi => ?_⟩
      rw [hcell r i h2, hfro r i h2]
      exact h4 i hi
  · intro k K r d lim i hk hm hi
    by_cases e : k = b
    · subst e
      rw [hg] at hk
      cases hk
      rw [hnew] at hm
      cases hm
      obtain ⟨h1, u, h2, h3⟩ := hc i hi
      exact ⟨h1, u, by rw [Nat.zero_add]; exact hcn i u h2, h3.mono hup⟩
    · rw [hold k e] at hm
      obtain ⟨h1, u, h2, h3⟩ := hr.cell k K r d lim i hk hm hi
      exact ⟨h1, u, by rw [hcell r _ (hr.live k K r d lim hk hm).2.1]; exact h2, h3.mono hup⟩
  · intro k K r d lim k' K' d' lim' hk hm hk' hm'
    by_cases e : k = b
    · subst e
      rw [hnew] at hm
      cases hm
      by_cases e' : k' = k
      · subst e'; rw [hk] at hk'; cases hk'; rfl
      · rw [hold k' e'] at hm'
        exact absurd (hr.live k' K' _ d' lim' hk' hm').2.1 (Nat.lt_irrefl _)
    · rw [hold k e] at hm
      by_cases e' : k' = b
      · subst e'
        rw [hnew] at hm'
        cases hm'
        exact absurd (hr.live k K _ d lim hk hm).2.1 (Nat.lt_irrefl _)
      · rw [hold k' e'] at hm'
        exact hr.chain k K r d lim k' K' d' lim' hk hm hk' hm'
  · intro k K r d lim hk hm x hx
    by_cases e : k = b
    · subst e
      rw [hg] at hk
      cases hk
      rw [han] at hx
      cases hx
    · rw [hold k e] at hm
      obtain ⟨y, hy⟩ := hr.ancm k K r d lim hk hm x hx
      exact ⟨y, hup x y hy⟩
  · intro k K x X r d lim d' lim' hk hs hx hX hp hm hm'
    by_cases e : k = b
    · subst e
      rw [hg] at hk
      cases hk
      rw [han] at hx
      cases hx
    · rw [hold k e] at hm
      by_cases e' : x = b
      · subst e'
        rw [hnew] at hm'
        cases hm'
        exact absurd (hr.live k K _ d lim hk hm).2.1 (Nat.lt_irrefl _)
      · rw [hold x e'] at hm'
        exact hr.below k K x X r d lim d' lim' hk hs hx hX hp hm hm'

theorem map_Ext {μ0 μ : Mu} {H0 H : Heap} {w0 w w' : World} {b n : Nat} (he : Ext μ0 H0 w0 μ H w) (h0 : H0.next ≤ b) (h1 : b < H.next) (hsz : w'.heap.size = w.heap.size + 1) (hkeep : ∀ r, r < w.heap.size → w'.heap[r]? = w.heap[r]?)
    (e1 : w'.os = w.os) (e2 : w'.tape = w.tape) (e3 : w'.output = w.output) : Ext μ0 H0 w0 (upd μ b (w.heap.size, 0, n)) H w' := by
  refine ⟨he.next, fun k hk => ?_, he.back, he.unm, fun r hr hno => ?_, fun k r d lim g1 g2 hm => ?_, by have := he.size; omega, e1.trans he.os, e2.trans he.tape, e3.trans he.output⟩
  · unfold upd
    rw [if_neg (by omega)]
    exact he.mu k hk
  · rw [hkeep r (Nat.lt_of_lt_of_le hr he.size)]
    exact he.keep r hr hno
  · unfold upd at hm
    by_cases e : k = b
    · rw [if_pos e] at hm
      cases hm
      exact .inl he.size
    · rw [if_neg e] at hm
      exact he.fresh k r d lim g1 g2 hm

end Go.Proofs.YtkmhbfgkhalaoaaGreatDoor.LM
/- Pure operations answer the same in every heap; reading ones when a block is added; values held against each other. -/

set_option linter.unusedVariables false
set_option linter.unusedSimpArgs false
set_option linter.unusedSectionVars false
namespace Go.Proofs.YtkmhbfgkhalaoaaGreatDoor.LM
open Go Go.RowKit

theorem pure_any {P : Program} {ih : Ctx} {H H' : Heap} {tm : Tr Value} {o : Oper} {v : Value} (hk : kindA P o = .pure) (h : opA P ih H tm o = some (v, H')) (H2 : Heap) : opA P ih H2 tm o = some (v, H2) := by
  unfold kindA at hk
  unfold opA at h ⊢
  split at h
  · rename_i c hop
    rw [hop] at hk
    unfold sCall at h ⊢
    split at h
    · cases hk
    · rename_i b args ts
      split at h
      · rename_i vs hvs
        try simp only [hvs]
        cases b <;> first
          | (cases hk; done)
          | (unfold sBuiltin at h ⊢
             dsimp only at h ⊢
             (repeat' (split at h))
             all_goals first
               | (simp only [fNat_eq, fInt_eq] at h ⊢; cases h; simp_all; done)
               | (cases h; done)
               | (cases h; simp_all; done))
      · cases h
    · cases h
  · generalize hop : o.op = op at h hk ⊢
    cases op <;> simp only [stepA] at h ⊢ <;> first
      | (cases hk; done)
      | (cases h; done)
      | skip
    case move x => unfold sMove at h ⊢; split at h <;> cases h; simp_all
    case assign x => unfold sMove at h ⊢; split at h <;> cases h; simp_all
    case pick c a b => unfold sPick at h ⊢; (repeat' (split at h)); all_goals first | (cases h; simp_all; done) | (cases h; done)
    case build t ps => unfold sBuild at h ⊢; (repeat' (split at h)); all_goals first | (cases h; simp_all; done) | (cases h; done)
    case nilCheck x => unfold sNil at h ⊢; (repeat' (split at h)); all_goals first | (cases h; simp_all; done) | (cases h; done)
    case binOp op t x y yt => unfold sBin at h ⊢; (repeat' (split at h)); all_goals first | (cases h; simp_all; done) | (cases h; done)
    case unOp op t x => unfold sUn at h ⊢; (repeat' (split at h)); all_goals first | (cases h; simp_all; done) | (cases h; done)
    case convert s d x =>
      unfold sConv at h ⊢
      split at h
      · rename_i p hp
        unfold convH at h ⊢
        split at h
        · rename_i hs hd
          simp only [hs, hd] at hk
          cases hk
        · rename_i e str hs hd
          simp only [hs, hd] at hk
          cases hk
        · rename_i e0 e a n c hs hd
          simp only [hs, hd] at hk
          cases hk
        · rename_i h1 h2 h3
          split at h
          · rename_i u hu
            cases h
            rfl
          · cases h
      · cases h
    case slice t x lo hi mx =>
      unfold sSlice at h ⊢
      split at h
      · rename_i v0 l0 h0 m0 hv0 hl0 hh0 hm0
        try simp only [hv0, hl0, hh0, hm0]
        split at h
        · rename_i hu
          try simp only [hu]
          split at h
          · rename_i hc; cases h; simp only [hc]
          · cases h
        · rename_i hu
          try simp only [hu]
          generalize Nat.blt _ U = bb at h ⊢
          cases bb <;> simp only [cond_true, cond_false] at h ⊢
          · cases h
          · split at h
            · rename_i hc; cases h; simp only [hc]
            · cases h
        · rename_i hu
          try simp only [hu]
          split at h
          · cases h
          · dsimp only at h ⊢
            split at h
            · cases h
            · rename_i h' hh'
              try simp only [hh']
              split at h
              · cases h
              · rename_i l' hl'
                try simp only [hl']
                rw [fBs_eq] at h ⊢; cases h; rfl
        · cases h
      · cases h
    case fieldAddr t x f =>
      unfold sFieldAddr at h ⊢
      (repeat' (split at h))
      all_goals first | (simp only [addA, fNat_eq] at h ⊢; cases h; simp_all [addA, fNat_eq]; done) | (cases h; done)
    case field t x f =>
      unfold sField at h ⊢
      (repeat' (split at h))
      all_goals first | (simp only [fSp_eq] at h; cases h; simp_all [fSp_eq]; done) | (cases h; simp_all; done) | (cases h; done)
    case indexAddr t x i => unfold sIndexAddr at h ⊢; (repeat' (split at h)); all_goals first | (cases h; simp_all; done) | (cases h; done)
    case index t x i => unfold sIndex at h ⊢; (repeat' (split at h)); all_goals first | (cases h; simp_all; done) | (cases h; done)
    case extract x i => unfold sExtract at h ⊢; (repeat' (split at h)); all_goals first | (cases h; simp_all; done) | (cases h; done)
    case makeFunc fn a b => unfold sFunc at h ⊢; (repeat' (split at h)); all_goals first | (cases h; simp_all; done) | (cases h; done)

theorem rd1_grow {H : Heap} (hw : HW H) {B : Blk} {a : Addr} {v : Value} (h : rd1 H a = some v) : rd1 ⟨H.next + 1, H.bl.set H.next B⟩ a = some v := by
  obtain ⟨nx, bl⟩ := H
  obtain ⟨b, o, s⟩ := a
  cases s with
  | some x => cases h
  | none =>
    unfold rd1 at h ⊢
    dsimp only at h ⊢
    cases hb : bl.get b with
    | none => rw [hb] at h; cases h
    | some K =>
      have hlt : b < nx := hw.dom b K hb
      rw [Tr.get_set, if_neg (Nat.ne_of_lt hlt)]
      exact h
theorem rdN_grow {H : Heap} (hw : HW H) {B : Blk} {a : Addr} {n : Nat} {v : List Value} (h : rdN H a n = some v) : rdN ⟨H.next + 1, H.bl.set H.next B⟩ a n = some v := by
  obtain ⟨nx, bl⟩ := H
  obtain ⟨b, o, s⟩ := a
  cases s with
  | some x => cases h
  | none =>
    unfold rdN at h ⊢
    dsimp only at h ⊢
    cases hb : bl.get b with
    | none => rw [hb] at h; cases h
    | some K =>
      have hlt : b < nx := hw.dom b K hb
      rw [Tr.get_set, if_neg (Nat.ne_of_lt hlt)]
      rw [hb] at h ⊢
      exact h
theorem nums_any (H H2 : Heap) : ∀ (l : List Value), nums H l = nums H2 l := by
  intro l
  induction l with
  | nil => rfl
  | cons x r ih =>
    unfold nums
    split
    · rename_i hx; cases hx
    · rename_i hx; cases hx; rw [ih]
    · rfl

theorem reads_grow {P : Program} {ih : Ctx} {H H' : Heap} (hw : HW H) {tm : Tr Value} {o : Oper} {v : Value} {B : Blk} (hk : kindA P o = .reads) (h : opA P ih H tm o = some (v, H')) :
    opA P ih ⟨H.next + 1, H.bl.set H.next B⟩ tm o = some (v, ⟨H.next + 1, H.bl.set H.next B⟩) := by
  unfold kindA at hk
  unfold opA at h ⊢
  split at h
  · rename_i c hop
    rw [hop] at hk
    split at hk <;> first | (cases hk; done) | (rename_i h0; cases h0)
  · generalize hop : o.op = op at h hk ⊢
    cases op <;> simp only [stepA] at h ⊢ <;> first
      | (cases hk; done)
      | (cases h; done)
      | skip
    case load t x =>
      unfold sLoad at h ⊢
      split at h
      · rename_i a ha
        split at h
        · rename_i u hu
          cases h
          try rw [ha]
          try dsimp only
          have : ldT P ⟨H.next + 1, H.bl.set H.next B⟩ t a = some v := by
            unfold ldT at hu ⊢
            split at hu
            · rename_i hag
              try rw [hag]
              try dsimp only
              split at hu
              · rename_i n hn
                try rw [hn]
                try dsimp only
                split at hu
                · rename_i cs hcs
                  rw [rdN_grow hw hcs]; exact hu
                · cases hu
              · cases hu
            · rename_i hag
              try rw [hag]
              exact rd1_grow hw hu
            · cases hu
          rw [this]
        · cases h
      · cases h
    case convert s d x =>
      unfold sConv at h ⊢
      split at h
      · rename_i p hp
        unfold convH at h ⊢
        split at h
        · rename_i e a n cc hs hd
          split at h
          · rename_i he
            try rw [he]
            try dsimp only
            split at h
            · cases h; rfl
            · rename_i a0
              split at h
              · rename_i cs hcs
                rw [rdN_grow hw hcs]
                dsimp only
                split at h
                · rename_i l hl
                  rw [← nums_any H, hl]
                  dsimp only
                  rw [fBs_eq] at h ⊢
                  cases h; rfl
                · cases h
              · cases h
          · cases h
        · rename_i e str hs hd
          simp only [hs, hd] at hk
          cases hk
        · rename_i e0 e a n c hs hd
          split at h
          · split at h
            · split at h
              rename_i nx bl
              split at h
              · rename_i K hK
                cases h
                have hlt := hw.dom _ K hK
                dsimp only
                rw [Tr.get_set, if_neg (Nat.ne_of_lt hlt)]
                simp_all
              · cases h
            · cases h
          · cases h
        · split at h
          · rename_i u hu
            cases h
            rfl
          · cases h
      · cases h

/-! ### Values held against each other -/
noncomputable def veq1 (x y : Value) : Bool :=
  match x, y with
  | .int k a, .int k' b => match keq k k' with | true => ieq a b | false => false
  | .bool a, .bool b => a == b
  | .string a, .string b => beqB a.data.toList b.data.toList
  | .pointer none, .pointer none => true
  | .pointer (some ⟨b, o, none⟩), .pointer (some ⟨b', o', none⟩) => match Nat.beq b b' with | true => Nat.beq o o' | false => false
  | .slice none l c, .slice none l' c' => match Nat.beq l l' with | true => Nat.beq c c' | false => false
  | .slice (some ⟨b, o, none⟩) l c, .slice (some ⟨b', o', none⟩) l' c' => match Nat.beq b b' with
    | true => match Nat.beq o o' with
      | true => match Nat.beq l l' with | true => Nat.beq c c' | false => false
      | false => false
    | false => false
  | .nilFunc, .nilFunc => true
  | .nilIface, .nilIface => true
  | .func (.func a) ⟨[]⟩ ⟨[]⟩, .func (.func b) ⟨[]⟩ ⟨[]⟩ => Nat.beq a b
  | _, _ => false
noncomputable def veqs (l : List Value) : List Value → Bool :=
  List.rec (motive := fun _ => List Value → Bool) (fun y => match y with | [] => true | _ => false)
    (fun a _ ih y => match y with | [] => false | b :: r => match veq1 a b with | true => ih r | false => false) l
noncomputable def veq (x y : Value) : Bool :=
  match x, y with
  | .agg ⟨a⟩, .agg ⟨b⟩ => veqs a b
  | x, y => veq1 x y

theorem bytes_eq {a b : ByteArray} (h : a.data.toList = b.data.toList) : a = b := by
  obtain ⟨⟨a⟩⟩ := a
  obtain ⟨⟨b⟩⟩ := b
  cases h
  rfl
theorem veq1_eq {x y : Value} (h : veq1 x y = true) : x = y := by
  unfold veq1 at h
  split at h
  · split at h
    · rename_i hk; rw [keq_eq hk, (ieq_eq).1 h]
    · cases h
  · have := eq_of_beq h; subst this; rfl
  · rw [beqB_eq] at h; rw [bytes_eq (eq_of_beq h)]
  · rfl
  · split at h
    · rename_i hb; rw [Nat.eq_of_beq_eq_true hb, Nat.eq_of_beq_eq_true h]
    · cases h
  · split at h
    · rename_i hb; rw [Nat.eq_of_beq_eq_true hb, Nat.eq_of_beq_eq_true h]
    · cases h
  · split at h
    · rename_i h1
      split at h
      · rename_i h2
        split at h
        · rename_i h3
          rw [Nat.eq_of_beq_eq_true h1, Nat.eq_of_beq_eq_true h2, Nat.eq_of_beq_eq_true h3, Nat.eq_of_beq_eq_true h]
        · cases h
      · cases h
    · cases h
  · rfl
  · rfl
  · rw [Nat.eq_of_beq_eq_true h]
  · cases h
theorem veqs_eq : ∀ (l m : List Value), veqs l m = true → l = m := by
  intro l
  induction l with
  | nil => intro m h; cases m with
    | nil => rfl
    | cons b r => cases h
  | cons a s ih =>
    intro m h
    cases m with
    | nil => cases h
    | cons b r =>
      have h' : (match veq1 a b with | true => veqs s r | false => false) = true := h
      split at h'
      · rename_i h1; rw [veq1_eq h1, ih r h']
      · cases h'
theorem veq_eq {x y : Value} (h : veq x y = true) : x = y := by
  unfold veq at h
  split at h
  · rw [veqs_eq _ _ h]
  · exact veq1_eq h

end Go.Proofs.YtkmhbfgkhalaoaaGreatDoor.LM
/- The evaluator of regions that draw their order. -/

set_option linter.unusedVariables false
set_option linter.unusedSimpArgs false
set_option linter.unusedSectionVars false
namespace Go.Proofs.YtkmhbfgkhalaoaaGreatDoor.LM
open Go Go.RowKit

/-! ### The plan of a region -/
def bindsA (e : Edge) : Bool := match e.ground with | .textOnly _ => false | .gcOnly _ => false | _ => true
theorem bindsA_eq (e : Edge) : Region.binds .any e = bindsA e := by
  unfold Region.binds bindsA
  cases e.ground <;> rfl

noncomputable def predsL (l : List Edge) : List Nat := List.rec (motive := fun _ => List Nat) [] (fun e _ ih => match bindsA e with | true => e.on :: ih | false => ih) l
noncomputable def predsA (o : Oper) : List Nat := predsL o.after.toList
noncomputable def memN (x : Nat) (l : List Nat) : Bool := List.rec (motive := fun _ => Bool) false (fun y _ ih => match Nat.beq x y with | true => true | false => ih) l
noncomputable def allN (p : Nat → Bool) (l : List Nat) : Bool := List.rec (motive := fun _ => Bool) true (fun y _ ih => match p y with | true => ih | false => false) l
noncomputable def anyN (p : Nat → Bool) (l : List Nat) : Bool := List.rec (motive := fun _ => Bool) false (fun y _ ih => match p y with | true => true | false => ih) l
theorem memN_iff (x : Nat) (l : List Nat) : memN x l = true ↔ x ∈ l := by
  induction l with
  | nil => simp [memN]
  | cons y r ih =>
    show (match Nat.beq x y with | true => true | false => memN x r) = true ↔ _
    cases h : Nat.beq x y
    · have := Nat.ne_of_beq_eq_false h
      simp only [List.mem_cons, ih]
      constructor
      · exact .inr
      · rintro (h1 | h1)
        · exact absurd h1 this
        · exact h1
    · have := Nat.eq_of_beq_eq_true h
      simp [this]
theorem allN_iff (p : Nat → Bool) (l : List Nat) : allN p l = true ↔ ∀ x ∈ l, p x = true := by
  induction l with
  | nil => simp [allN]
  | cons y r ih =>
    show (match p y with | true => allN p r | false => false) = true ↔ _
    cases h : p y <;> simp [h, ih]
theorem anyN_iff (p : Nat → Bool) (l : List Nat) : anyN p l = true ↔ ∃ x ∈ l, p x = true := by
  induction l with
  | nil => simp [anyN]
  | cons y r ih =>
    show (match p y with | true => true | false => anyN p r) = true ↔ _
    cases h : p y <;> simp [h, ih]
theorem predsA_iff (o : Oper) (p : Nat) : p ∈ predsA o ↔ ∃ e ∈ o.after, Region.binds .any e = true ∧ e.on = p := by
  have key : ∀ l : List Edge, p ∈ predsL l ↔ ∃ e ∈ l, bindsA e = true ∧ e.on = p := by
    intro l
    induction l with
    | nil => simp [predsL]
    | cons e r ih =>
      show p ∈ (match bindsA e with | true => e.on :: predsL r | false => predsL r) ↔ _
      cases h : bindsA e
      · simp [h, ih]
      · simp only [List.mem_cons, ih]
        constructor
        · rintro (rfl | ⟨e', h1, h2⟩)
          · exact ⟨e, .inl rfl, h, rfl⟩
          · exact ⟨e', .inr h1, h2⟩
        · rintro ⟨e', rfl | h1, h2, h3⟩
          · exact .inl h3.symm
          · exact .inr ⟨e', h1, h2, h3⟩
  unfold predsA
  rw [key]
  simp only [bindsA_eq, Array.mem_toList_iff]

/-- A place of the region and its operation. -/
abbrev Pl := Nat × Oper
structure Stage where
  c : Nat
  o : Oper
  R : List Nat
  cheap : List Pl

noncomputable def idxs (l : List Pl) : List Nat := List.rec (motive := fun _ => List Nat) [] (fun p _ ih => p.1 :: ih) l
theorem idxs_map (l : List Pl) : idxs l = l.map (·.1) := by
  induction l with
  | nil => rfl
  | cons p r ih => show p.1 :: idxs r = _; rw [ih]; rfl
noncomputable def restIdx (l : List Stage) : List Nat := List.rec (motive := fun _ => List Nat) [] (fun s _ ih => s.c :: (idxs s.cheap ++ ih)) l

/-- The stage of each place, in order; what chain operations there are. -/
noncomputable def maxAt (st : Tr Nat) (l : List Nat) : Nat := List.rec (motive := fun _ => Nat) 0 (fun p _ ih => match st.get p with | some k => bif Nat.ble k ih then ih else k | none => ih) l

/-- Places with their stages: (is it a chain operation, stage, place). -/
noncomputable def stagesA (l : List Oper) : Nat → Nat → Tr Nat → List (Bool × Nat × Pl) :=
  List.rec (motive := fun _ => Nat → Nat → Tr Nat → List (Bool × Nat × Pl)) (fun _ _ _ => [])
    (fun o _ ih i k st => match isChain o with
      | true => fNat (Nat.succ k) fun k => st.put i k fun st => (true, k, (i, o)) :: ih (Nat.succ i) k st
      | false => fNat (maxAt st (predsA o)) fun s => st.put i s fun st => (false, s, (i, o)) :: ih (Nat.succ i) k st) l

noncomputable def cheapOf (s : Nat) (l : List (Bool × Nat × Pl)) : List Pl :=
  List.rec (motive := fun _ => List Pl) [] (fun x _ ih => match x with
    | (false, k, p) => match Nat.beq k s with | true => p :: ih | false => ih
    | (true, _, _) => ih) l
noncomputable def restOf (all : List (Bool × Nat × Pl)) (l : List (Bool × Nat × Pl)) : List Stage :=
  List.rec (motive := fun _ => List Stage) [] (fun x _ ih => match x with
    | (true, k, (i, o)) => ⟨i, o, predsA o, cheapOf k all⟩ :: ih
    | (false, _, _) => ih) l

structure Plan where
  cheap0 : List Pl
  rest : List Stage

/-! ### What the plan is checked for -/
/-- Each place is what stands there. -/
noncomputable def covered (seen : List Nat) (n : Nat) : Bool := Nat.rec (motive := fun _ => Bool) true (fun k ih => match memN k seen with | true => ih | false => false) n

/-- Places in order: none comes twice, and what an operation waits for comes ahead of it. -/
noncomputable def inOrder (l : List Pl) : List Nat → Option (List Nat) :=
  List.rec (motive := fun _ => List Nat → Option (List Nat)) (fun D => some D) (fun p _ ih D => match memN p.1 D with
    | true => none
    | false => match allN (fun q => memN q D) (predsA p.2) with
      | true => ih (p.1 :: D)
      | false => none) l
noncomputable def restOrder (l : List Stage) : List Nat → Option (List Nat) :=
  List.rec (motive := fun _ => List Nat → Option (List Nat)) (fun D => some D) (fun s _ ih D => match inOrder ((s.c, s.o) :: s.cheap) D with
    | some D' => ih D'
    | none => none) l
noncomputable def hasIn (L : List Nat) (l : List Nat) : Bool := anyN (fun p => memN p L) l
noncomputable def cheapLate (L : List Nat) (l : List Pl) : Bool := List.rec (motive := fun _ => Bool) true (fun p _ ih => match hasIn L (predsA p.2) with | true => ih | false => false) l
noncomputable def late (l : List Stage) : Bool :=
  List.rec (motive := fun _ => Bool) true (fun s r ih => match s.c :: idxs s.cheap with
    | L => match cheapLate L s.cheap with
      | true => match r with
        | [] => true
        | s' :: _ => match hasIn L (predsA s'.o) with | true => ih | false => false
      | false => false) l

noncomputable def dstTr (l : List Oper) : Nat → Tr Nat → Option (Tr Nat) :=
  List.rec (motive := fun _ => Nat → Tr Nat → Option (Tr Nat)) (fun _ t => some t) (fun o _ ih i t => match o.dst with
    | none => ih (Nat.succ i) t
    | some d => match t.get d with
      | some _ => none
      | none => t.put d i fun t => ih (Nat.succ i) t) l
noncomputable def looksL (ops : List Oper) (o : Oper) : List Tmp :=
  match o.guard with
  | some (g, _) => match nth ops g with
    | some q => match q.dst with
      | some d => d :: opTmps o.op.operands.toList
      | none => opTmps o.op.operands.toList
    | none => opTmps o.op.operands.toList
  | none => opTmps o.op.operands.toList
where opTmps (l : List Operand) : List Tmp := List.rec (motive := fun _ => List Tmp) [] (fun x _ ih => match x with | .tmp t => t :: ih | _ => ih) l
noncomputable def apartOk (ops : List Oper) (dt : Tr Nat) (l : List Oper) : Nat → Bool :=
  List.rec (motive := fun _ => Nat → Bool) (fun _ => true) (fun o _ ih i => match allN (fun t => match dt.get t with
      | none => true
      | some k => match Nat.beq k i with
        | true => true
        | false => match memN k (predsA o) with
          | true => true
          | false => match nth ops k with
            | some q => memN i (predsA q)
            | none => false) (looksL ops o) with
    | true => ih (Nat.succ i)
    | false => false) l


noncomputable def planA (ops : List Oper) : Option Plan :=
  match stagesA ops 0 0 .nil with
  | all => match cheapOf 0 all with
    | c0 => match restOf all all with
      | rest => match inOrder c0 [] with
        | some D0 => match restOrder rest D0 with
          | some D => match covered D ops.length with
            | true => match late rest with
              | true => match dstTr ops 0 .nil with
                | some dt => match apartOk ops dt ops 0 with
                  | true => some ⟨c0, rest⟩
                  | false => none
                | none => none
              | false => none
            | false => none
          | none => none
        | none => none

/-! ### The run of a region -/
structure Rd where
  i : Nat
  o : Oper
  tm : Tr Value
  v : Value

noncomputable def cheapA (P : Program) (ih : Ctx) (ops : List Oper) (nt : Nat) (l : List Pl) : List Rd → Tr Value → Heap → Option (List Rd × Tr Value × Heap) :=
  List.rec (motive := fun _ => List Rd → Tr Value → Heap → Option (List Rd × Tr Value × Heap)) (fun W tm H => some (W, tm, H)) (fun p _ rest W tm H =>
    match wantedA ops tm p.2 with
    | some true => match opA P ih H tm p.2 with
      | some (v, H') => match putT tm nt p.2.dst v with
        | some tm' => match kindA P p.2 with
          | .pure => rest W tm' H'
          | .makes => rest W tm' H'
          | .reads => rest (⟨p.1, p.2, tm, v⟩ :: W) tm' H'
          | .chain => none
        | none => none
      | none => none
    | some false => match putT tm nt p.2.dst undef with
      | some tm' => rest W tm' H
      | none => none
    | none => none) l

/-- What may still have to be read is read again. -/
noncomputable def again (P : Program) (ih : Ctx) (H : Heap) (R : List Nat) (W : List Rd) : Option (List Rd) :=
  List.rec (motive := fun _ => Option (List Rd)) (some []) (fun r _ rest => match memN r.i R with
    | true => rest
    | false => match opA P ih H r.tm r.o with
      | some (v, _) => match veq r.v v with
        | true => match rest with
          | some W => some (r :: W)
          | none => none
        | false => none
      | none => none) W

noncomputable def restA (P : Program) (ih : Ctx) (ops : List Oper) (nt : Nat) (l : List Stage) : List Rd → Tr Value → Heap → Option (Tr Value × Heap) :=
  List.rec (motive := fun _ => List Rd → Tr Value → Heap → Option (Tr Value × Heap)) (fun _ tm H => some (tm, H)) (fun s _ rest W tm H =>
    match wantedA ops tm s.o with
    | some true => match opA P ih H tm s.o with
      | some (v, H') => match putT tm nt s.o.dst v with
        | some tm' => match again P ih H' s.R W with
          | some W' => match cheapA P ih ops nt s.cheap W' tm' H' with
            | some (W2, tm2, H2) => rest W2 tm2 H2
            | none => none
          | none => none
        | none => none
      | none => none
    | some false => match putT tm nt s.o.dst undef with
      | some tm' => match cheapA P ih ops nt s.cheap W tm' H with
        | some (W2, tm2, H2) => rest W2 tm2 H2
        | none => none
      | none => none
    | none => none) l

/-- Regions that draw their order. -/
noncomputable def drwA (P : Program) : Drw := fun ih ops nt tm H =>
  match planA ops with
  | some ⟨c0, rest⟩ => match cheapA P ih ops nt c0 [] tm H with
    | some (W, tm', H') => restA P ih ops nt rest W tm' H'
    | none => none
  | none => none

end Go.Proofs.YtkmhbfgkhalaoaaGreatDoor.LM
/- What the plan of a region says. -/

set_option linter.unusedVariables false
set_option linter.unusedSimpArgs false
set_option linter.unusedSectionVars false
namespace Go.Proofs.YtkmhbfgkhalaoaaGreatDoor.LM
open Go Go.RowKit

/-- An order in which nothing comes ahead of what it waits for. -/
inductive Ord (ops : Array Oper) : List Nat → Prop
  | nil : Ord ops []
  | cons {x : Nat} {D : List Nat} {o : Oper} (h : Ord ops D) (ho : ops[x]? = some o) (hx : x ∉ D) (hp : ∀ p ∈ predsA o, p ∈ D) : Ord ops (x :: D)

theorem Ord.closed {ops : Array Oper} {D : List Nat} (h : Ord ops D) {x : Nat} {o : Oper} (hx : x ∈ D) (ho : ops[x]? = some o) : ∀ p ∈ predsA o, p ∈ D := by
  induction h with
  | nil => cases hx
  | cons h ho' hx' hp ih =>
    intro p hm
    rcases List.mem_cons.1 hx with rfl | hx
    · rw [ho] at ho'; cases ho'; exact List.mem_cons_of_mem _ (hp p hm)
    · exact List.mem_cons_of_mem _ (ih hx p hm)

theorem inOrder_cons {p : Pl} {l : List Pl} {D D' : List Nat} (h : inOrder (p :: l) D = some D') : p.1 ∉ D ∧ (∀ q ∈ predsA p.2, q ∈ D) ∧ inOrder l (p.1 :: D) = some D' := by
  have h' : (match memN p.1 D with
    | true => none
    | false => match allN (fun q => memN q D) (predsA p.2) with
      | true => inOrder l (p.1 :: D)
      | false => none) = some D' := h
  split at h'
  · cases h'
  · rename_i hm
    split at h'
    · rename_i ha
      refine ⟨fun hc => ?_, fun q hq => ?_, h'⟩
      · rw [(memN_iff _ _).2 hc] at hm; cases hm
      · exact (memN_iff _ _).1 ((allN_iff _ _).1 ha q hq)
    · cases h'
theorem inOrder_ord {ops : Array Oper} : ∀ (l : List Pl) (D D' : List Nat), (∀ p ∈ l, ops[p.1]? = some p.2) → Ord ops D → inOrder l D = some D' → Ord ops D' ∧ (∀ x, x ∈ D' ↔ x ∈ D ∨ x ∈ idxs l) ∧ ∀ x ∈ idxs l, x ∉ D := by
  intro l
  induction l with
  | nil => intro D D' _ hD h; cases h; exact ⟨hD, fun x => by simp [idxs], fun x hx => by simp [idxs] at hx⟩
  | cons p r ih =>
    intro D D' hl hD h
    obtain ⟨h1, h2, h3⟩ := inOrder_cons h
    obtain ⟨g1, g2, g3⟩ := ih _ _ (fun q hq => hl q (List.mem_cons_of_mem _ hq)) (Ord.cons hD (hl p (by simp)) h1 h2) h3
    have e : idxs (p :: r) = p.1 :: idxs r := rfl
    refine ⟨g1, fun x => ?_, fun x hx => ?_⟩
    · rw [g2, e]; simp only [List.mem_cons]
      constructor
      · rintro ((h | h) | h)
        · exact .inr (.inl h)
        · exact .inl h
        · exact .inr (.inr h)
      · rintro (h | h | h)
        · exact .inl (.inr h)
        · exact .inl (.inl h)
        · exact .inr h
    · rw [e] at hx
      rcases List.mem_cons.1 hx with rfl | hx
      · exact h1
      · exact fun hc => g3 x hx (List.mem_cons_of_mem _ hc)

theorem restOrder_cons {s : Stage} {l : List Stage} {D D' : List Nat} (h : restOrder (s :: l) D = some D') : ∃ D1, inOrder ((s.c, s.o) :: s.cheap) D = some D1 ∧ restOrder l D1 = some D' := by
  have h' : (match inOrder ((s.c, s.o) :: s.cheap) D with
    | some D' => restOrder l D'
    | none => none) = some D' := h
  split at h'
  · rename_i D1 h1; exact ⟨D1, h1, h'⟩
  · cases h'
/-- What stands in the stages. -/
def Stands (ops : Array Oper) (l : List Stage) : Prop := ∀ s ∈ l, ops[s.c]? = some s.o ∧ s.R = predsA s.o ∧ ∀ p ∈ s.cheap, ops[p.1]? = some p.2
theorem Stands.tail {ops : Array Oper} {s : Stage} {l : List Stage} (h : Stands ops (s :: l)) : Stands ops l := fun x hx => h x (List.mem_cons_of_mem _ hx)
theorem Stands.head {ops : Array Oper} {s : Stage} {l : List Stage} (h : Stands ops (s :: l)) : ∀ p ∈ ((s.c, s.o) :: s.cheap), ops[p.1]? = some p.2 := by
  intro p hp
  rcases List.mem_cons.1 hp with rfl | hp
  · exact (h s (by simp)).1
  · exact (h s (by simp)).2.2 p hp
theorem restIdx_cons (s : Stage) (l : List Stage) : restIdx (s :: l) = s.c :: (idxs s.cheap ++ restIdx l) := rfl
theorem idxs_cons (p : Pl) (l : List Pl) : idxs (p :: l) = p.1 :: idxs l := rfl
theorem restOrder_ord {ops : Array Oper} : ∀ (l : List Stage) (D D' : List Nat), Stands ops l → Ord ops D → restOrder l D = some D' → Ord ops D' ∧ (∀ x, x ∈ D' ↔ x ∈ D ∨ x ∈ restIdx l) ∧ ∀ x ∈ restIdx l, x ∉ D := by
  intro l
  induction l with
  | nil => intro D D' _ hD h; cases h; exact ⟨hD, fun x => by simp [restIdx], fun x hx => by simp [restIdx] at hx⟩
  | cons s r ih =>
    intro D D' hl hD h
    obtain ⟨D1, h1, h2⟩ := restOrder_cons h
    obtain ⟨g1, g2, g3⟩ := inOrder_ord _ _ _ hl.head hD h1
    obtain ⟨k1, k2, k3⟩ := ih _ _ hl.tail g1 h2
    refine ⟨k1, fun x => ?_, fun x hx hc => ?_⟩
    · rw [k2, g2, restIdx_cons, idxs_cons]
      simp only [List.mem_cons, List.mem_append]
      constructor
      · rintro ((h | h | h) | h)
        · exact .inl h
        · exact .inr (.inl h)
        · exact .inr (.inr (.inl h))
        · exact .inr (.inr (.inr h))
      · rintro (h | h | h | h)
        · exact .inl (.inl h)
        · exact .inl (.inr (.inl h))
        · exact .inl (.inr (.inr h))
        · exact .inr h
    · rw [restIdx_cons] at hx
      rcases List.mem_cons.1 hx with rfl | hx
      · exact g3 s.c (by rw [idxs_cons]; exact List.mem_cons_self) hc
      · rcases List.mem_append.1 hx with hx | hx
        · exact g3 x (by rw [idxs_cons]; exact List.mem_cons_of_mem _ hx) hc
        · exact k3 x hx ((g2 x).2 (.inl hc))

theorem hasIn_iff {L l : List Nat} : hasIn L l = true ↔ ∃ p ∈ l, p ∈ L := by
  unfold hasIn
  rw [anyN_iff]
  simp only [memN_iff]
theorem cheapLate_spec {L : List Nat} : ∀ (l : List Pl), cheapLate L l = true → ∀ p ∈ l, ∃ q ∈ predsA p.2, q ∈ L := by
  intro l
  induction l with
  | nil => intro _ p hp; cases hp
  | cons x r ih =>
    intro h p hp
    have h' : (match hasIn L (predsA x.2) with | true => cheapLate L r | false => false) = true := h
    split at h'
    · rename_i h1
      rcases List.mem_cons.1 hp with rfl | hp
      · exact hasIn_iff.1 h1
      · exact ih h' p hp
    · cases h'
/-- What is late waits for something that has not been done. -/
theorem late_spec {ops : Array Oper} : ∀ (s : Stage) (l : List Stage), Stands ops (s :: l) → late (s :: l) = true → ∀ i ∈ restIdx (s :: l), i ≠ s.c → ∀ o, ops[i]? = some o → ∃ p ∈ predsA o, p ∈ restIdx (s :: l) := by
  intro s l
  induction l generalizing s with
  | nil =>
    intro hs h i hi hne o ho
    have h' : (match cheapLate (s.c :: idxs s.cheap) s.cheap with
      | true => true
      | false => false) = true := h
    split at h'
    · rename_i h1
      rw [restIdx_cons] at hi
      rcases List.mem_cons.1 hi with rfl | hi
      · exact absurd rfl hne
      · simp only [restIdx, List.append_nil, idxs_map, List.mem_map] at hi
        obtain ⟨p, hp, rfl⟩ := hi
        have := (hs s (by simp)).2.2 p hp
        rw [ho] at this
        cases this
        obtain ⟨q, hq, hL⟩ := cheapLate_spec _ h1 p hp
        exact ⟨q, hq, by simpa [restIdx] using hL⟩
    · cases h'
  | cons s' r ih =>
    intro hs h i hi hne o ho
    have h' : (match cheapLate (s.c :: idxs s.cheap) s.cheap with
      | true => match hasIn (s.c :: idxs s.cheap) (predsA s'.o) with | true => late (s' :: r) | false => false
      | false => false) = true := h
    split at h'
    · rename_i h1
      split at h'
      · rename_i h2
        rw [restIdx_cons] at hi
        rcases List.mem_cons.1 hi with rfl | hi
        · exact absurd rfl hne
        · rcases List.mem_append.1 hi with hi | hi
          · rw [idxs_map, List.mem_map] at hi
            obtain ⟨p, hp, rfl⟩ := hi
            have := (hs s (by simp)).2.2 p hp
            rw [ho] at this
            cases this
            obtain ⟨q, hq, hL⟩ := cheapLate_spec _ h1 p hp
            refine ⟨q, hq, ?_⟩
            rw [restIdx_cons]
            rcases List.mem_cons.1 hL with rfl | hL
            · exact List.mem_cons_self
            · exact List.mem_cons_of_mem _ (List.mem_append.2 (.inl hL))
          · by_cases e : i = s'.c
            · subst e
              have := (hs.tail s' (by simp)).1
              rw [ho] at this
              cases this
              obtain ⟨q, hq, hL⟩ := hasIn_iff.1 h2
              refine ⟨q, hq, ?_⟩
              rw [restIdx_cons]
              rcases List.mem_cons.1 hL with rfl | hL
              · exact List.mem_cons_self
              · exact List.mem_cons_of_mem _ (List.mem_append.2 (.inl hL))
            · obtain ⟨q, hq, hL⟩ := ih s' hs.tail h' i hi e o ho
              exact ⟨q, hq, by rw [restIdx_cons]; exact List.mem_cons_of_mem _ (List.mem_append.2 (.inr hL))⟩
      · cases h'
    · cases h'

/-! ### Where the places stand -/
theorem stagesA_places {ops : List Oper} : ∀ (l : List Oper) (i k : Nat) (st : Tr Nat), ops.drop i = l → ∀ x ∈ stagesA l i k st, ops[x.2.2.1]? = some x.2.2.2 := by
  intro l
  induction l with
  | nil => intro i k st _ x hx; cases hx
  | cons o r ih =>
    intro i k st hd x hx
    have ho : ops[i]? = some o := by
      have : (ops.drop i)[0]? = some o := by rw [hd]; rfl
      rw [List.getElem?_drop] at this
      simpa using this
    have hr : ops.drop (i + 1) = r := by rw [← List.drop_drop, hd]; rfl
    have hx' : x ∈ (match isChain o with
      | true => fNat (Nat.succ k) fun k => st.put i k fun st => (true, k, (i, o)) :: stagesA r (Nat.succ i) k st
      | false => fNat (maxAt st (predsA o)) fun s => st.put i s fun st => (false, s, (i, o)) :: stagesA r (Nat.succ i) k st) := hx
    split at hx'
    · rw [fNat_eq, Tr.put_eq] at hx'
      rcases List.mem_cons.1 hx' with rfl | hx'
      · exact ho
      · exact ih _ _ _ hr x hx'
    · rw [fNat_eq, Tr.put_eq] at hx'
      rcases List.mem_cons.1 hx' with rfl | hx'
      · exact ho
      · exact ih _ _ _ hr x hx'
theorem cheapOf_mem {s : Nat} : ∀ (l : List (Bool × Nat × Pl)) (p : Pl), p ∈ cheapOf s l → ∃ x ∈ l, x.2.2 = p := by
  intro l
  induction l with
  | nil => intro p hp; cases hp
  | cons x r ih =>
    intro p hp
    have hp' : p ∈ (match x with
      | (false, k, p) => match Nat.beq k s with | true => p :: cheapOf s r | false => cheapOf s r
      | (true, _, _) => cheapOf s r) := hp
    obtain ⟨b, k, q⟩ := x
    cases b with
    | true => obtain ⟨y, hy, e⟩ := ih p hp'; exact ⟨y, List.mem_cons_of_mem _ hy, e⟩
    | false =>
      dsimp only at hp'
      split at hp'
      · rcases List.mem_cons.1 hp' with rfl | hp'
        · exact ⟨_, List.mem_cons_self, rfl⟩
        · obtain ⟨y, hy, e⟩ := ih p hp'; exact ⟨y, List.mem_cons_of_mem _ hy, e⟩
      · obtain ⟨y, hy, e⟩ := ih p hp'; exact ⟨y, List.mem_cons_of_mem _ hy, e⟩
theorem restOf_mem {all : List (Bool × Nat × Pl)} : ∀ (l : List (Bool × Nat × Pl)) (s : Stage), s ∈ restOf all l → (∃ x ∈ l, x.2.2 = (s.c, s.o)) ∧ s.R = predsA s.o ∧ ∃ k, s.cheap = cheapOf k all := by
  intro l
  induction l with
  | nil => intro s hs; cases hs
  | cons x r ih =>
    intro s hs
    have hs' : s ∈ (match x with
      | (true, k, (i, o)) => (⟨i, o, predsA o, cheapOf k all⟩ : Stage) :: restOf all r
      | (false, _, _) => restOf all r) := hs
    obtain ⟨b, k, i, o⟩ := x
    cases b with
    | false => obtain ⟨⟨y, hy, e⟩, h⟩ := ih s hs'; exact ⟨⟨y, List.mem_cons_of_mem _ hy, e⟩, h⟩
    | true =>
      rcases List.mem_cons.1 hs' with rfl | hs'
      · exact ⟨⟨_, List.mem_cons_self, rfl⟩, rfl, k, rfl⟩
      · obtain ⟨⟨y, hy, e⟩, h⟩ := ih s hs'; exact ⟨⟨y, List.mem_cons_of_mem _ hy, e⟩, h⟩

theorem covered_spec {seen : List Nat} : ∀ (n : Nat), covered seen n = true → ∀ i, i < n → i ∈ seen := by
  intro n
  induction n with
  | zero => intro _ i hi; omega
  | succ n ih =>
    intro h i hi
    have h' : (match memN n seen with | true => covered seen n | false => false) = true := h
    split at h'
    · rename_i h1
      by_cases e : i = n
      · subst e; exact (memN_iff _ _).1 h1
      · exact ih h' i (by omega)
    · cases h'

/-! ### Temporaries -/
theorem dstTr_spec : ∀ (l : List Oper) (i : Nat) (t t' : Tr Nat), dstTr l i t = some t' → (∀ d k, t.get d = some k → t'.get d = some k) ∧ ∀ k o d, l[k]? = some o → o.dst = some d → t'.get d = some (i + k) := by
  intro l
  induction l with
  | nil => intro i t t' h; cases h; exact ⟨fun _ _ h => h, fun k o d h => by simp at h⟩
  | cons o r ih =>
    intro i t t' h
    have h' : (match o.dst with
      | none => dstTr r (Nat.succ i) t
      | some d => match t.get d with
        | some _ => none
        | none => t.put d i fun t => dstTr r (Nat.succ i) t) = some t' := h
    split at h'
    · rename_i hd
      obtain ⟨h1, h2⟩ := ih _ _ _ h'
      refine ⟨h1, fun k q d hk hq => ?_⟩
      cases k with
      | zero => simp at hk; subst hk; rw [hd] at hq; cases hq
      | succ k => rw [h2 k q d (by simpa using hk) hq]; congr 1; omega
    · rename_i d0 hd
      split at h'
      · cases h'
      · rename_i hn
        rw [Tr.put_eq] at h'
        obtain ⟨h1, h2⟩ := ih _ _ _ h'
        refine ⟨fun d k hk => h1 d k ?_, fun k q d hk hq => ?_⟩
        · rw [Tr.get_set, if_neg (fun e => by rw [e, hn] at hk; cases hk)]; exact hk
        · cases k with
          | zero =>
            simp at hk; subst hk
            rw [hd] at hq; cases hq
            exact h1 _ _ (by rw [Tr.get_set, if_pos rfl]; rfl)
          | succ k => rw [h2 k q d (by simpa using hk) hq]; congr 1; omega

def Apart1 (ops : List Oper) (dt : Tr Nat) (o : Oper) (i : Nat) : Prop := ∀ t ∈ looksL ops o, ∀ k, dt.get t = some k → k = i ∨ k ∈ predsA o ∨ ∃ q, ops[k]? = some q ∧ i ∈ predsA q
theorem apartOk_spec {ops : List Oper} {dt : Tr Nat} : ∀ (l : List Oper) (i : Nat), apartOk ops dt l i = true → ∀ k o, l[k]? = some o → Apart1 ops dt o (i + k) := by
  intro l
  induction l with
  | nil => intro i _ k o hk; simp at hk
  | cons x r ih =>
    intro i h k o hk
    have h' : (match allN (fun t => match dt.get t with
      | none => true
      | some k => match Nat.beq k i with
        | true => true
        | false => match memN k (predsA x) with
          | true => true
          | false => match nth ops k with
            | some q => memN i (predsA q)
            | none => false) (looksL ops x) with
      | true => apartOk ops dt r (Nat.succ i)
      | false => false) = true := h
    split at h'
    · rename_i ha
      cases k with
      | zero =>
        simp at hk; subst hk
        intro t ht k hk
        have := (allN_iff _ _).1 ha t ht
        simp only [hk] at this
        split at this
        · rename_i e; exact .inl (Nat.eq_of_beq_eq_true e)
        · split at this
          · rename_i e; exact .inr (.inl ((memN_iff _ _).1 e))
          · split at this
            · rename_i q hq
              rw [nth_eq] at hq
              exact .inr (.inr ⟨q, hq, (memN_iff _ _).1 this⟩)
            · cases this
      | succ k =>
        have := ih (i + 1) h' k o (by simpa using hk)
        rw [show i + (k + 1) = i + 1 + k by omega]
        exact this
    · cases h'

/-! ### All of it -/
structure PF (ops : Array Oper) (c0 : List Pl) (rest : List Stage) : Prop where
  places : ∀ p ∈ c0, ops[p.1]? = some p.2
  stands : Stands ops rest
  order : ∃ D0 D, inOrder c0 [] = some D0 ∧ restOrder rest D0 = some D ∧ ∀ i, i < ops.size → i ∈ D
  late : late rest = true
  dsts : ∀ (i j : Nat) (oi oj : Oper) (t : Tmp), ops[i]? = some oi → ops[j]? = some oj → oi.dst = some t → oj.dst = some t → i = j
  apart : ∀ (i : Nat) (oi : Oper), ops[i]? = some oi → ∀ t ∈ looksL ops.toList oi, ∀ (k : Nat) (ok : Oper), ops[k]? = some ok → ok.dst = some t → k = i ∨ k ∈ predsA oi ∨ i ∈ predsA ok

theorem planA_spec {ops : Array Oper} {c0 : List Pl} {rest : List Stage} (h : planA ops.toList = some ⟨c0, rest⟩) : PF ops c0 rest := by
  unfold planA at h
  generalize hall : stagesA ops.toList 0 0 .nil = all at h
  have hpl : ∀ x ∈ all, ops[x.2.2.1]? = some x.2.2.2 := by
    intro x hx
    rw [← hall] at hx
    have := stagesA_places (ops := ops.toList) ops.toList 0 0 .nil rfl x hx
    simpa using this
  dsimp only at h
  split at h
  · rename_i D0 h0
    split at h
    · rename_i D h1
      split at h
      · rename_i hc
        split at h
        · rename_i hl
          split at h
          · rename_i dt hdt
            split at h
            · rename_i ha
              have hh := Option.some.inj h
              injection hh with e1 e2
              subst e1
              subst e2
              have hdt' : ∀ k o d, ops[k]? = some o → o.dst = some d → dt.get d = some k := by
                intro k o d hk hd
                have := (dstTr_spec _ _ _ _ hdt).2 k o d (by simpa using hk) hd
                rwa [Nat.zero_add] at this
              refine ⟨fun p hp => ?_, fun s hs => ?_, ⟨D0, D, h0, h1, fun i hi => covered_spec _ hc i (by simpa using hi)⟩, hl, fun i j oi oj t hi hj hdi hdj => ?_, fun i oi hi t ht k ok hk hd => ?_⟩
              · obtain ⟨x, hx, rfl⟩ := cheapOf_mem _ _ hp
                exact hpl x hx
              · obtain ⟨⟨x, hx, e⟩, hR, k, hk⟩ := restOf_mem _ _ hs
                refine ⟨?_, hR, fun p hp => ?_⟩
                · have := hpl x hx
                  rw [e] at this
                  exact this
                · rw [hk] at hp
                  obtain ⟨x, hx, rfl⟩ := cheapOf_mem _ _ hp
                  exact hpl x hx
              · have a1 := hdt' i oi t hi hdi
                have a2 := hdt' j oj t hj hdj
                rw [a1] at a2
                exact Option.some.inj a2
              · have a1 := apartOk_spec _ _ ha i oi (by simpa using hi) t ht k (hdt' k ok t hk hd)
                rw [Nat.zero_add] at a1
                rcases a1 with e | e | ⟨q, hq, hm⟩
                · exact .inl e
                · exact .inr (.inl e)
                · have : ops[k]? = some q := by simpa using hq
                  rw [hk] at this
                  cases this
                  exact .inr (.inr hm)
            · cases h
          · cases h
        · cases h
      · cases h
    · cases h
  · cases h

end Go.Proofs.YtkmhbfgkhalaoaaGreatDoor.LM
/- What holds while a region is run in some order. -/

set_option linter.unusedVariables false
set_option linter.unusedSimpArgs false
set_option linter.unusedSectionVars false
namespace Go.Proofs.YtkmhbfgkhalaoaaGreatDoor.LM
open Go Go.RowKit

theorem opTmps_mem : ∀ (l : List Operand) (t : Tmp), (.tmp t) ∈ l → t ∈ looksL.opTmps l := by
  intro l
  induction l with
  | nil => intro t h; cases h
  | cons x r ih =>
    intro t h
    show t ∈ (match x with | .tmp t => t :: looksL.opTmps r | _ => looksL.opTmps r)
    rcases List.mem_cons.1 h with rfl | g
    · exact List.mem_cons_self
    · cases x <;> first | exact List.mem_cons_of_mem _ (ih t g) | exact ih t g
theorem looksL_ops (ops : List Oper) (o : Oper) (t : Tmp) (h : t ∈ looksL.opTmps o.op.operands.toList) : t ∈ looksL ops o := by
  unfold looksL
  split
  · split
    · split
      · exact List.mem_cons_of_mem _ h
      · exact h
    · exact h
  · exact h
theorem ev_rst {ops : List Oper} {tm : Tr Value} {o : Oper} : ∀ x ∈ o.op.operands, ev (rst tm (looksL ops o)) x = ev tm x := by
  intro x hx
  cases x with
  | tmp t =>
    show (rst tm (looksL ops o)).get t = tm.get t
    rw [rst_get, if_pos (looksL_ops ops o t (opTmps_mem _ t (by simpa using hx)))]
  | _ => rfl
theorem wantedA_rst (ops : List Oper) (tm : Tr Value) (o : Oper) : wantedA ops (rst tm (looksL ops o)) o = wantedA ops tm o := by
  unfold wantedA
  cases hg : o.guard with
  | none => rfl
  | some g =>
    obtain ⟨j, want⟩ := g
    dsimp only
    cases hj : nth ops j with
    | none => rfl
    | some q =>
      dsimp only
      cases hd : q.dst with
      | none => rfl
      | some d =>
        dsimp only
        have : d ∈ looksL ops o := by
          unfold looksL
          rw [hg]
          dsimp only
          rw [hj]
          dsimp only
          rw [hd]
          exact List.mem_cons_self
        rw [rst_get, if_pos this]

theorem newL_shape {X X' : Heap} {cs : List Value} {mk : Nat → Value} {v : Value} (h : newL X cs (fun H' b => some (mk b, H')) = some (v, X')) : ∃ B : Blk, X' = ⟨X.next + 1, X.bl.set X.next B⟩ ∧ B.chain = X.next ∧ B.anc = [] := by
  obtain ⟨c, e, hc⟩ := newL_eq X cs (fun H' b => some (mk b, H'))
  rw [e] at h
  have h' := Option.some.inj h
  cases h'
  exact ⟨_, rfl, rfl, rfl⟩

theorem makes_shape {P : Program} {ih : Ctx} {X X' : Heap} {tm : Tr Value} {o : Oper} {v : Value} (hk : kindA P o = .makes) (h : opA P ih X tm o = some (v, X')) :
    ∃ B : Blk, X' = ⟨X.next + 1, X.bl.set X.next B⟩ ∧ B.chain = X.next ∧ B.anc = [] := by
  unfold kindA at hk
  unfold opA at h
  split at h
  · rename_i c hop
    rw [hop] at hk
    split at hk <;> first | (cases hk; done) | (rename_i h0; cases h0)
  · generalize hop : o.op = op at h hk
    cases op <;> simp only [stepA] at h <;> first
      | (cases hk; done)
      | (cases h; done)
      | skip
    case alloc t =>
      unfold sAlloc at h
      split at h
      · rename_i z cs hz
        split at h
        · generalize Nat.blt 64 (z :: cs).length = bb at h
          cases bb <;> simp only [cond_true, cond_false] at h
          · exact newL_shape h
          · split at h
            · unfold newB at h
              obtain ⟨nx, bl⟩ := X
              dsimp only at h
              rw [fNat_eq, Tr.put_eq] at h
              have h' := Option.some.inj h
              cases h'
              exact ⟨_, rfl, rfl, rfl⟩
            · cases h
        · cases h
      · exact newL_shape h
      · cases h
    case box t x =>
      unfold sBox at h
      split at h
      · split at h
        · exact newL_shape h
        · cases h
      · cases h
    case buildSlice t n ps =>
      unfold sBuildSlice at h
      split at h
      · split at h
        · rename_i z zs hz hzs
          generalize (Nat.ble (Nat.mul n z) 16777216 && Nat.blt n 4294967296 && Nat.beq zs.length z && flats zs) = bb at h
          cases bb <;> simp only [cond_true, cond_false] at h
          · cases h
          · split at h
            · split at h
              · rw [fSp_eq] at h
                exact newL_shape h
              · cases h
            · cases h
        · cases h
      · cases h
    case makeSlice t x y =>
      unfold sMake at h
      split at h
      · split at h
        · rename_i zs i hzs hi
          generalize (Nat.ble _ _ && _ && _ && _ && _) = bb at h
          cases bb <;> simp only [cond_true, cond_false] at h
          · cases h
          · exact newL_shape h
        · cases h
      · cases h
    case convert s d x =>
      unfold sConv at h
      split at h
      · unfold convH at h
        split at h
        · rename_i e0 a0 n0 c0 hs hd hx
          simp only [hs, hd] at hk
          cases hk
        · split at h
          · rw [fL0_eq] at h
            simp only [fNat_eq] at h
            exact newL_shape h
          · cases h
        · rename_i e0 e a n c hs hd hx
          simp only [hs, hd] at hk
          cases hk
        · rename_i h1 h2
          exfalso
          have hsd : P.underlying s = some .string ∧ ∃ e, P.underlying d = some (.slice e) := kind_gen _ _ hk
          obtain ⟨hs, e, hd⟩ := hsd
          simp [convA, hs, hd] at h
      · cases h

def Unl (listed : Array Bool) (i : Nat) : Prop := listed.getD i true = false
theorem Unl.lt {listed : Array Bool} {i : Nat} (h : Unl listed i) : i < listed.size := by
  rcases Nat.lt_or_ge i listed.size with h' | h'
  · exact h'
  · unfold Unl at h
    simp [Array.getD_eq_getD_getElem?, Array.getElem?_eq_none h'] at h
theorem unl_set {listed : Array Bool} {i k : Nat} : Unl (listed.setIfInBounds k true) i ↔ Unl listed i ∧ i ≠ k := by
  unfold Unl
  by_cases e : i = k
  · subst e
    simp only [ne_eq, not_true_eq_false, and_false, iff_false]
    rcases Nat.lt_or_ge i listed.size with h' | h'
    · simp [Array.getD_eq_getD_getElem?, h']
    · simp [Array.getD_eq_getD_getElem?, h']
  · rw [getD_set_ne true (Ne.symm e)]
    simp [e]
theorem listed_not {listed : Array Bool} {p : Nat} (h : listed.getD p false = true) : ¬ Unl listed p := by
  intro hu
  have hlt := hu.lt
  unfold Unl at hu
  simp [Array.getD_eq_getD_getElem?, hlt] at h hu
  rw [h] at hu
  cases hu
theorem not_listed {listed : Array Bool} {p : Nat} (hp : p < listed.size) (h : ¬ Unl listed p) : listed.getD p false = true := by
  unfold Unl at h
  simp [Array.getD_eq_getD_getElem?, hp] at h ⊢
  exact h

inductive EK where
  | skip | quiet | made (b : Nat)
structure Ent where
  i : Nat
  o : Oper
  tm : Tr Value
  v : Value
  k : EK
def Ent.rd (e : Ent) : Rd := ⟨e.i, e.o, e.tm, e.v⟩

/-- What the machine has still to do for an entry. -/
def RunOk (P : Program) (ih : Ctx) (ops : Array Oper) (H0 H : Heap) (μ : Mu) (e : Ent) : Prop :=
  match e.k with
  | .skip => wantedA ops.toList e.tm e.o = some false ∧ e.v = undef
  | .quiet => wantedA ops.toList e.tm e.o = some true ∧ (kindA P e.o = .pure ∨ kindA P e.o = .reads) ∧ opA P ih H e.tm e.o = some (e.v, H)
  | .made b => wantedA ops.toList e.tm e.o = some true ∧ kindA P e.o = .makes ∧ (∃ X B, X.next = b ∧ opA P ih X e.tm e.o = some (e.v, ⟨b + 1, X.bl.set b B⟩) ∧ H.bl.get b = some B) ∧ μ b = none ∧ H0.next ≤ b ∧ b < H.next

structure VI (P : Program) (ih : Ctx) (env : Env) (fb : Nat) (ops : Array Oper) (nt base : Nat) (μ0 : Mu) (H0 : Heap) (w0 : World) (listed : Array Bool) (a : Act) (w : World) (μ : Mu) (E : List Ent) (D : List Nat) (W : List Rd) (tm : Tr Value) (H : Heap) : Prop where
  hw : HW H
  hr : HR μ base H w
  hb : base ≤ w.heap.size
  fr : Fresh μ H
  ext : Ext μ0 H0 w0 μ H w
  ntq : a.tmps.size = nt
  sd : Side env fb μ H w a.defers
  sz : listed.size = ops.size
  ord : Ord ops D
  eo : ∀ e ∈ E, ops[e.i]? = some e.o
  eD : ∀ e ∈ E, e.i ∈ D
  dn : ∀ e ∈ E, ∀ t, e.o.dst = some t → t < nt
  u1 : ∀ i ∈ D, Unl listed i → ∃ e ∈ E, e.i = i
  u2 : ∀ i, i < ops.size → i ∉ D → Unl listed i
  run : ∀ e ∈ E, Unl listed e.i → RunOk P ih ops H0 H μ e
  wat : ∀ e ∈ E, Unl listed e.i → e.k = .quiet → kindA P e.o = .reads → e.rd ∈ W
  dist : ∀ e ∈ E, ∀ e' ∈ E, ∀ b, e.k = .made b → e'.k = .made b → e.i = e'.i
  mlt : ∀ e ∈ E, ∀ b, e.k = .made b → b < H.next
  ov : ∀ e ∈ E, ∀ e' ∈ E, e'.i ∈ predsA e.o → ∀ t, e'.o.dst = some t → e.tm.get t = some e'.v
  tv : ∀ e ∈ E, ∀ t, e.o.dst = some t → tm.get t = some e.v
  opv : ∀ e ∈ E, Unl listed e.i → ∀ t ∈ looksL ops.toList e.o, ∀ v, e.tm.get t = some v → (∃ e' ∈ E, Unl listed e'.i ∧ e'.o.dst = some t ∧ e'.i ∈ predsA e.o) ∨ ∃ v', a.tmps[t]? = some v' ∧ VR μ v v'
  tms : ∀ t v, tm.get t = some v → (∃ e' ∈ E, Unl listed e'.i ∧ e'.o.dst = some t) ∨ ∃ v', a.tmps[t]? = some v' ∧ VR μ v v'

end Go.Proofs.YtkmhbfgkhalaoaaGreatDoor.LM
/- The steps of a region that is run in some order. -/

set_option linter.unusedVariables false
set_option linter.unusedSimpArgs false
set_option linter.unusedSectionVars false
namespace Go.Proofs.YtkmhbfgkhalaoaaGreatDoor.LM
open Go Go.RowKit

theorem putT_inv {tm tm' : Tr Value} {nt : Nat} {d : Option Tmp} {v : Value} (h : putT tm nt d v = some tm') : (∀ t, d = some t → t < nt) ∧ ∀ t, tm'.get t = if d = some t then some v else tm.get t := by
  cases d with
  | none => cases h; exact ⟨fun t e => by (cases e), fun t => by simp⟩
  | some x =>
    simp only [putT] at h
    cases hl : Nat.blt x nt <;> rw [hl] at h <;> simp only [cond_true, cond_false] at h
    · cases h
    · rw [Tr.put_eq] at h
      cases h
      refine ⟨fun t e => ?_, fun t => ?_⟩
      · cases e; rwa [Nat.blt_eq] at hl
      · rw [Tr.get_set]
        by_cases e : t = x
        · subst e; simp
        · rw [if_neg e, if_neg (fun h => e (by cases h; rfl))]

theorem put_at {a : Act} {d : Option Tmp} {v : Value} {t : Tmp} (h : d = some t) (ht : t < a.tmps.size) : (a.put d v).tmps[t]? = some v := by
  subst h
  simp [Act.put, ht]
theorem put_off {a : Act} {d : Option Tmp} {v : Value} {t : Tmp} (h : d ≠ some t) : (a.put d v).tmps[t]? = a.tmps[t]? := by
  cases d with
  | none => rfl
  | some x =>
    have : x ≠ t := fun e => h (by rw [e])
    simp [Act.put, Array.getElem?_setIfInBounds_ne this]
theorem put_size {a : Act} {d : Option Tmp} {v : Value} : (a.put d v).tmps.size = a.tmps.size := by cases d <;> simp [Act.put]
theorem put_df {a : Act} {d : Option Tmp} {v : Value} : (a.put d v).defers = a.defers := by cases d <;> rfl

section
variable {P : Program} {ih : Ctx} {env : Env} {fb : Nat} {rd : Option Nat} {ops : Array Oper} {nt base : Nat} {μ0 : Mu} {H0 : Heap} {w0 : World} {listed : Array Bool} {a : Act} {w : World} {μ : Mu} {E : List Ent} {D : List Nat} {W : List Rd} {tm : Tr Value} {H : Heap} {c0 : List Pl} {rest : List Stage}

theorem RunOk.move {μ' : Mu} {H' : Heap} {e : Ent} (h : RunOk P ih ops H0 H μ e) (hq : e.k = .quiet → opA P ih H' e.tm e.o = some (e.v, H'))
    (hm : ∀ b B, e.k = .made b → H.bl.get b = some B → μ b = none → b < H.next → H'.bl.get b = some B ∧ μ' b = none ∧ b < H'.next) : RunOk P ih ops H0 H' μ' e := by
  obtain ⟨i, o, etm, v, k⟩ := e
  cases k with
  | skip => exact h
  | quiet => exact ⟨h.1, h.2.1, hq rfl⟩
  | made b =>
    obtain ⟨h1, h2, ⟨X, B, h3, h4, h5⟩, h6, h7, h8⟩ := h
    obtain ⟨g1, g2, g3⟩ := hm b B rfl h5 h6 h8
    exact ⟨h1, h2, ⟨X, B, h3, h4, g1⟩, g2, h7, g3⟩

theorem kindA_defer {c : Call} {o : Oper} (h : o.op = .defer c) : kindA P o = .pure := by unfold kindA; rw [h]
theorem map_Side {b n : Nat} {w w' : World} {ds : List Deferred} (h : Side env fb μ H w ds) (hf : Fresh μ H) (hn : μ b = none) (hb : b < H.next) (hsz : w'.heap.size = w.heap.size + 1) (hkeep : ∀ r, r < w.heap.size → w'.heap[r]? = w.heap[r]?)
    (hup : ∀ k x, μ k = some x → upd μ b (w.heap.size, 0, n) k = some x) : Side env fb (upd μ b (w.heap.size, 0, n)) H w' ds := by
  have hnm : ∀ r, r < w.heap.size → NoMap μ H r → NoMap (upd μ b (w.heap.size, 0, n)) H r := by
    intro r hr h k K d lim hk hm
    unfold upd at hm
    split at hm
    · cases hm; omega
    · exact h k K d lim hk hm
  refine ⟨⟨fun e he => ?_, fun e he e' he' l h1 h2 => ?_⟩, ?_, by have := h.fb; omega⟩
  · obtain ⟨l, r, g⟩ := h.env.1 e he
    exact ⟨l, r, g.b, hup _ _ g.m, by have := g.lt; omega, hnm l g.lt g.nm, by rw [hkeep l g.lt]; exact g.rec_, g.ready, g.pend, g.ps, g.as, g.bd, g.tm.mono hup, g.nt⟩
  · obtain ⟨l1, _, g⟩ := h.env.1 e he
    obtain ⟨l2, _, g'⟩ := h.env.1 e' he'
    rw [hup _ _ g.m] at h1
    rw [hup _ _ g'.m] at h2
    cases h1
    cases h2
    exact h.env.2 e he e' he' l g.m g'.m
  · obtain ⟨rs, m1, m2, m3⟩ := h.marks
    refine ⟨rs, m1, m2, fun r hr => ?_⟩
    obtain ⟨g1, g2, g3, g4⟩ := m3 r hr
    exact ⟨g1, by omega, hnm r g2 g3, by rw [hkeep r g2]; exact g4⟩
theorem add_Side {B : Blk} {w : World} {ds : List Deferred} (h : Side env fb μ H w ds) (hn : μ H.next = none) : Side env fb μ ⟨H.next + 1, H.bl.set H.next B⟩ w ds := by
  have hnm : ∀ r, NoMap μ H r → NoMap μ ⟨H.next + 1, H.bl.set H.next B⟩ r := by
    intro r h k K d lim hk hm
    simp only [Tr.get_set] at hk
    split at hk
    · rename_i e; rw [e, hn] at hm; cases hm
    · exact h k K d lim hk hm
  refine ⟨⟨fun e he => ?_, h.env.2⟩, ?_, h.fb⟩
  · obtain ⟨l, r, g⟩ := h.env.1 e he
    exact ⟨l, r, Nat.lt_succ_of_lt g.b, g.m, g.lt, hnm l g.nm, g.rec_, g.ready, g.pend, g.ps, g.as, g.bd, g.tm, g.nt⟩
  · obtain ⟨rs, m1, m2, m3⟩ := h.marks
    refine ⟨rs, m1, m2, fun r hr => ?_⟩
    obtain ⟨g1, g2, g3, g4⟩ := m3 r hr
    exact ⟨g1, g2, hnm r g3, g4⟩

/-- An entry has been done by the machine. -/
theorem VI.done (hp : PF ops c0 rest) (hv : VI P ih env fb ops nt base μ0 H0 w0 listed a w μ E D W tm H) {e : Ent} (he : e ∈ E) (hu : Unl listed e.i) (hr : ∀ p ∈ predsA e.o, ¬ Unl listed p)
    {v' : Value} {w' : World} {μ' : Mu} (hle : ∀ b x, μ b = some x → μ' b = some x) (hV : VR μ' e.v v') (hr' : HR μ' base H w') (hb' : base ≤ w'.heap.size) (hf' : Fresh μ' H) (hx' : Ext μ0 H0 w0 μ' H w') (hsd : Side env fb μ' H w' a.defers)
    (hm : ∀ e' ∈ E, e'.i ≠ e.i → Unl listed e'.i → ∀ b, e'.k = .made b → μ b = none → μ' b = none) : VI P ih env fb ops nt base μ0 H0 w0 (listed.setIfInBounds e.i true) (a.put e.o.dst v') w' μ' E D W tm H := by
  have hnew : ∀ t, e.o.dst = some t → (a.put e.o.dst v').tmps[t]? = some v' := fun t ht => put_at ht (by rw [hv.ntq]; exact hv.dn e he t ht)
  refine ⟨hv.hw, hr', hb', hf', hx', by rw [put_size]; exact hv.ntq, by rw [put_df]; exact hsd, by simp [hv.sz], hv.ord, hv.eo, hv.eD, hv.dn, ?_, ?_, ?_, ?_, hv.dist, hv.mlt, hv.ov, hv.tv, ?_, ?_⟩
  · intro i hi hl; exact hv.u1 i hi (unl_set.1 hl).1
  · intro i hi hD
    refine unl_set.2 ⟨hv.u2 i hi hD, fun e' => hD ?_⟩
    rw [e']; exact hv.eD e he
  · intro e2 he2 hl
    obtain ⟨hl1, hl2⟩ := unl_set.1 hl
    have hrun := hv.run e2 he2 hl1
    refine hrun.move (fun hk => ?_) (fun b B hk h1 h2 h3 => ⟨h1, hm e2 he2 hl2 hl1 b hk h2, h3⟩)
    unfold RunOk at hrun
    rw [hk] at hrun
    exact hrun.2.2
  · intro e2 he2 hl hk hkk
    exact hv.wat e2 he2 (unl_set.1 hl).1 hk hkk
  · intro e2 he2 hl t ht u hu2
    obtain ⟨hl1, hl2⟩ := unl_set.1 hl
    have hin : e.i ∈ predsA e2.o → e.o.dst = some t → (∃ v'', (a.put e.o.dst v').tmps[t]? = some v'' ∧ VR μ' u v'') := by
      intro hpm hd
      have := hv.ov e2 he2 e he hpm t hd
      rw [hu2] at this
      cases this
      exact ⟨v', hnew t hd, hV⟩
    rcases hv.opv e2 he2 hl1 t ht u hu2 with ⟨e', he', hl', hd', hpm⟩ | ⟨v'', h1, h2⟩
    · by_cases hi : e'.i = e.i
      · have ho : e'.o = e.o := by
          have := hv.eo e' he'
          rw [hi, hv.eo e he] at this
          exact (Option.some.inj this).symm
        rw [ho] at hd'
        rw [hi] at hpm
        exact .inr (hin hpm hd')
      · exact .inl ⟨e', he', unl_set.2 ⟨hl', hi⟩, hd', hpm⟩
    · by_cases hd : e.o.dst = some t
      · rcases hp.apart e2.i e2.o (hv.eo e2 he2) t ht e.i e.o (hv.eo e he) hd with h | h | h
        · exact absurd h.symm hl2
        · exact .inr (hin h hd)
        · exact absurd hl1 (hr e2.i h)
      · exact .inr ⟨v'', by rw [put_off hd]; exact h1, h2.mono hle⟩
  · intro t u hu2
    rcases hv.tms t u hu2 with ⟨e', he', hl', hd'⟩ | ⟨v'', h1, h2⟩
    · by_cases hi : e'.i = e.i
      · have ho : e'.o = e.o := by
          have := hv.eo e' he'
          rw [hi, hv.eo e he] at this
          exact (Option.some.inj this).symm
        rw [ho] at hd'
        have := hv.tv e he t hd'
        rw [hu2] at this
        cases this
        exact .inr ⟨v', hnew t hd', hV⟩
      · exact .inl ⟨e', he', unl_set.2 ⟨hl', hi⟩, hd'⟩
    · by_cases hd : e.o.dst = some t
      · have := hv.tv e he t hd
        rw [hu2] at this
        cases this
        exact .inr ⟨v', hnew t hd, hV⟩
      · exact .inr ⟨v'', by rw [put_off hd]; exact h1, h2.mono hle⟩

/-- The machine does what an entry says. -/
theorem VI.exec (hP : NoNum P) (hs : CtxOk P env ih) (hp : PF ops c0 rest) (hv : VI P ih env fb ops nt base μ0 H0 w0 listed a w μ E D W tm H) {e : Ent} (he : e ∈ E) (hu : Unl listed e.i) (hr : ∀ p ∈ predsA e.o, ¬ Unl listed p)
    {K : Act → World → Prop} {Q : Exit → Act → World → Prop} (hK : ∀ a' w' μ', VI P ih env fb ops nt base μ0 H0 w0 (listed.setIfInBounds e.i true) a' w' μ' E D W tm H → K a' w') : wpOpIn (FR rd) 0 P ops Q e.i K a w := by
  have ht : TR μ (rst e.tm (looksL ops.toList e.o)) a := by
    intro t u hu2
    rw [rst_get] at hu2
    split at hu2
    · rename_i hm
      rcases hv.opv e he hu t hm u hu2 with ⟨e', he', hl', hd', hpm⟩ | h
      · exact absurd hl' (hr e'.i hpm)
      · exact h
    · cases hu2
  have hrun := hv.run e he hu
  unfold wpOpIn
  rw [hv.eo e he]
  dsimp only
  unfold RunOk at hrun
  split at hrun
  · -- not wanted
    obtain ⟨h1, h2⟩ := hrun
    have hw := wantedA_eq (ops := ops) ht (by rw [wantedA_rst]; exact h1)
    rw [if_neg (by rw [hw]; decide)]
    refine ⟨fun _ _ => trivial, hK _ _ μ (hv.done hp he hu hr (fun _ _ h => h) ?_ hv.hr hv.hb hv.fr hv.ext hv.sd (fun _ _ _ _ _ _ h => h))⟩
    rw [h2]
    exact .tup rfl (fun i x y hx => by simp at hx)
  · -- quiet
    obtain ⟨h1, h2, h3⟩ := hrun
    have hw := wantedA_eq (ops := ops) ht (by rw [wantedA_rst]; exact h1)
    rw [if_pos hw]
    refine opA_raw hP hs hv.hw hv.hr hv.hb ht hv.fr hv.sd.env (by rw [opA_congr ev_rst]; exact h3) (fun v' w' μ' hV _ hr' hx' => ?_)
    refine hK _ _ μ' (hv.done hp he hu hr (hx'.le (hv.fr.free H)) hV hr' (Nat.le_trans hv.hb hx'.size) (hv.fr.ext hx') (hv.ext.trans hv.hw hx') (hv.sd.ext hv.hw hv.fr hx') (fun e' he' _ hl' b hk hn => ?_))
    rw [hx'.mu b (Nat.lt_or_ge b H.next)]
    exact hn
  · -- made
    rename_i b hk
    obtain ⟨h1, h2, ⟨X, B, h3, h4, h5⟩, h6, h7, h8⟩ := hrun
    have hw := wantedA_eq (ops := ops) ht (by rw [wantedA_rst]; exact h1)
    rw [if_pos hw]
    obtain ⟨B', hX, hM⟩ := makes_ok (w := w) h2 ht (by rw [opA_congr ev_rst]; exact h4)
    have hB : B' = B := by
      injection hX with hX1 hX2
      have := congrArg (fun t => Tr.get t b) hX2
      simp only [Tr.get_set, h3, if_true] at this
      exact (Option.some.inj this).symm
    subst hB
    rw [h3] at hM
    obtain ⟨_, _, han, v', w', cs, hrun, hle, hc, hsz, hkeep, hcn, hfn, e1, e2, e3, hVR⟩ := hM
    have hup : ∀ k x, μ k = some x → upd μ b (w.heap.size, 0, cs.size) k = some x := by
      intro k x hx; unfold upd; rw [if_neg (fun e => by rw [e, h6] at hx; cases hx)]; exact hx
    refine uponIn_step (fun c e => ?_) ?_
    · rw [kindA_defer e] at h2; cases h2
    rw [hrun]
    refine hK _ _ (upd μ b (w.heap.size, 0, cs.size)) (hv.done hp he hu hr hup (hVR _ (by unfold upd; rw [if_pos rfl])) (map_HR hv.hr hv.hb h5 h6 han hle hc hsz hkeep hcn hfn)
      (by have := hv.hb; omega) (fun k hk => ?_) (map_Ext hv.ext h7 h8 hsz hkeep e1 e2 e3) (map_Side hv.sd hv.fr h6 h8 hsz hkeep hup) (fun e' he' hne hl' b' hk' hn => ?_))
    · unfold upd
      rw [if_neg (by omega)]
      exact hv.fr k hk
    · unfold upd
      rw [if_neg ?_]
      · exact hn
      · intro eb
        subst eb
        exact hne (hv.dist e' he' e he b' hk' hk)

/-- One operation more has been run by the evaluator. -/
theorem VI.add (hp : PF ops c0 rest) (hv : VI P ih env fb ops nt base μ0 H0 w0 listed a w μ E D W tm H) {e : Ent} (heo : ops[e.i]? = some e.o) (hD : e.i ∉ D) (hpr : ∀ p ∈ predsA e.o, p ∈ D) (hetm : e.tm = tm)
    {tm' : Tr Value} (hput : putT tm nt e.o.dst e.v = some tm') {H' : Heap} {W' : List Rd} (hw' : HW H') (hr' : HR μ base H' w) (hf' : Fresh μ H') (hx' : Ext μ0 H0 w0 μ H' w) (hsd : Side env fb μ H' w a.defers) (hnx : H.next ≤ H'.next)
    (hrun : ∀ e' ∈ E, Unl listed e'.i → RunOk P ih ops H0 H' μ e') (hrunE : RunOk P ih ops H0 H' μ e) (hW : ∀ r ∈ W, r ∈ W') (hWe : e.k = .quiet → kindA P e.o = .reads → e.rd ∈ W')
    (hmk : ∀ b, e.k = .made b → H.next ≤ b ∧ b < H'.next) : VI P ih env fb ops nt base μ0 H0 w0 listed a w μ (e :: E) (e.i :: D) W' tm' H' := by
  obtain ⟨hdn, hget⟩ := putT_inv hput
  have hi : e.i < ops.size := (Array.getElem?_eq_some_iff.1 heo).1
  have hue : Unl listed e.i := hv.u2 e.i hi hD
  have hnotin : ∀ e2 ∈ E, ∀ t, e.o.dst = some t → e2.o.dst ≠ some t := by
    intro e2 he2 t hd hd2
    have := hp.dsts e2.i e.i e2.o e.o t (hv.eo e2 he2) heo hd2 hd
    exact hD (by rw [← this]; exact hv.eD e2 he2)
  refine ⟨hw', hr', hv.hb, hf', hx', hv.ntq, hsd, hv.sz, hv.ord.cons heo hD hpr, ?_, ?_, ?_, ?_, ?_, ?_, ?_, ?_, ?_, ?_, ?_, ?_, ?_⟩
  · intro e2 he2
    rcases List.mem_cons.1 he2 with rfl | he2
    · exact heo
    · exact hv.eo e2 he2
  · intro e2 he2
    rcases List.mem_cons.1 he2 with rfl | he2
    · exact List.mem_cons_self
    · exact List.mem_cons_of_mem _ (hv.eD e2 he2)
  · intro e2 he2
    rcases List.mem_cons.1 he2 with rfl | he2
    · exact hdn
    · exact hv.dn e2 he2
  · intro i hi hl
    rcases List.mem_cons.1 hi with rfl | hi
    · exact ⟨e, List.mem_cons_self, rfl⟩
    · obtain ⟨e2, he2, h⟩ := hv.u1 i hi hl
      exact ⟨e2, List.mem_cons_of_mem _ he2, h⟩
  · intro i hi hn
    exact hv.u2 i hi (fun h => hn (List.mem_cons_of_mem _ h))
  · intro e2 he2 hl
    rcases List.mem_cons.1 he2 with rfl | he2
    · exact hrunE
    · exact hrun e2 he2 hl
  · intro e2 he2 hl hk hkk
    rcases List.mem_cons.1 he2 with rfl | he2
    · exact hWe hk hkk
    · exact hW _ (hv.wat e2 he2 hl hk hkk)
  · intro e2 he2 e3 he3 b hk2 hk3
    rcases List.mem_cons.1 he2 with rfl | g2 <;> rcases List.mem_cons.1 he3 with rfl | g3
    · rfl
    · have h1 := (hmk b hk2).1
      have h2 := hv.mlt e3 g3 b hk3
      omega
    · have h1 := (hmk b hk3).1
      have h2 := hv.mlt e2 g2 b hk2
      omega
    · exact hv.dist e2 g2 e3 g3 b hk2 hk3
  · intro e2 he2 b hk2
    rcases List.mem_cons.1 he2 with rfl | he2
    · exact (hmk b hk2).2
    · exact Nat.lt_of_lt_of_le (hv.mlt e2 he2 b hk2) hnx
  · intro e2 he2 e3 he3 hpm t hd
    rcases List.mem_cons.1 he2 with rfl | g2
    · rcases List.mem_cons.1 he3 with rfl | he3
      · exact absurd (hpr _ hpm) hD
      · rw [hetm]; exact hv.tv e3 he3 t hd
    · rcases List.mem_cons.1 he3 with rfl | he3
      · exact absurd (hv.ord.closed (hv.eD e2 g2) (hv.eo e2 g2) _ hpm) hD
      · exact hv.ov e2 g2 e3 he3 hpm t hd
  · intro e2 he2 t hd
    rcases List.mem_cons.1 he2 with rfl | he2
    · rw [hget t, if_pos hd]
    · rw [hget t, if_neg (fun h => hnotin e2 he2 t h hd)]
      exact hv.tv e2 he2 t hd
  · intro e2 he2 hl t ht u hu
    rcases List.mem_cons.1 he2 with rfl | he2
    · rw [hetm] at hu
      rcases hv.tms t u hu with ⟨e', he', hl', hd'⟩ | h
      · rcases hp.apart e2.i e2.o heo t ht e'.i e'.o (hv.eo e' he') hd' with h | h | h
        · exact absurd (by rw [← h]; exact hv.eD e' he') hD
        · exact .inl ⟨e', List.mem_cons_of_mem _ he', hl', hd', h⟩
        · exact absurd (hv.ord.closed (hv.eD e' he') (hv.eo e' he') _ h) hD
      · exact .inr h
    · rcases hv.opv e2 he2 hl t ht u hu with ⟨e', he', h⟩ | h
      · exact .inl ⟨e', List.mem_cons_of_mem _ he', h⟩
      · exact .inr h
  · intro t u hu
    rw [hget t] at hu
    split at hu
    · rename_i hd
      exact .inl ⟨e, List.mem_cons_self, hue, hd⟩
    · rcases hv.tms t u hu with ⟨e', he', h⟩ | h
      · exact .inl ⟨e', List.mem_cons_of_mem _ he', h⟩
      · exact .inr h

/-- The cheap operations of a stage. -/
theorem VI.cheap (hp : PF ops c0 rest) : ∀ (l : List Pl) (D D' : List Nat) (E : List Ent) (W W' : List Rd) (tm tm' : Tr Value) (H H' : Heap), (∀ p ∈ l, ops[p.1]? = some p.2) → inOrder l D = some D' →
    VI P ih env fb ops nt base μ0 H0 w0 listed a w μ E D W tm H → cheapA P ih ops.toList nt l W tm H = some (W', tm', H') → ∃ E', VI P ih env fb ops nt base μ0 H0 w0 listed a w μ E' D' W' tm' H' := by
  intro l
  induction l with
  | nil =>
    intro D D' E W W' tm tm' H H' _ ho hv h
    cases ho
    cases h
    exact ⟨E, hv⟩
  | cons p r ihl =>
    intro D D' E W W' tm tm' H H' hpl ho hv h
    obtain ⟨hD, hpr, ho'⟩ := inOrder_cons ho
    have heo := hpl p (by simp)
    have hpl' : ∀ q ∈ r, ops[q.1]? = some q.2 := fun q hq => hpl q (List.mem_cons_of_mem _ hq)
    have h' : (match wantedA ops.toList tm p.2 with
      | some true => match opA P ih H tm p.2 with
        | some (v, H1) => match putT tm nt p.2.dst v with
          | some tm1 => match kindA P p.2 with
            | .pure => cheapA P ih ops.toList nt r W tm1 H1
            | .makes => cheapA P ih ops.toList nt r W tm1 H1
            | .reads => cheapA P ih ops.toList nt r (⟨p.1, p.2, tm, v⟩ :: W) tm1 H1
            | .chain => none
          | none => none
        | none => none
      | some false => match putT tm nt p.2.dst undef with
        | some tm1 => cheapA P ih ops.toList nt r W tm1 H
        | none => none
      | none => none) = some (W', tm', H') := h
    clear h
    split at h'
    · rename_i hwt
      split at h'
      · rename_i v H1 hop
        split at h'
        · rename_i tm1 hput
          split at h'
          · rename_i hk
            have hq := quiet_same (by rw [hk]; rfl) hop
            subst hq
            have hv1 := hv.add hp (e := ⟨p.1, p.2, tm, v, .quiet⟩) heo hD hpr rfl hput (W' := W) hv.hw hv.hr hv.fr hv.ext hv.sd (Nat.le_refl _) hv.run ⟨hwt, .inl hk, hop⟩ (fun _ h => h) (fun _ hkk => by rw [hk] at hkk; cases hkk) (fun b hb => by cases hb)
            exact ihl _ _ _ _ _ _ _ _ _ hpl' ho' hv1 h'
          · rename_i hk
            obtain ⟨B, rfl, hch, han⟩ := makes_shape hk hop
            have hn : μ H.next = none := hv.fr H.next (Nat.le_refl _)
            have hv1 := hv.add hp (e := ⟨p.1, p.2, tm, v, .made H.next⟩) heo hD hpr rfl hput (W' := W) (add_HW hv.hw hch han) (add_HR hv.hr hn) (fun k hk => hv.fr k (Nat.le_of_succ_le hk)) (add_Ext hv.ext hn) (add_Side hv.sd hn) (Nat.le_succ _)
              (fun e' he' hl' => by
                have hr := hv.run e' he' hl'
                refine hr.move (fun hkq => ?_) (fun b B hkb h1 h2 h3 => ⟨?_, h2, Nat.lt_succ_of_lt h3⟩)
                · unfold RunOk at hr
                  rw [hkq] at hr
                  obtain ⟨_, g2, g3⟩ := hr
                  rcases g2 with g2 | g2
                  · exact pure_any g2 g3 _
                  · exact reads_grow hv.hw g2 g3
                · show (H.bl.set H.next _).get b = _
                  rw [Tr.get_set, if_neg (Nat.ne_of_lt h3)]; exact h1)
              ⟨hwt, hk, ⟨H, B, rfl, hop, by show (H.bl.set H.next B).get H.next = _; rw [Tr.get_set, if_pos rfl]⟩, hn, hv.ext.next, Nat.lt_succ_self _⟩ (fun _ h => h) (fun hkq => by cases hkq) (fun b hb => by cases hb; exact ⟨Nat.le_refl _, Nat.lt_succ_self _⟩)
            exact ihl _ _ _ _ _ _ _ _ _ hpl' ho' hv1 h'
          · rename_i hk
            have hq := quiet_same (by rw [hk]; rfl) hop
            subst hq
            have hv1 := hv.add hp (e := ⟨p.1, p.2, tm, v, .quiet⟩) heo hD hpr rfl hput (W' := ⟨p.1, p.2, tm, v⟩ :: W) hv.hw hv.hr hv.fr hv.ext hv.sd (Nat.le_refl _) hv.run ⟨hwt, .inr hk, hop⟩ (fun _ h => List.mem_cons_of_mem _ h) (fun _ _ => List.mem_cons_self) (fun b hb => by cases hb)
            exact ihl _ _ _ _ _ _ _ _ _ hpl' ho' hv1 h'
          · cases h'
        · cases h'
      · cases h'
    · rename_i hwf
      split at h'
      · rename_i tm1 hput
        have hv1 := hv.add hp (e := ⟨p.1, p.2, tm, undef, .skip⟩) heo hD hpr rfl hput (W' := W) hv.hw hv.hr hv.fr hv.ext hv.sd (Nat.le_refl _) hv.run ⟨hwf, rfl⟩ (fun _ h => h) (fun hkq => by cases hkq) (fun b hb => by cases hb)
        exact ihl _ _ _ _ _ _ _ _ _ hpl' ho' hv1 h'
      · cases h'
    · cases h'

theorem again_spec {H1 : Heap} {R : List Nat} : ∀ (W W' : List Rd), again P ih H1 R W = some W' → ∀ r ∈ W, r.i ∉ R → r ∈ W' ∧ ∃ H2, opA P ih H1 r.tm r.o = some (r.v, H2) := by
  intro W
  induction W with
  | nil => intro W' _ r hr; cases hr
  | cons x s ihw =>
    intro W' h r hr hn
    have h' : (match memN x.i R with
      | true => again P ih H1 R s
      | false => match opA P ih H1 x.tm x.o with
        | some (v, _) => match veq x.v v with
          | true => match again P ih H1 R s with
            | some W => some (x :: W)
            | none => none
          | false => none
        | none => none) = some W' := h
    clear h
    split at h'
    · rename_i hm
      rcases List.mem_cons.1 hr with rfl | hr
      · exact absurd ((memN_iff _ _).1 hm) hn
      · exact ihw W' h' r hr hn
    · split at h'
      · rename_i v H2 hop
        split at h'
        · rename_i hq
          split at h'
          · rename_i W1 hW1
            cases h'
            rcases List.mem_cons.1 hr with rfl | hr
            · exact ⟨List.mem_cons_self, H2, by rw [veq_eq hq]; exact hop⟩
            · obtain ⟨h1, h2⟩ := ihw W1 hW1 r hr hn
              exact ⟨List.mem_cons_of_mem _ h1, h2⟩
          · cases h'
        · cases h'
      · cases h'

/-- What holds behind a chain operation. -/
theorem VI.chained (hp : PF ops c0 rest) (hv : VI P ih env fb ops nt base μ0 H0 w0 listed a w μ E D W tm H) {c : Nat} {o : Oper} (hco : ops[c]? = some o) (hD : c ∉ D) (hpr : ∀ p ∈ predsA o, p ∈ D) (hr : ∀ p ∈ predsA o, ¬ Unl listed p)
    {v v' : Value} {tm' : Tr Value} (hput : putT tm nt o.dst v = some tm') {H' : Heap} {w' : World} {μ' : Mu} {W' : List Rd} (hV : VR μ' v v') (hw' : HW H') (hr' : HR μ' base H' w') (hx' : Ext μ H w μ' H' w')
    (hW : ∀ r ∈ W, r.i ∉ predsA o → r ∈ W' ∧ ((kindA P r.o = .reads) → opA P ih H r.tm r.o = some (r.v, H) → opA P ih H' r.tm r.o = some (r.v, H'))) :
    VI P ih env fb ops nt base μ0 H0 w0 (listed.setIfInBounds c true) (a.put o.dst v') w' μ' E (c :: D) W' tm' H' := by
  obtain ⟨hdn, hget⟩ := putT_inv hput
  have hle := hx'.le (hv.fr.free H')
  have hnew : ∀ t, o.dst = some t → (a.put o.dst v').tmps[t]? = some v' := fun t ht => put_at ht (by rw [hv.ntq]; exact hdn t ht)
  have hnotin : ∀ e2 ∈ E, ∀ t, o.dst = some t → e2.o.dst ≠ some t := by
    intro e2 he2 t hd hd2
    have := hp.dsts e2.i c e2.o o t (hv.eo e2 he2) hco hd2 hd
    exact hD (by rw [← this]; exact hv.eD e2 he2)
  have hout : ∀ e2 ∈ E, Unl listed e2.i → e2.i ∉ predsA o := fun e2 he2 hl hm => hr _ hm hl
  refine ⟨hw', hr', Nat.le_trans hv.hb hx'.size, hv.fr.ext hx', hv.ext.trans hv.hw hx', by rw [put_size]; exact hv.ntq, by rw [put_df]; exact hv.sd.ext hw' hv.fr hx', by simp [hv.sz], hv.ord.cons hco hD hpr, hv.eo, ?_, hv.dn, ?_, ?_, ?_, ?_, hv.dist, ?_, hv.ov, ?_, ?_, ?_⟩
  · intro e2 he2; exact List.mem_cons_of_mem _ (hv.eD e2 he2)
  · intro i hi hl
    obtain ⟨h1, h2⟩ := unl_set.1 hl
    rcases List.mem_cons.1 hi with rfl | hi
    · exact absurd rfl h2
    · exact hv.u1 i hi h1
  · intro i hi hn
    exact unl_set.2 ⟨hv.u2 i hi (fun h => hn (List.mem_cons_of_mem _ h)), fun e => hn (by rw [e]; exact List.mem_cons_self)⟩
  · intro e2 he2 hl
    obtain ⟨hl1, hl2⟩ := unl_set.1 hl
    have hrun := hv.run e2 he2 hl1
    refine hrun.move (fun hkq => ?_) (fun b B hkb h1 h2 h3 => ⟨?_, ?_, ?_⟩)
    · unfold RunOk at hrun
      rw [hkq] at hrun
      obtain ⟨_, g2, g3⟩ := hrun
      rcases g2 with g2 | g2
      · exact pure_any g2 g3 _
      · exact (hW e2.rd (hv.wat e2 he2 hl1 hkq g2) (hout e2 he2 hl1)).2 g2 g3
    · rw [hx'.unm b h3 h2]; exact h1
    · rw [hx'.mu b (.inl h3)]; exact h2
    · exact Nat.lt_of_lt_of_le h3 hx'.next
  · intro e2 he2 hl hkq hkk
    obtain ⟨hl1, hl2⟩ := unl_set.1 hl
    exact (hW e2.rd (hv.wat e2 he2 hl1 hkq hkk) (hout e2 he2 hl1)).1
  · intro e2 he2 b hk2
    exact Nat.lt_of_lt_of_le (hv.mlt e2 he2 b hk2) hx'.next
  · intro e2 he2 t hd
    rw [hget t, if_neg (fun h => hnotin e2 he2 t h hd)]
    exact hv.tv e2 he2 t hd
  · intro e2 he2 hl t ht u hu
    obtain ⟨hl1, hl2⟩ := unl_set.1 hl
    rcases hv.opv e2 he2 hl1 t ht u hu with ⟨e', he', hl', hd', hpm⟩ | ⟨u', h1, h2⟩
    · refine .inl ⟨e', he', unl_set.2 ⟨hl', fun e => hD ?_⟩, hd', hpm⟩
      rw [← e]; exact hv.eD e' he'
    · have hne : o.dst ≠ some t := by
        intro hd
        rcases hp.apart e2.i e2.o (hv.eo e2 he2) t ht c o hco hd with h | h | h
        · exact hl2 h.symm
        · exact hD (hv.ord.closed (hv.eD e2 he2) (hv.eo e2 he2) _ h)
        · exact hout e2 he2 hl1 h
      exact .inr ⟨u', by rw [put_off hne]; exact h1, h2.mono hle⟩
  · intro t u hu
    rw [hget t] at hu
    split at hu
    · rename_i hd
      cases hu
      exact .inr ⟨v', hnew t hd, hV⟩
    · rename_i hd
      rcases hv.tms t u hu with ⟨e', he', hl', hd'⟩ | ⟨u', h1, h2⟩
      · refine .inl ⟨e', he', unl_set.2 ⟨hl', fun e => hD ?_⟩, hd'⟩
        rw [← e]; exact hv.eD e' he'
      · exact .inr ⟨u', by rw [put_off hd]; exact h1, h2.mono hle⟩

end
end Go.Proofs.YtkmhbfgkhalaoaaGreatDoor.LM
/- Regions that draw their order: the evaluator's answer is the machine's in every order. -/

set_option linter.unusedVariables false
set_option linter.unusedSimpArgs false
set_option linter.unusedSectionVars false
namespace Go.Proofs.YtkmhbfgkhalaoaaGreatDoor.LM
open Go Go.RowKit

def cntL : List Bool → Nat
  | [] => 0
  | true :: r => cntL r
  | false :: r => cntL r + 1
theorem cntL_set : ∀ (l : List Bool) (i : Nat), l[i]? = some false → cntL (l.set i true) + 1 = cntL l := by
  intro l
  induction l with
  | nil => intro i h; simp at h
  | cons b r ih =>
    intro i h
    cases i with
    | zero => simp at h; subst h; rfl
    | succ i =>
      have := ih i (by simpa using h)
      cases b
      · simp only [List.set_cons_succ, cntL]; omega
      · simp only [List.set_cons_succ, cntL]; omega
theorem cntL_pos : ∀ (l : List Bool) (i : Nat), l[i]? = some false → 0 < cntL l := by
  intro l i h
  have := cntL_set l i h
  omega
theorem cntL_rep : ∀ n, cntL (List.replicate n false) = n := by
  intro n
  induction n with
  | zero => rfl
  | succ n ih => rw [List.replicate_succ]; simp only [cntL]; omega
theorem unl_at {listed : Array Bool} {i : Nat} (h : Unl listed i) : listed.toList[i]? = some false := by
  have hlt := h.lt
  unfold Unl at h
  simp [Array.getD_eq_getD_getElem?, hlt] at h
  simp [hlt, h]

section
variable {P : Program} {ih : Ctx} {env : Env} {fb : Nat} {rd : Option Nat} {ops : Array Oper} {nt base : Nat} {μ0 : Mu} {H0 : Heap} {w0 : World} {c0 : List Pl} {rest0 : List Stage}

theorem Ord.lt {D : List Nat} (h : Ord ops D) : ∀ x ∈ D, x < ops.size := by
  induction h with
  | nil => intro x hx; cases hx
  | cons h ho hx hp ih =>
    intro x hm
    rcases List.mem_cons.1 hm with rfl | hm
    · exact (Array.getElem?_eq_some_iff.1 ho).1
    · exact ih x hm
theorem Ord.listed {D : List Nat} (h : Ord ops D) {listed : Array Bool} (hs : listed.size = ops.size) (hr : Region.ready .any ops listed = []) : ∀ x ∈ D, ¬ Unl listed x := by
  induction h with
  | nil => intro x hx; cases hx
  | @cons y D o h ho hx hp ih =>
    intro x hm
    rcases List.mem_cons.1 hm with rfl | hm
    · intro hu
      have : x ∈ Region.ready .any ops listed := by
        rw [mem_ready]
        refine ⟨hu, o, ho, fun e he hb => ?_⟩
        have hpm : e.on ∈ predsA o := (predsA_iff _ _).2 ⟨e, he, hb, rfl⟩
        exact not_listed (by rw [hs]; exact h.lt _ (hp _ hpm)) (ih _ (hp _ hpm))
      rw [hr] at this
      cases this
    · exact ih x hm

theorem late_eq (s : Stage) (r : List Stage) : late (s :: r) = (match cheapLate (s.c :: idxs s.cheap) s.cheap with
      | true => match r with
        | [] => true
        | s' :: _ => match hasIn (s.c :: idxs s.cheap) (predsA s'.o) with | true => late r | false => false
      | false => false) := rfl
theorem late_tail {s : Stage} {r : List Stage} (h : late (s :: r) = true) : late r = true := by
  rw [late_eq] at h
  split at h
  · cases r with
    | nil => rfl
    | cons s' r' =>
      dsimp only at h
      split at h
      · exact h
      · cases h
  · cases h

/-- The region is run in whatever order comes up. -/
theorem region_any (hP : NoNum P) (hs : CtxOk P env ih) (hp : PF ops c0 rest0) {Q : Exit → Act → World → Prop} {tmF : Tr Value} {HF : Heap} {Dfin : List Nat} (hfin : ∀ i, i < ops.size → i ∈ Dfin)
    (hQ : ∀ a w μ, Good env fb μ base HF w tmF nt a → Ext μ0 H0 w0 μ HF w → Q .normal a w) :
    ∀ (fuel : Nat) (listed : Array Bool) (a : Act) (w : World) (μ : Mu) (E : List Ent) (D : List Nat) (W : List Rd) (rest : List Stage) (tm : Tr Value) (H : Heap),
    VI P ih env fb ops nt base μ0 H0 w0 listed a w μ E D W tm H → Stands ops rest → late rest = true → restOrder rest D = some Dfin → restA P ih ops.toList nt rest W tm H = some (tmF, HF) → cntL listed.toList = fuel →
    wpAnyIn (FR rd) 0 P .any ops Q fuel listed a w := by
  intro fuel
  have hdone : ∀ (listed : Array Bool) (a : Act) (w : World) (μ : Mu) (E : List Ent) (D : List Nat) (W : List Rd) (rest : List Stage) (tm : Tr Value) (H : Heap),
      VI P ih env fb ops nt base μ0 H0 w0 listed a w μ E D W tm H → Stands ops rest → restOrder rest D = some Dfin → restA P ih ops.toList nt rest W tm H = some (tmF, HF) → Region.ready .any ops listed = [] → Q .normal a w := by
    intro listed a w μ E D W rest tm H hv hst hro hra hr
    obtain ⟨o1, o2, o3⟩ := restOrder_ord _ _ _ hst hv.ord hro
    have hall := o1.listed hv.sz hr
    cases rest with
    | cons s r =>
      have hm : s.c ∈ restIdx (s :: r) := by rw [restIdx_cons]; exact List.mem_cons_self
      have hD := (o2 s.c).2 (.inr hm)
      exact absurd (hv.u2 s.c (o1.lt _ hD) (o3 _ hm)) (hall _ hD)
    | nil =>
      cases hra
      refine hQ a w μ ⟨hv.hw, hv.hr, hv.hb, fun t u hu => ?_, hv.fr, hv.ntq, hv.sd⟩ hv.ext
      rcases hv.tms t u hu with ⟨e', he', hl', _⟩ | h
      · exact absurd hl' (hall _ ((o2 _).2 (.inl (hv.eD e' he'))))
      · exact h
  induction fuel with
  | zero =>
    intro listed a w μ E D W rest tm H hv hst hlt hro hra hc
    have hr : Region.ready .any ops listed = [] := by
      cases hrr : Region.ready .any ops listed with
      | nil => rfl
      | cons j r =>
        have : j ∈ Region.ready .any ops listed := by rw [hrr]; exact List.mem_cons_self
        have hu := (mem_ready.1 this).1
        have := cntL_pos _ _ (unl_at hu)
        omega
    exact ⟨hr, hdone listed a w μ E D W rest tm H hv hst hro hra hr⟩
  | succ fuel ihf =>
    intro listed a w μ E D W rest tm H hv hst hlt hro hra hc
    refine ⟨hdone listed a w μ E D W rest tm H hv hst hro hra, fun i hi => ?_⟩
    obtain ⟨hu, o, ho, hall⟩ := mem_ready.1 hi
    have hpr : ∀ p ∈ predsA o, ¬ Unl listed p := by
      intro p hpm
      obtain ⟨e, he, hb, rfl⟩ := (predsA_iff _ _).1 hpm
      exact listed_not (hall e he hb)
    have hc' : cntL (listed.setIfInBounds i true).toList = fuel := by
      have := cntL_set _ _ (unl_at hu)
      rw [Array.toList_setIfInBounds]
      omega
    by_cases hiD : i ∈ D
    · obtain ⟨e, he, rfl⟩ := hv.u1 i hiD hu
      have heo := hv.eo e he
      rw [ho] at heo
      cases heo
      exact hv.exec hP hs hp he hu hpr (fun a' w' μ' hv' => ihf _ a' w' μ' E D W rest tm H hv' hst hlt hro hra hc')
    · obtain ⟨o1, o2, o3⟩ := restOrder_ord _ _ _ hst hv.ord hro
      have hin : i ∈ restIdx rest := by
        have := (o2 i).1 (hfin i (Array.getElem?_eq_some_iff.1 ho).1)
        exact this.resolve_left hiD
      cases rest with
      | nil => simp [restIdx] at hin
      | cons s r =>
        have hic : i = s.c := by
          refine Classical.byContradiction fun hne => ?_
          obtain ⟨p, hpm, hpr'⟩ := late_spec s r hst hlt i hin hne o ho
          exact hpr p hpm (hv.u2 p (o1.lt _ ((o2 p).2 (.inr hpr'))) (o3 p hpr'))
        subst hic
        have hso := (hst s (by simp)).1
        have hsR := (hst s (by simp)).2.1
        rw [ho] at hso
        cases hso
        obtain ⟨D1, hin1, hro'⟩ := restOrder_cons hro
        obtain ⟨hcD, hcp, hin2⟩ := inOrder_cons hin1
        have ht : TR μ (rst tm (looksL ops.toList s.o)) a := by
          intro t u hu2
          rw [rst_get] at hu2
          split at hu2
          · rename_i hm
            rcases hv.tms t u hu2 with ⟨e', he', hl', hd'⟩ | h
            · rcases hp.apart s.c s.o ho t hm e'.i e'.o (hv.eo e' he') hd' with h | h | h
              · exact absurd (by rw [← h]; exact hv.eD e' he') hcD
              · exact absurd hl' (hpr _ h)
              · exact absurd (hv.ord.closed (hv.eD e' he') (hv.eo e' he') _ h) hcD
            · exact h
          · cases hu2
        have hra' : (match wantedA ops.toList tm s.o with
          | some true => match opA P ih H tm s.o with
            | some (v, H') => match putT tm nt s.o.dst v with
              | some tm' => match again P ih H' s.R W with
                | some W' => match cheapA P ih ops.toList nt s.cheap W' tm' H' with
                  | some (W2, tm2, H2) => restA P ih ops.toList nt r W2 tm2 H2
                  | none => none
                | none => none
              | none => none
            | none => none
          | some false => match putT tm nt s.o.dst undef with
            | some tm' => match cheapA P ih ops.toList nt s.cheap W tm' H with
              | some (W2, tm2, H2) => restA P ih ops.toList nt r W2 tm2 H2
              | none => none
            | none => none
          | none => none) = some (tmF, HF) := hra
        unfold wpOpIn
        rw [ho]
        dsimp only
        split at hra'
        · rename_i hwt
          have hw := wantedA_eq (ops := ops) ht (by rw [wantedA_rst]; exact hwt)
          rw [if_pos hw]
          split at hra'
          · rename_i v H1 hop
            split at hra'
            · rename_i tm1 hput
              split at hra'
              · rename_i W1 hW1
                split at hra'
                · rename_i W2 tm2 H2 hch
                  refine opA_raw hP hs hv.hw hv.hr hv.hb ht hv.fr hv.sd.env (by rw [opA_congr ev_rst]; exact hop) (fun v' w' μ' hV hw' hr' hx' => ?_)
                  have hv1 := hv.chained hp ho hcD hcp hpr hput (W' := W1) hV hw' hr' hx' (fun q hq hn => by
                    rw [hsR] at hW1
                    obtain ⟨g1, H3, g2⟩ := again_spec _ _ hW1 q hq hn
                    refine ⟨g1, fun hk _ => ?_⟩
                    have := quiet_same (by rw [hk]; rfl) g2
                    rw [this] at g2
                    exact g2)
                  obtain ⟨E', hv2⟩ := VI.cheap hp _ _ _ _ _ _ _ _ _ _ (hst s (by simp)).2.2 hin2 hv1 hch
                  exact ihf _ _ _ μ' E' D1 W2 r tm2 H2 hv2 hst.tail (late_tail hlt) hro' hra' hc'
                · cases hra'
              · cases hra'
            · cases hra'
          · cases hra'
        · rename_i hwf
          have hw := wantedA_eq (ops := ops) ht (by rw [wantedA_rst]; exact hwf)
          rw [if_neg (by rw [hw]; decide)]
          refine ⟨fun _ _ => trivial, ?_⟩
          split at hra'
          · rename_i tm1 hput
            split at hra'
            · rename_i W2 tm2 H2 hch
              have hv1 := hv.chained hp ho hcD hcp hpr hput (W' := W) (v' := undef) (.tup rfl (fun i x y hx => by simp at hx)) hv.hw hv.hr (Ext.refl μ H w) (fun q hq hn => ⟨hq, fun _ h => h⟩)
              obtain ⟨E', hv2⟩ := VI.cheap hp _ _ _ _ _ _ _ _ _ _ (hst s (by simp)).2.2 hin2 hv1 hch
              exact ihf _ _ _ μ E' D1 W2 r tm2 H2 hv2 hst.tail (late_tail hlt) hro' hra' hc'
            · cases hra'
          · cases hra'
        · cases hra'

end

theorem drwA_ok {P : Program} (hP : NoNum P) (hm : P.follows .mixedOrders = true) : DrwOk P (drwA P) := by
  intro env ih hs rd id ops nt base fb μ H H' w tm tm' a g h
  unfold drwA at h
  split at h
  · rename_i c0 rest hpl
    have hp := planA_spec hpl
    obtain ⟨D0, D, h0, h1, hfin⟩ := hp.order
    split at h
    · rename_i W tm1 H1 hch
      refine wpIn_region_any hm ?_
      have hE : Ext μ H w μ H { w with drawn := w.drawn + 1 } := ⟨Nat.le_refl _, fun _ _ => rfl, fun _ B' _ h => ⟨B', h⟩, fun _ _ _ => rfl, fun _ _ _ => rfl, fun b _ _ _ h1 h2 => by omega, Nat.le_refl _, rfl, rfl, rfl⟩
      have hv : VI P ih env fb ops nt base μ H w (Array.replicate ops.size false) a { w with drawn := w.drawn + 1 } μ [] [] [] tm H := by
        refine ⟨g.hw, g.hr.same rfl, g.hb, g.fr, hE, g.nt, g.sd.ext g.hw g.fr hE, by simp, .nil,
          fun e he => (by cases he), fun e he => (by cases he), fun e he => (by cases he), fun i hi => (by cases hi), fun i hi _ => ?_, fun e he => (by cases he), fun e he => (by cases he), fun e he => (by cases he), fun e he => (by cases he), fun e he => (by cases he), fun e he => (by cases he), fun e he => (by cases he), fun t u hu => .inr (g.ht t u hu)⟩
        unfold Unl
        simp [hi]
      obtain ⟨E', hv1⟩ := VI.cheap hp _ _ _ _ _ _ _ _ _ _ hp.places h0 hv hch
      refine region_any hP hs hp hfin (fun a' w' μ' g' e' => ⟨rfl, μ', g', e'⟩) ops.size _ a _ μ E' D0 W rest tm1 H1 hv1 hp.stands hp.late h1 h ?_
      simp [cntL_rep]
    · cases h
  · cases h

end Go.Proofs.YtkmhbfgkhalaoaaGreatDoor.LM
/- Loops over functions; all code. -/

set_option linter.unusedVariables false
set_option linter.unusedSimpArgs false
set_option linter.unusedSectionVars false
namespace Go.Proofs.YtkmhbfgkhalaoaaGreatDoor.LM
open Go Go.RowKit

theorem findE_spec {b : Nat} : ∀ (env : Env) (e : LoopR), findE b env = some e → e ∈ env ∧ e.b = b := by
  intro env
  induction env with
  | nil => intro e h; cases h
  | cons x r ih =>
    intro e h
    have h' : (match Nat.beq x.b b with | true => some x | false => findE b r) = some e := h
    split at h'
    · rename_i hb
      cases h'
      exact ⟨by simp, Nat.eq_of_beq_eq_true hb⟩
    · obtain ⟨h1, h2⟩ := ih e h'
      exact ⟨List.mem_cons_of_mem _ h1, h2⟩
theorem dropE_spec {b : Nat} : ∀ (env : Env) (e : LoopR), e ∈ dropE b env → e ∈ env ∧ e.b ≠ b := by
  intro env
  induction env with
  | nil => intro e h; cases h
  | cons x r ih =>
    intro e h
    have h' : e ∈ (match Nat.beq x.b b with | true => dropE b r | false => x :: dropE b r) := h
    split at h'
    · obtain ⟨h1, h2⟩ := ih e h'
      exact ⟨List.mem_cons_of_mem _ h1, h2⟩
    · rename_i hb
      rcases List.mem_cons.1 h' with rfl | h'
      · exact ⟨by simp, Nat.ne_of_beq_eq_false hb⟩
      · obtain ⟨h1, h2⟩ := ih e h'
        exact ⟨List.mem_cons_of_mem _ h1, h2⟩
theorem EnvOk.sub {env env' : Env} {μ : Mu} {H : Heap} {w : World} (h : EnvOk env μ H w) (hs : ∀ e ∈ env', e ∈ env) : EnvOk env' μ H w :=
  ⟨fun e he => h.1 e (hs e he), fun e he e' he' => h.2 e (hs e he) e' (hs e' he')⟩

theorem stepR_scope {b : Frame} {a : Act} {k : List Item} {cs : List Frame} {w : World} {P : Program} {c : Code} : step P (lone (b.atR a (.code (.scope c) :: k)) cs w) = .next (lone (b.atR a (.code c :: .inScope c :: k)) cs w) :=
  step_lone_go (by simp [stepG, stepG.exec, Frame.atR])
theorem stepR_inScope {b : Frame} {a : Act} {k : List Item} {cs : List Frame} {w : World} {P : Program} {c : Code} : step P (lone (b.atR a (.inScope c :: k)) cs w) = .next (lone (b.atR a k) cs w) :=
  step_lone_go (by simp [stepG, stepG.exec, Frame.atR])
theorem wpIn_scope_straight {F : Fence} {n : Nat} {P : Program} {Q : Exit → Act → World → Prop} {a : Act} {w : World} {c : Code} (h : c.wpIn F n P (Exit.noGoto Q) a w) : (Code.scope c).wpIn F n P Q a w := by
  intro b k cs hro hb hr
  have h0 : (lone (b.atR a (.code (.scope c) :: k)) cs w).fenced P F := fenced_calm hb hr rfl
  obtain ⟨e, a₁, w₁, hq, harr⟩ := h b (.inScope c :: k) cs hro hb hr
  cases e with
  | normal => exact ⟨.normal, a₁, w₁, hq, .head h0 stepR_scope (StepsIn.trans harr (.one (fenced_calm hb hr rfl) stepR_inScope))⟩
  | exit id =>
    have hx : exitTo id (.inScope c :: k) = exitTo id k := by simp [exitTo]
    exact ⟨.exit id, a₁, w₁, hq, fun k' hk => .head h0 stepR_scope (harr.1 k' (by rw [hx]; exact hk)),
      fun hr' hk => let ⟨k₁, h1, h2⟩ := harr.2 hr' (by rw [hx]; exact hk); ⟨k₁, h1, .head h0 stepR_scope h2⟩⟩
  | goto l => exact hq.elim
  | ret => exact ⟨_, a₁, w₁, hq, .of_steps (.one h0 stepR_scope) harr⟩
  | panic ch => exact ⟨_, a₁, w₁, hq, .of_steps (.one h0 stepR_scope) harr⟩
  | outgrown => exact ⟨_, a₁, w₁, hq, .of_steps (.one h0 stepR_scope) harr⟩

theorem putP_run {μ : Mu} {nt : Nat} : ∀ (ps : List Tmp) (vs us : List Value) (tm tm' : Tr Value) (tmps : Array Value), putP nt ps vs tm = some tm' → LR μ vs us → TR μ tm { tmps := tmps, defers := [] } → tmps.size = nt →
    ps.length = us.length ∧ TR μ tm' { tmps := (ps.zip us).foldl (fun tmps (x : Tmp × Value) => tmps.setIfInBounds x.1 x.2) tmps, defers := [] } ∧ ((ps.zip us).foldl (fun tmps (x : Tmp × Value) => tmps.setIfInBounds x.1 x.2) tmps).size = nt := by
  intro ps
  induction ps with
  | nil =>
    intro vs us tm tm' tmps h hL ht hn
    cases vs with
    | nil => cases h; rw [hL.inv_nil]; exact ⟨rfl, ht, hn⟩
    | cons v r => cases h
  | cons p r ih =>
    intro vs us tm tm' tmps h hL ht hn
    cases vs with
    | nil => cases h
    | cons v vr =>
      obtain ⟨u, ur, rfl, hv, hr⟩ := hL.inv_cons
      have h' : (match putT tm nt (some p) v with
        | some tm' => putP nt r vr tm'
        | none => none) = some tm' := h
      split at h'
      · rename_i tm1 hput
        obtain ⟨h1, h2, _⟩ := put_TR hput ht hv hn
        have h2' : (tmps.setIfInBounds p u).size = nt := by simpa [Act.put] using h2
        obtain ⟨g1, g2, g3⟩ := ih vr ur tm1 tm' (tmps.setIfInBounds p u) h' hr (by simpa [Act.put] using h1) h2'
        exact ⟨by simp [g1], by simpa using g2, by simpa using g3⟩
      · cases h'

/-- A round. -/
theorem yieldA_ok {P : Program} {ih : Env → Bool → Eval} (hs : ∀ env inR, SoundC P env inR (ih env inR)) (env : Env) : YlOk P env (yieldA ih env) := by
  intro b vs H v H' h l us w μ base hw hr hb hf hen hm hL
  unfold yieldA at h
  split at h
  · rename_i b0 ps assign body tm nt hfind
    obtain ⟨hmem, hbb⟩ := findE_spec _ _ hfind
    dsimp only at hbb
    subst hbb
    obtain ⟨l0, r, hR⟩ := hen.1 _ hmem
    have hl0 : l0 = l := by have h1 := hR.m; dsimp only at h1; rw [hm] at h1; cases h1; rfl
    subst hl0
    obtain ⟨st0, pe0, fn0, tmps0, params0, as0, bd0, df0⟩ := r
    obtain rfl : st0 = .ready := hR.ready
    obtain rfl : pe0 = none := hR.pend
    obtain rfl : as0 = assign := hR.as
    obtain rfl : bd0 = body := hR.bd
    split at h
    · rename_i tm1 hput
      obtain ⟨q1, q2, q3⟩ := putP_run ps vs us tm tm1 tmps0 hput hL hR.tm hR.nt
      split at h
      · rename_i tm2 H2 hassign
        split at h
        · rename_i tm3 H3 hbody
          cases h
          have hps : params0.toList = ps := hR.ps
          have hpsz : params0.size = ps.length := by rw [← hps]; simp
          have hfold : (params0.zip (⟨us⟩ : Array Value)).foldl (fun tmps (t, a) => tmps.setIfInBounds t a) tmps0 = (ps.zip us).foldl (fun tmps (x : Tmp × Value) => tmps.setIfInBounds x.1 x.2) tmps0 := by
            rw [← Array.foldl_toList, Array.toList_zip, hps]
          refine ⟨fn0, (params0.zip (⟨us⟩ : Array Value)).foldl (fun tmps (t, a) => tmps.setIfInBounds t a) tmps0, as0, bd0, run_yield hR.rec_ (by simp [hpsz, q1]), ?_⟩
          rw [hfold]
          have hsub : ∀ e ∈ dropE b0 env, e ∈ env := fun e he => (dropE_spec _ _ he).1
          have hne : ∀ e ∈ dropE b0 env, ∀ l', μ e.b = some (l', 0, 0) → l' ≠ l0 := by
            intro e he l' hme e'
            subst e'
            obtain ⟨h1, h2⟩ := dropE_spec _ _ he
            exact h2 (hen.2 e h1 _ hmem _ hme hm)
          refine roundIn_of_wpIn (F := FR none) (n := 0) trivial ?_
          have hG : Good (dropE b0 env) w.heap.size μ base H w tm1 nt { tmps := (ps.zip us).foldl (fun tmps (x : Tmp × Value) => tmps.setIfInBounds x.1 x.2) tmps0, defers := [] } :=
            ⟨hw, hr, hb, q2, hf, q3, hen.sub hsub, ⟨[], rfl, List.nodup_nil, fun r hr => (by cases hr)⟩, Nat.le_refl _⟩
          have h1 := hs (dropE b0 env) true as0 tm1 nt H _ _ _ hassign (some l0) rfl _ w μ base w.heap.size hG
          refine wpIn_mono (F := FR (some l0)) h1 ?_
          rintro e a1 w1 ⟨rfl, μ1, g1, E1⟩
          have rec1 : w1.heap[l0]? = some (.loop ⟨.ready, none, fn0, tmps0, params0, as0, bd0, df0⟩) := by rw [E1.keep l0 hR.lt hR.nm]; exact hR.rec_
          have nm1 := hR.nm.ext g1.hw E1 hR.lt
          have lt1 : l0 < w1.heap.size := Nat.lt_of_lt_of_le hR.lt E1.size
          refine ⟨_, run_beginRound rec1 hR.ready, ?_⟩
          have hk2 : ∀ q, q ≠ l0 → (w1.putObj l0 (.loop ⟨.busy, none, fn0, tmps0, params0, as0, bd0, df0⟩)).heap[q]? = w1.heap[q]? := fun q hq => World.putObj_heap_other hq
          have hne1 : ∀ e ∈ dropE b0 env, μ1 e.b ≠ some (l0, 0, 0) := by
            intro e he hc
            obtain ⟨l', _, hRe⟩ := hen.1 e (hsub e he)
            rw [E1.mu _ (.inl hRe.b)] at hc
            exact hne e he l0 hc rfl
          have G2 : Good (dropE b0 env) w.heap.size μ1 base H2 (w1.putObj l0 (.loop ⟨.busy, none, fn0, tmps0, params0, as0, bd0, df0⟩)) tm2 nt a1 := by
            refine ⟨g1.hw, g1.hr.off nm1 World.putObj_size hk2, by rw [World.putObj_size]; exact g1.hb, g1.ht, g1.fr, g1.nt, g1.sd.env.off World.putObj_size hk2 hne1, ?_, by rw [World.putObj_size]; exact g1.sd.fb⟩
            obtain ⟨rs, m1, m2, m3⟩ := g1.sd.marks
            refine ⟨rs, m1, m2, fun q hq => ?_⟩
            obtain ⟨k1, k2, k3, k4⟩ := m3 q hq
            exact ⟨k1, by rw [World.putObj_size]; exact k2, k3, by rw [hk2 q (fun e => by rw [e, rec1] at k4; cases k4)]; exact k4⟩
          have h2 := hs (dropE b0 env) true bd0 tm2 nt H2 _ _ _ hbody (some l0) rfl a1 _ μ1 base w.heap.size G2
          refine wpIn_mono (F := FR (some l0)) h2 ?_
          rintro e a3 w3 ⟨rfl, μ3, g3, E3⟩
          have rec2 : (w1.putObj l0 (.loop ⟨.busy, none, fn0, tmps0, params0, as0, bd0, df0⟩)).heap[l0]? = some (.loop ⟨.busy, none, fn0, tmps0, params0, as0, bd0, df0⟩) := World.putObj_heap_same lt1
          have rec3 : w3.heap[l0]? = some (.loop ⟨.busy, none, fn0, tmps0, params0, as0, bd0, df0⟩) := by
            rw [E3.keep l0 (by rw [World.putObj_size]; exact lt1) nm1]; exact rec2
          have lt3 : l0 < w3.heap.size := Nat.lt_of_lt_of_le (by rw [World.putObj_size]; exact lt1) E3.size
          have nm3 := nm1.ext g3.hw E3 (by rw [World.putObj_size]; exact lt1)
          show ∃ v w', (Instr.endRound l0 none).run P w3 = .ok v w' ∧ _
          refine ⟨_, _, run_endRound none rec3, ?_⟩
          show ∃ v' μ', _
          have hk4 : ∀ q, q ≠ l0 → (w3.putObj l0 (.loop ⟨.ready, none, fn0, tmps0, params0, as0, bd0, df0⟩)).heap[q]? = w3.heap[q]? := fun q hq => World.putObj_heap_other hq
          refine ⟨.bool true, μ3, rfl, .flat rfl, g3.hw, g3.hr.off nm3 World.putObj_size hk4, ?_⟩
          have E13 : Ext μ1 H2 w1 μ3 H' (w3.putObj l0 (.loop ⟨.ready, none, fn0, tmps0, params0, as0, bd0, df0⟩)) := by
            refine ⟨E3.next, E3.mu, E3.back, E3.unm, fun q hq hno => ?_, fun b r d lim x1 x2 x3 => ?_, ?_, E3.os, E3.tape, E3.output⟩
            · by_cases e : q = l0
              · subst e; rw [World.putObj_heap_same lt3]; exact rec1.symm
              · rw [hk4 q e, E3.keep q (by rw [World.putObj_size]; exact hq) hno, hk2 q e]
            · have := E3.fresh b r d lim x1 x2 x3
              rwa [World.putObj_size] at this
            · have := E3.size
              rw [World.putObj_size] at this ⊢
              exact this
          exact E1.trans g1.hw E13
        · cases h
      · cases h
    · cases h
  · cases h

/-- A loop over a function. -/
theorem rangeA_ok {P : Program} (hP : NoNum P) {ih : Env → Bool → Eval} (hs : ∀ env inR, SoundC P env inR (ih env inR)) {env : Env} {fb : Nat} {μ : Mu} {base : Nat} {H H' : Heap} {w : World} {tm tm' : Tr Value} {nt : Nat} {a : Act} {g : Operand} {ps : Array Tmp} {assign body : Code} {r : Ex}
    (G : Good env fb μ base H w tm nt a) (h : rangeA P ih env g ps assign body tm nt H = some (r, tm', H')) : (Code.rangeFunc g ps assign body).wpIn (FR none) 0 P (Left env fb μ base H w r tm' nt H') a w := by
  obtain ⟨nx, bl⟩ := H
  unfold rangeA at h
  dsimp only at h
  split at h
  · rename_i k first captured hg
    split at h
    · rename_i v0 H2 hcall
      cases h
      obtain ⟨f1, c1, hef, hL1, hL2⟩ := fn_inv (ev_eq G.ht hg)
      refine wpIn_rangeFunc (F := FR none) (fun fn _ => ?_)
      -- the record
      let rec0 : Loop := { state := .ready, pending := none, fn := fn, tmps := a.tmps, params := ps, assign := assign, body := body, defers := w.heap.size }
      let w1 : World := (w.alloc (.deferred (some []))).alloc (.loop rec0)
      have hs1 : w1.heap.size = w.heap.size + 2 := by show ((w.alloc _).alloc _).heap.size = _; simp
      have hold : ∀ q, q < w.heap.size → w1.heap[q]? = w.heap[q]? := fun q hq => (heap_alloc_old _ _ q (by simp; omega)).trans (heap_alloc_old w _ q hq)
      have hat1 : w1.heap[w.heap.size + 1]? = some (.loop rec0) := by
        have := World.alloc_heap_new (w.alloc (.deferred (some []))) (.loop rec0)
        rwa [World.size_alloc] at this
      have hat0 : w1.heap[w.heap.size]? = some (.deferred (some [])) := (heap_alloc_old _ _ _ (by simp)).trans (World.alloc_heap_new w _)
      let l : Nat := w.heap.size + 1
      let μ1 : Mu := upd μ nx (l, 0, 0)
      let H1 : Heap := ⟨nx + 1, bl⟩
      have hnx : μ nx = none := G.fr nx (Nat.le_refl _)
      have hup : ∀ b x, μ b = some x → μ1 b = some x := by
        intro b x hx; show upd μ nx _ b = _; unfold upd; rw [if_neg (fun e => by rw [e, hnx] at hx; cases hx)]; exact hx
      have hmo : ∀ b, b ≠ nx → μ1 b = μ b := fun b hb => by show upd μ nx _ b = _; unfold upd; rw [if_neg hb]
      have hmn : μ1 nx = some (l, 0, 0) := by show upd μ nx _ nx = _; unfold upd; rw [if_pos rfl]
      have hdom : ∀ b B, bl.get b = some B → b ≠ nx := fun b B hb e => by have := G.hw.dom b B hb; dsimp only at this; omega
      have hw1 : HW H1 := ⟨fun b B hb => Nat.lt_succ_of_lt (G.hw.dom b B hb), fun b B hb => Nat.lt_succ_of_lt (G.hw.chlt b B hb), G.hw.anc, G.hw.uniq, fun b B x hb hx => Nat.lt_succ_of_lt (G.hw.ancdom b B x hb hx), G.hw.ancs⟩
      have hr1 : HR μ1 base H1 w1 := by
        have hc : ∀ q i, q < w.heap.size → w1.cell? ⟨q, i, none⟩ = w.cell? ⟨q, i, none⟩ := fun q i hq => by simp [World.cell?, hold q hq]
        have hfz : ∀ q i, q < w.heap.size → w1.fro ⟨q, i, none⟩ = w.fro ⟨q, i, none⟩ := fun q i hq => by simp [World.fro, hold q hq]
        have hr := G.hr
        refine ⟨fun b B q d lim hb hm => ?_, fun b B q d lim i hb hm hi => ?_, fun b B q d lim b' B' d' lim' hb hm hb' hm' => ?_, fun b B q d lim hb hm x hx => ?_, fun b B x X q d lim d' lim' hb hst hx hX hp hm hm' => ?_⟩
        · rw [hmo b (hdom b B hb)] at hm
          obtain ⟨g1, g2, g3, g4⟩ := hr.live b B q d lim hb hm
          exact ⟨g1, by omega, g3, fun i hi => by rw [hc q i g2, hfz q i g2]; exact g4 i hi⟩
        · rw [hmo b (hdom b B hb)] at hm
          obtain ⟨g1, v, g2, g3⟩ := hr.cell b B q d lim i hb hm hi
          exact ⟨g1, v, by rw [hc q _ (hr.live b B q d lim hb hm).2.1]; exact g2, g3.mono hup⟩
        · rw [hmo b (hdom b B hb)] at hm
          rw [hmo b' (hdom b' B' hb')] at hm'
          exact hr.chain b B q d lim b' B' d' lim' hb hm hb' hm'
        · rw [hmo b (hdom b B hb)] at hm
          obtain ⟨y, hy⟩ := hr.ancm b B q d lim hb hm x hx
          exact ⟨y, hup x y hy⟩
        · rw [hmo b (hdom b B hb)] at hm
          rw [hmo x (hdom x X hX)] at hm'
          exact hr.below b B x X q d lim d' lim' hb hst hx hX hp hm hm'
      have hf1 : Fresh μ1 H1 := fun b hb => by
        have hb' : nx + 1 ≤ b := hb
        rw [hmo b (by omega)]; exact G.fr b (by show nx ≤ b; omega)
      have E1 : Ext μ ⟨nx, bl⟩ w μ1 H1 w1 := by
        refine ⟨Nat.le_succ _, fun b hb => hmo b ?_, fun b B' _ h => ⟨B', h⟩, fun _ _ _ => rfl, fun q hq _ => hold q hq, fun b q d lim h1 h2 hm => ?_, by omega, rfl, rfl, rfl⟩
        · rcases hb with hb | hb
          · exact Nat.ne_of_lt hb
          · have : nx + 1 ≤ b := hb
            omega
        · have e : b = nx := by
            have h1' : nx ≤ b := h1
            have h2' : b < nx + 1 := h2
            omega
          rw [e, hmn] at hm
          cases hm
          exact .inl (Nat.le_succ _)
      have hnm : ∀ q, w.heap.size ≤ q → NoMap μ1 H1 q := by
        intro q hq b B d lim hb hm
        rw [hmo b (hdom b B hb)] at hm
        have := (G.hr.live b B q d lim hb hm).2.1
        omega
      have hen1 : EnvOk (⟨nx, ps.toList, assign, body, tm, nt⟩ :: env) μ1 H1 w1 := by
        have h0 := G.sd.env.ext hw1 G.fr E1
        refine ⟨fun e he => ?_, fun e he e' he' l' h1 h2 => ?_⟩
        · rcases List.mem_cons.1 he with rfl | he
          · exact ⟨l, rec0, Nat.lt_succ_self _, hmn, by rw [hs1]; omega, hnm l (Nat.le_succ _), hat1, rfl, rfl, rfl, rfl, rfl, G.ht.mono hup, G.nt⟩
          · exact h0.1 e he
        · have hlt : ∀ e ∈ env, ∀ l', μ1 e.b = some (l', 0, 0) → l' ≠ l := by
            intro e he l' hm
            obtain ⟨l2, r2, hR⟩ := G.sd.env.1 e he
            have := hR.lt
            rw [hup _ _ hR.m] at hm
            cases hm
            show _ ≠ w.heap.size + 1
            omega
          rcases List.mem_cons.1 he with rfl | he <;> rcases List.mem_cons.1 he' with rfl | he'
          · rfl
          · dsimp only at h1
            rw [hmn] at h1
            cases h1
            exact absurd rfl (hlt e' he' _ h2)
          · dsimp only at h2
            rw [hmn] at h2
            cases h2
            exact absurd rfl (hlt e (by assumption) _ h1)
          · exact h0.2 e (by assumption) e' he' l' h1 h2
      have hLy : LR μ1 (first.toList ++ [.func (.yield nx) ⟨[]⟩ ⟨[]⟩] ++ captured.toList) (f1 ++ [.func (.yield l) ⟨[]⟩ ⟨[]⟩] ++ c1) :=
        ((hL1.mono hup).append (LR.nil.cons (.yl hmn))).append (hL2.mono hup)
      have hb1 : base ≤ w1.heap.size := by have := G.hb; omega
      obtain ⟨⟨fn', hfn', hbody'⟩, hcalls⟩ := callA_run (hs (⟨nx, ps.toList, assign, body, tm, nt⟩ :: env) false) hw1 hr1 hb1 hf1 hen1 hcall hLy
      have hnn := hP k fn' hfn' hbody'
      have hnone : fn'.body.isNone = false := by cases hb : fn'.body with
        | none => rw [hb] at hbody'; cases hbody'
        | some _ => rfl
      refine ⟨l, [mark w.heap.size], w1, { target := .fn (.func k) ⟨c1⟩, args := ⟨f1 ++ [.func (.yield l) ⟨[]⟩ ⟨[]⟩]⟩ }, w1, k, ⟨f1 ++ [.func (.yield l) ⟨[]⟩ ⟨[]⟩] ++ c1⟩, w1, run_enterLoop_outer _ _ _ _ _, ?_, fun _ _ => trivial, ?_, fun hh => absurd hh Bool.false_ne_true, ?_⟩
      · simp only [resolve, rangeCall, hef, Deferred.ofValue, Sem.run_bind, Sem.run_pure, Result.andThen_ok]
        simp [Act.eval]
      · simp only [invoke, callFunc, Sem.run_bind, Sem.run_pure, Result.andThen_ok, run_program, hfn', hnn, hnone]
        simp
      · refine callsIn_FR.2 (hcalls.mono ?_)
        rintro e w2 ⟨v', μ2, rfl, hV, hw2, hr2, E2⟩
        have lt1 : l < w1.heap.size := by rw [hs1]; exact Nat.lt_succ_self _
        have lt0 : w.heap.size < w1.heap.size := by omega
        have hnml := hnm l (Nat.le_succ _)
        have hnm0 := hnm w.heap.size (Nat.le_refl _)
        have rec2 : w2.heap[l]? = some (.loop rec0) := by rw [E2.keep l lt1 hnml]; exact hat1
        have def2 : w2.heap[w.heap.size]? = some (.deferred (some [])) := by rw [E2.keep _ lt0 hnm0]; exact hat0
        show ∃ jump w4, (Instr.endLoop l).run P w2 = .ok jump w4 ∧ _
        refine ⟨none, _, run_endLoop rec2 (fun h => by cases h), ?_⟩
        have hk : ∀ q, q ≠ l → (w2.putObj l (.loop { rec0 with state := .exhausted })).heap[q]? = w2.heap[q]? := fun q hq => World.putObj_heap_other hq
        have E12 := E1.trans hw1 E2
        have E3 : Ext μ ⟨nx, bl⟩ w μ2 H' (w2.putObj l (.loop { rec0 with state := .exhausted })) := E12.off (r := l) (Nat.le_succ _) World.putObj_size hk rfl rfl rfl
        have hf2 : Fresh μ2 H' := hf1.ext E2
        refine ⟨rfl, μ2, ⟨hw2, hr2.off (hnml.ext hw2 E2 lt1) World.putObj_size hk, ?_, ?_, hf2, G.nt, ?_⟩, E3⟩
        · have := E12.size
          have := G.hb
          rw [World.putObj_size]
          omega
        · exact fun t u hu => G.ht.mono (E12.le (G.fr.free _)) t u hu
        · have hsd := G.sd.ext hw2 G.fr E3
          refine ⟨hsd.env, ?_, hsd.fb⟩
          obtain ⟨rs, m1, m2, m3⟩ := hsd.marks
          obtain ⟨rs0, n1, n2, n3⟩ := G.sd.marks
          have hrs : rs = rs0 := by
            have : rs.map mark = rs0.map mark := by rw [← m1, ← n1]
            have hinj : ∀ (xs ys : List Nat), xs.map mark = ys.map mark → xs = ys := by
              intro xs
              induction xs with
              | nil => intro ys h; cases ys with
                | nil => rfl
                | cons y ys => cases h
              | cons x xs ih => intro ys h; cases ys with
                | nil => cases h
                | cons y ys =>
                  simp only [List.map_cons, List.cons.injEq, mark, Deferred.mk.injEq, and_true] at h
                  obtain ⟨h1, h2⟩ := h
                  cases h1
                  rw [ih ys h2]
            exact hinj _ _ this
          subst hrs
          refine ⟨w.heap.size :: rs, by rw [List.map_cons, ← n1]; rfl, List.nodup_cons.2 ⟨fun hm => ?_, m2⟩, fun q hq => ?_⟩
          · have := (n3 _ hm).2.1; omega
          · rcases List.mem_cons.1 hq with rfl | hq
            · refine ⟨G.sd.fb, ?_, ?_, ?_⟩
              · rw [World.putObj_size]; have := E2.size; omega
              · exact hnm0.ext hw2 E2 lt0
              · rw [hk _ (by show w.heap.size ≠ w.heap.size + 1; omega)]; exact def2
            · exact m3 q hq
    · cases h
  · cases h

structure SoundN (P : Program) (n : Nat) (ih : Env → Bool → Eval) : Prop where
  all : ∀ env inR, SoundC P env inR (ih env inR)
  loops : ∀ (env : Env) (inR : Bool) (b : Code) (tm : Tr Value) (nt : Nat) (H : Heap) (r : Ex) (tm' : Tr Value) (H' : Heap), ih env inR (.loop b) tm nt H = some (r, tm', H') →
    ∀ (rd : Option Nat), rd.isSome = inR → ∀ (a : Act) (w : World) (μ : Mu) (base fb : Nat), Good env fb μ base H w tm nt a → Code.roundsIn (FR rd) 0 P b (Left env fb μ base H w r tm' nt H') n a w

theorem loop_sound {P : Program} {n : Nat} {nat : FuncId → List Value → Option Value} {drw : Drw} {ih : Env → Bool → Eval} (hs : SoundN P n ih) {env : Env} {inR : Bool} {b : Code} {tm : Tr Value} {nt : Nat} {H : Heap} {r : Ex} {tm' : Tr Value} {H' : Heap} (h : exF P nat drw ih env inR (ih env inR) (.loop b) tm nt H = some (r, tm', H'))
    {rd : Option Nat} (hrd : rd.isSome = inR) {a : Act} {w : World} {μ : Mu} {base fb : Nat} (g : Good env fb μ base H w tm nt a) : Code.roundsIn (FR rd) 0 P b (Left env fb μ base H w r tm' nt H') (n + 1) a w := by
  have h' : (match ih env inR b tm nt H with
    | some (.normal, tm', H') => ih env inR (.loop b) tm' nt H'
    | r => r) = some (r, tm', H') := h
  clear h
  rw [roundsIn_succ]
  split at h'
  · rename_i tm1 H1 h1
    refine wpIn_mono (hs.all env inR b tm nt H _ _ _ h1 rd hrd a w μ base fb g) ?_
    rintro e a' w' ⟨rfl, μ', g', e'⟩
    refine roundsIn_mono ?_ n a' w' (hs.loops env inR b tm1 nt H1 _ _ _ h' rd hrd a' w' μ' base fb g')
    rintro e2 a2 w2 ⟨rfl, μ2, g2, e2⟩
    exact ⟨rfl, μ2, g2, e'.trans g'.hw e2⟩
  · rename_i hne
    refine wpIn_mono (hs.all env inR b tm nt H _ _ _ h' rd hrd a w μ base fb g) ?_
    rintro e a' w' ⟨rfl, rest⟩
    cases r with
    | normal => exact absurd h' (hne tm' H')
    | exit i => exact ⟨rfl, rest⟩
    | ret => exact ⟨rfl, rest⟩

theorem exF_sound {P : Program} (hP : NoNum P) {nat : FuncId → List Value → Option Value} {drw : Drw} (hn : NatOk P nat) (hd : DrwOk P drw) {n : Nat} {ih : Env → Bool → Eval} (hsn : SoundN P n ih) : SoundN P (n + 1) (fun env inR => exF P nat drw ih env inR (ih env inR)) := by
  refine ⟨?_, fun env inR b tm nt H r tm' H' h rd hrd a w μ base fb g => loop_sound hsn h hrd g⟩
  intro env inR c tm nt H r tm' H' h rd hrd a w μ base fb g
  have hs := hsn.all
  have hcx : CtxOk P env (ctxA nat ih env) := ⟨hs env false, yieldA_ok hs env, hn⟩
  have hwhole := h
  unfold exF at h
  split at h
  · cases h; exact wpIn_skip ⟨rfl, μ, g, Ext.refl _ _ _⟩
  · cases h; exact wpIn_label ⟨rfl, μ, g, Ext.refl _ _ _⟩
  · cases h; exact wpIn_ret ⟨rfl, μ, g, Ext.refl _ _ _⟩
  · cases h; exact wpIn_exit ⟨rfl, μ, g, Ext.refl _ _ _⟩
  · -- seq
    rename_i x y
    split at h
    · rename_i tm1 H1 h1
      refine wpIn_seq (wpIn_mono (hs env inR x tm nt H _ _ _ h1 rd hrd a w μ base fb g) ?_)
      rintro e a' w' ⟨rfl, μ', g', e'⟩
      show y.wpIn (FR rd) 0 P _ a' w'
      refine wpIn_mono (hs env inR y tm1 nt H1 _ _ _ h rd hrd a' w' μ' base fb g') ?_
      rintro e2 a2 w2 ⟨rfl, μ2, g2, e2⟩
      exact ⟨rfl, μ2, g2, e'.trans g'.hw e2⟩
    · rename_i hne
      refine wpIn_seq (wpIn_mono (hs env inR x tm nt H _ _ _ h rd hrd a w μ base fb g) ?_)
      rintro e a' w' ⟨rfl, rest⟩
      cases r with
      | normal => exact absurd h (hne tm' H')
      | exit i => exact ⟨rfl, rest⟩
      | ret => exact ⟨rfl, rest⟩
  · -- cond
    rename_i o x y
    split at h
    · rename_i hc
      exact wpIn_cond_true (bool_inv (ev_eq g.ht hc)) (hs env inR x tm nt H _ _ _ h rd hrd a w μ base fb g)
    · rename_i hc
      exact wpIn_cond_false (bool_inv (ev_eq g.ht hc)) (hs env inR y tm nt H _ _ _ h rd hrd a w μ base fb g)
    · cases h
  · -- block
    rename_i id b
    split at h
    · rename_i j tm1 H1 h1
      refine wpIn_block (wpIn_mono (hs env inR b tm nt H _ _ _ h1 rd hrd a w μ base fb g) ?_)
      rintro e a' w' ⟨rfl, rest⟩
      cases hj : Nat.beq j id <;> rw [hj] at h <;> simp only [cond_true, cond_false] at h
      · have hne : ¬ j = id := Nat.ne_of_beq_eq_false hj
        cases h
        show (if j = id then _ else _)
        rw [if_neg hne]
        exact ⟨rfl, rest⟩
      · have he : j = id := Nat.eq_of_beq_eq_true hj
        cases h
        show (if j = id then _ else _)
        rw [if_pos he]
        exact ⟨rfl, rest⟩
    · rename_i hne
      refine wpIn_block (wpIn_mono (hs env inR b tm nt H _ _ _ h rd hrd a w μ base fb g) ?_)
      rintro e a' w' ⟨rfl, rest⟩
      cases r with
      | normal => exact ⟨rfl, rest⟩
      | exit i => exact absurd h (hne i tm' H')
      | ret => exact ⟨rfl, rest⟩
  · -- loop
    rename_i b
    exact wpIn_loop_rounds (n + 1) (loop_sound hsn hwhole hrd g)
  · -- scope
    rename_i b
    refine wpIn_scope_straight (wpIn_mono (hs env inR b tm nt H _ _ _ h rd hrd a w μ base fb g) ?_)
    rintro e a' w' ⟨rfl, rest⟩
    cases r with
    | normal => exact ⟨rfl, rest⟩
    | exit i => exact ⟨rfl, rest⟩
    | ret => exact ⟨rfl, rest⟩
  · -- region
    rename_i id ops
    split at h
    · rename_i tm1 H1 h1
      cases h
      refine wpIn_region ?_
      rw [List.range_eq_range']
      have := opsA_wp hP (rd := rd) hcx (ops := ops) (base := base) ops.toList 0 rfl μ H H' w tm tm' a g h1 (Q := Left env fb μ base H w .normal tm' nt H') (fun a' w' μ' g' e' => ⟨rfl, μ', g', e'⟩)
      simpa using this
    · cases h
  · rename_i id ops
    split at h
    · rename_i tm1 H1 h1
      cases h
      exact hd env _ hcx rd id ops nt base fb μ H H' w tm tm' a g h1
    · cases h
  · -- a loop over a function
    split at h
    · cases h
    · cases rd with
      | some l => cases hrd
      | none => exact rangeA_ok hP hs g h
  · cases h

theorem ex_sound {P : Program} (hP : NoNum P) {nat : FuncId → List Value → Option Value} {drw : Drw} (hn : NatOk P nat) (hd : DrwOk P drw) : ∀ n, SoundN P n (ex P nat drw n) := by
  intro n
  induction n with
  | zero => exact ⟨fun env inR c tm nt H r tm' H' h => (by cases h), fun env inR b tm nt H r tm' H' h => (by cases h)⟩
  | succ n ih => exact exF_sound hP hn hd ih

end Go.Proofs.YtkmhbfgkhalaoaaGreatDoor.LM
/- Closed calls: what is checked of a program, once; the bytes' two functions. -/

set_option linter.unusedVariables false
set_option linter.unusedSimpArgs false
set_option linter.unusedSectionVars false
namespace Go.Proofs.YtkmhbfgkhalaoaaGreatDoor.LM
open Go Go.RowKit

/-! ### The two functions of bytes -/
theorem firstB_eq (c : Nat) (hc : c < 256) : ∀ (l : List UInt8) (i : Nat), (match firstB c l i with | some k => (Int.ofNat k) | none => (-1 : Int)) = if Lib.indexByte l c.toUInt8 = -1 then -1 else Lib.indexByte l c.toUInt8 + i := by
  intro l
  induction l with
  | nil => intro i; simp [firstB, Lib.indexByte]
  | cons b r ih =>
    intro i
    have hb : (b == c.toUInt8) = Nat.beq b.toNat c := by
      cases h : Nat.beq b.toNat c
      · have := Nat.ne_of_beq_eq_false h
        simp only [beq_eq_false_iff_ne, ne_eq]
        intro e
        subst e
        exact this (by simp [Nat.toUInt8]; omega)
      · have := Nat.eq_of_beq_eq_true h
        subst this
        simp
    show (match (match Nat.beq b.toNat c with | true => some i | false => firstB c r (Nat.succ i)) with | some k => (Int.ofNat k) | none => (-1 : Int)) = _
    unfold Lib.indexByte
    rw [hb]
    cases h : Nat.beq b.toNat c
    · simp only [Bool.false_eq_true, if_false]
      rw [ih]
      have := Lib.indexByte_ge r c.toUInt8
      by_cases e : Lib.indexByte r c.toUInt8 = -1
      · simp [e]
      · have e' : (Lib.indexByte r c.toUInt8 == -1) = false := by simpa using e
        rw [if_neg e, e']
        simp only [Bool.false_eq_true, if_false]
        rw [if_neg (by omega)]
        omega
    · simp
theorem countB_eq (c : Nat) (hc : c < 256) (l : List UInt8) : countB c l = Lib.countByte l c.toUInt8 := by
  induction l with
  | nil => rfl
  | cons b r ih =>
    have hb : (b == c.toUInt8) = Nat.beq b.toNat c := by
      cases h : Nat.beq b.toNat c
      · have := Nat.ne_of_beq_eq_false h
        simp only [beq_eq_false_iff_ne, ne_eq]
        intro e
        subst e
        exact this (by simp [Nat.toUInt8]; omega)
      · have := Nat.eq_of_beq_eq_true h
        subst this
        simp
    show (match Nat.beq b.toNat c with | true => Nat.succ (countB c r) | false => countB c r) = _
    unfold Lib.countByte
    rw [List.count_cons, hb]
    cases h : Nat.beq b.toNat c
    · simp only [Bool.false_eq_true, if_false]; rw [ih]; rfl
    · simp only [if_true]; rw [ih]; rfl

/-- What must hold of the numbers of the two functions. -/
structure NatsOk (P : Program) (ki kc : Nat) : Prop where
  i : ∃ fn, P.funcs[ki]? = some fn ∧ (fn.name == "runtime.NumGoroutine") = false ∧ fn.body.isNone = true ∧ Extern.findNext fn = none ∧ Extern.find fn = some Extern.BytealgIndexByte.indexByte
  c : ∃ fn, P.funcs[kc]? = some fn ∧ (fn.name == "runtime.NumGoroutine") = false ∧ fn.body.isNone = true ∧ Extern.findNext fn = none ∧ Extern.find fn = some Extern.BytealgCount.count

theorem natA_ok {P : Program} {ki kc : Nat} (h : NatsOk P ki kc) : NatOk P (natA ki kc) := by
  intro k vs v hv
  unfold natA at hv
  split at hv
  · rename_i hk
    have hk := Nat.eq_of_beq_eq_true hk
    subst hk
    split at hv
    · rename_i s c
      cases hc : Nat.blt c 256 <;> rw [hc] at hv <;> simp only [cond_true, cond_false] at hv
      · cases hv
      · have hc' : c < 256 := by rwa [Nat.blt_eq] at hc
        obtain ⟨fn, f1, f2, f3, f4, f5⟩ := h.i
        have key := firstB_eq c hc' s.data.toList 0
        have run : ∀ w, (callFunc k ⟨[.string s, .int .u8 (.ofNat c)]⟩).run P w = .ok (.value (.int .i64 (match firstB c s.data.toList 0 with | some k => (Int.ofNat k) | none => (-1 : Int)))) w := by
          intro w
          rw [run_callFunc_standIn f1 f2 f3 f4 f5]
          have := Lib.run_indexByteString (P := P) s (.ofNat c) w
          rw [this]
          rw [key]
          show Result.ok _ w = _
          have e : (Int.ofNat c).toNat.toUInt8 = c.toUInt8 := rfl
          rw [e]
          congr 2
          split
          · rename_i h; rw [h]
          · simp
        split at hv
        · rename_i i hi
          cases hv
          exact ⟨rfl, rfl, fun w => by rw [run w, hi]⟩
        · rename_i hi
          cases hv
          exact ⟨rfl, rfl, fun w => by rw [run w, hi]; rfl⟩
    · cases hv
  · split at hv
    · rename_i hk
      have hk := Nat.eq_of_beq_eq_true hk
      subst hk
      split at hv
      · rename_i s c
        cases hc : Nat.blt c 256 <;> rw [hc] at hv <;> simp only [cond_true, cond_false] at hv
        · cases hv
        · have hc' : c < 256 := by rwa [Nat.blt_eq] at hc
          obtain ⟨fn, f1, f2, f3, f4, f5⟩ := h.c
          rw [fNat_eq] at hv
          cases hv
          refine ⟨rfl, rfl, fun w => ?_⟩
          rw [run_callFunc_standIn f1 f2 f3 f4 f5, Lib.run_countString (P := P) s (.ofNat c) w, countB_eq c hc']
          rfl
      · cases hv
    · cases hv

/-! ### No function is one that the model answers itself -/
noncomputable def noNumB (P : Program) : Bool := List.rec (motive := fun _ => Bool) true (fun fn _ ih => match fn.name == "runtime.NumGoroutine" with | true => false | false => ih) P.funcs.toList
theorem noNumB_spec {P : Program} (h : noNumB P = true) : NoNum P := by
  have key : ∀ (l : List Func), List.rec (motive := fun _ => Bool) true (fun fn _ ih => match fn.name == "runtime.NumGoroutine" with | true => false | false => ih) l = true → ∀ fn ∈ l, (fn.name == "runtime.NumGoroutine") = false := by
    intro l
    induction l with
    | nil => intro _ fn hf; cases hf
    | cons x r ih =>
      intro h fn hf
      dsimp only at h
      split at h
      · cases h
      · rename_i hx
        rcases List.mem_cons.1 hf with rfl | hf
        · exact hx
        · exact ih h fn hf
  intro k fn hk hb
  exact key _ h fn (by simpa using Array.mem_of_getElem? hk)

/-! ### A closed call -/
noncomputable def run0 (P : Program) (ki kc n : Nat) (f : FuncId) (vs : List Value) : Option (Value × Heap) := callA P (ex P (natA ki kc) (drwA P) n [] false) ⟨0, .nil⟩ f vs
noncomputable def saysTrue (x : Option (Value × Heap)) : Bool := match x with | some (.bool true, _) => true | _ => false

theorem closed_run {P : Program} (hP : noNumB P = true) (hm : P.follows .mixedOrders = true) {ki kc n : Nat} (hn : NatsOk P ki kc) {f : FuncId} {vs : List Value} (hf : flats vs = true) {v : Value} {H' : Heap} (h : run0 P ki kc n f vs = some (v, H')) (w : World) :
    Calls P f ⟨vs⟩ w fun e w' => ∃ v' μ', e = .returned v' ∧ VR μ' v v' ∧ HW H' ∧ HR μ' w.heap.size H' w' ∧ Ext (fun _ => none) ⟨0, .nil⟩ w μ' H' w' := by
  have hN := noNumB_spec hP
  have hs := (ex_sound hN (natA_ok hn) (drwA_ok hN hm) n).all [] false
  have hw : HW ⟨0, .nil⟩ := ⟨fun b B h => (by cases h), fun b B h => (by cases h), fun b B b' B' h => (by cases h), fun b B b' B' h => (by cases h), fun b B x h => (by cases h), fun b B x X h => (by cases h)⟩
  have hr : HR (fun _ => none) w.heap.size ⟨0, .nil⟩ w := ⟨fun b B r d lim h => (by cases h), fun b B r d lim i h => (by cases h), fun b B r d lim b' B' d' lim' h => (by cases h), fun b B r d lim h => (by cases h), fun b B x X r d lim d' lim' h => (by cases h)⟩
  exact (callA_run hs hw hr (Nat.le_refl _) (fun _ _ => rfl) EnvOk.nil h (LR.flats hf)).2

theorem closed_true {P : Program} (hP : noNumB P = true) (hm : P.follows .mixedOrders = true) {ki kc n : Nat} (hn : NatsOk P ki kc) {f : FuncId} {vs : List Value} (hf : flats vs = true) (h : saysTrue (run0 P ki kc n f vs) = true) (w : World) :
    Calls P f ⟨vs⟩ w fun e w' => e = .returned (.bool true) ∧ Below w.heap.size w w' := by
  unfold saysTrue at h
  split at h
  · rename_i H' hx
    refine (closed_run hP hm hn hf hx w).mono ?_
    rintro e w' ⟨v', μ', rfl, hV, _, _, hE⟩
    have := bool_inv hV
    subst this
    exact ⟨rfl, ⟨hE.os, hE.tape, hE.output, hE.size, fun k hk => hE.keep k hk (fun b B d lim hb => by cases hb)⟩⟩
  · cases h

end Go.Proofs.YtkmhbfgkhalaoaaGreatDoor.LM
/- The evaluator once more, laid out for the kernel: the same answers, fewer terms. -/

set_option linter.unusedVariables false
set_option linter.unusedSimpArgs false
set_option linter.unusedSectionVars false
namespace Go.Proofs.YtkmhbfgkhalaoaaGreatDoor.LM
open Go Go.RowKit

noncomputable def oB {α β : Type} (x : Option α) (f : α → Option β) : Option β := Option.rec (motive := fun _ => Option β) none f x
theorem oB_some {α β : Type} (a : α) (f : α → Option β) : oB (some a) f = f a := rfl

noncomputable def cstQ (v : Value) : Option Value := Bool.rec (motive := fun _ => Option Value) none (some v) (cst v)
noncomputable def evQ (o : Operand) : Tr Value → Option Value :=
  Operand.rec (motive := fun _ => Tr Value → Option Value) (fun t s => s.get t) (fun v _ => cstQ v) (fun _ _ => none) (fun f _ => some (.func (.func f) #[] #[])) o
theorem evQ_eq (o : Operand) (s : Tr Value) : evQ o s = ev s o := by
  cases o with
  | const v => show cstQ v = (match cst v with | true => some v | false => none); unfold cstQ; cases cst v <;> rfl
  | _ => rfl
noncomputable def asBQ (v : Value) : Option Bool := Value.rec (motive_1 := fun _ => Option Bool) (motive_2 := fun _ => Unit) (motive_3 := fun _ => Unit) (fun b => some b) (fun _ _ => none) (fun _ _ => none) (fun _ _ _ => none) (fun _ => none) (fun _ => none) (fun _ _ _ => none) (fun _ => none) (fun _ => none) (fun _ _ _ _ _ => none) none (fun _ _ _ => none) none (fun _ _ => none) (fun _ _ => none) (fun _ _ => ()) () (fun _ _ _ _ => ()) v
noncomputable def asPQ (v : Value) : Option Addr := Value.rec (motive_1 := fun _ => Option Addr) (motive_2 := fun _ => Unit) (motive_3 := fun _ => Unit) (fun _ => none) (fun _ _ => none) (fun _ _ => none) (fun _ _ _ => none) (fun _ => none) (fun a => a) (fun _ _ _ => none) (fun _ => none) (fun _ => none) (fun _ _ _ _ _ => none) none (fun _ _ _ => none) none (fun _ _ => none) (fun _ _ => none) (fun _ _ => ()) () (fun _ _ _ _ => ()) v

noncomputable def moveQ (x : Operand) (H : Heap) (tm : Tr Value) : Option (Value × Heap) := oB (evQ x tm) fun v => some (v, H)
noncomputable def selQ (b : Bool) : Operand → Operand → Tr Value → Option Value := Bool.rec (motive := fun _ => Operand → Operand → Tr Value → Option Value) (fun _ y tm => evQ y tm) (fun x _ tm => evQ x tm) b
noncomputable def pickQ (c a b : Operand) (H : Heap) (tm : Tr Value) : Option (Value × Heap) := oB (evQ c tm) fun v => oB (asBQ v) fun t => oB (selQ t a b tm) fun v => some (v, H)
noncomputable def nilQ (x : Operand) (H : Heap) (tm : Tr Value) : Option (Value × Heap) := oB (evQ x tm) fun v => oB (asPQ v) fun _ => some (v, H)
noncomputable def getQ (x : Option Value) : Value → Option Value := Option.rec (motive := fun _ => Value → Option Value) (fun z => some z) (fun v _ => some v) x
noncomputable def blkQ (B : Blk) : Nat → Option Value :=
  Blk.rec (motive := fun _ => Nat → Option Value) (fun n z c _ _ _ o => Bool.rec (motive := fun _ => Option Value) none (getQ (c.get o) z) (Nat.blt o n)) B
noncomputable def rd1Q (a : Addr) : Heap → Option Value :=
  Addr.rec (motive := fun _ => Heap → Option Value) (fun b o s => Option.rec (motive := fun _ => Nat → Nat → Heap → Option Value) (fun b o H => oB (H.bl.get b) fun B => blkQ B o) (fun _ _ _ _ => none) s b o) a
theorem rd1Q_eq (a : Addr) (H : Heap) : rd1Q a H = rd1 H a := by
  obtain ⟨b, o, s⟩ := a
  obtain ⟨nx, bl⟩ := H
  cases s with
  | some _ => rfl
  | none =>
    show oB (bl.get b) (fun B => blkQ B o) = _
    unfold rd1
    dsimp only
    cases bl.get b with
    | none => rfl
    | some B =>
      obtain ⟨n, z, c, ch, st, an⟩ := B
      show Bool.rec (motive := fun _ => Option Value) none (getQ (c.get o) z) (Nat.blt o n) = bif Nat.blt o n then _ else none
      cases Nat.blt o n
      · rfl
      · show getQ (c.get o) z = _
        cases c.get o <;> rfl
noncomputable def ldQ (x : Option Bool) : Program → Heap → TypeId → Addr → Option Value :=
  Option.rec (motive := fun _ => Program → Heap → TypeId → Addr → Option Value) (fun _ _ _ _ => none) (fun b => Bool.rec (motive := fun _ => Program → Heap → TypeId → Addr → Option Value) (fun _ H _ a => rd1Q a H) (fun P H t a => ldT P H t a) b) x
theorem ldQ_eq (P : Program) (H : Heap) (t : TypeId) (a : Addr) : ldQ (aggP P t) P H t a = ldT P H t a := by
  cases h : aggP P t with
  | none => show none = ldT P H t a; unfold ldT; rw [h]
  | some b =>
    cases b with
    | true => rfl
    | false => show rd1Q a H = _; rw [rd1Q_eq]; unfold ldT; rw [h]
noncomputable def loadQ (t : TypeId) (x : Operand) (P : Program) (H : Heap) (tm : Tr Value) : Option (Value × Heap) := oB (evQ x tm) fun v => oB (asPQ v) fun a => oB (ldQ (aggP P t) P H t a) fun u => some (u, H)

noncomputable def callQ (c : Call) (P : Program) (ih : Ctx) (H : Heap) (tm : Tr Value) : Option (Value × Heap) := sCall P ih H tm c

noncomputable def opQ (o : Op) : Program → Ctx → Heap → Tr Value → Option (Value × Heap) :=
  Op.rec (motive := fun _ => Program → Ctx → Heap → Tr Value → Option (Value × Heap))
    (fun x P ih H tm => moveQ x H tm)
    (fun x P ih H tm => moveQ x H tm)
    (fun c a b P ih H tm => pickQ c a b H tm)
    (fun t P ih H tm => sAlloc P H t)
    (fun t x P ih H tm => sBox P H tm x)
    (fun t ps P ih H tm => sBuild P H tm t ps)
    (fun t n ps P ih H tm => sBuildSlice P H tm t n ps)
    (fun _ _ _ _ _ _ _ _ => none)
    (fun t x P ih H tm => loadQ t x P H tm)
    (fun t x y P ih H tm => sStore P H tm t x y)
    (fun _ _ _ _ _ => none)
    (fun _ _ _ _ _ => none)
    (fun x P ih H tm => nilQ x H tm)
    (fun op t x y yt P ih H tm => sBin P H tm op t x y)
    (fun op t x P ih H tm => sUn P H tm op x)
    (fun s d x P ih H tm => sConv P H tm s d x)
    (fun _ _ _ _ _ _ => none)
    (fun _ _ _ _ _ _ => none)
    (fun fn a b P ih H tm => sFunc P H tm fn a b)
    (fun _ _ _ _ _ _ => none)
    (fun _ _ _ _ _ _ => none)
    (fun t l c P ih H tm => sMake P H tm t l c)
    (fun t x lo hi mx P ih H tm => sSlice P H tm t x lo hi mx)
    (fun t x f P ih H tm => sFieldAddr P H tm t x f)
    (fun t x f P ih H tm => sField P H tm t x f)
    (fun t x i P ih H tm => sIndexAddr P H tm t x i)
    (fun t x i P ih H tm => sIndex P H tm t x i)
    (fun _ _ _ _ _ _ _ _ => none)
    (fun _ _ _ _ _ _ _ _ => none)
    (fun _ _ _ _ _ _ _ => none)
    (fun _ _ _ _ _ _ _ _ => none)
    (fun _ _ _ _ _ _ => none)
    (fun _ _ _ _ _ _ => none)
    (fun _ _ _ _ _ => none)
    (fun _ _ _ _ _ _ _ _ => none)
    (fun x i P ih H tm => sExtract P H tm x i)
    (fun c P ih H tm => callQ c P ih H tm)
    (fun _ _ _ _ _ => none)
    (fun _ _ _ _ _ => none)
    (fun _ _ _ _ _ => none)
    (fun _ _ _ _ _ _ => none)
    (fun _ _ _ _ _ _ _ => none)
    (fun _ _ _ _ _ _ => none) o

theorem moveQ_eq (x : Operand) (H : Heap) (tm : Tr Value) : moveQ x H tm = sMove H tm x := by
  unfold moveQ sMove; rw [evQ_eq]; cases ev tm x <;> rfl
theorem pickQ_eq (P : Program) (c a b : Operand) (H : Heap) (tm : Tr Value) : pickQ c a b H tm = sPick P H tm c a b := by
  unfold pickQ sPick
  rw [evQ_eq]
  cases ev tm c with
  | none => rfl
  | some v =>
    rw [oB_some]
    cases v <;> first | rfl | skip
    case bool b' =>
      show oB (selQ b' a b tm) _ = _
      cases b'
      · show oB (evQ b tm) _ = _
        rw [evQ_eq]; cases ev tm b <;> rfl
      · show oB (evQ a tm) _ = _
        rw [evQ_eq]; cases ev tm a <;> rfl
theorem nilQ_eq (P : Program) (x : Operand) (H : Heap) (tm : Tr Value) : nilQ x H tm = sNil P H tm x := by
  unfold nilQ sNil
  rw [evQ_eq]
  cases ev tm x with
  | none => rfl
  | some v =>
    rw [oB_some]
    cases v <;> first | rfl | skip
    case pointer a => cases a <;> rfl
theorem loadQ_eq (P : Program) (t : TypeId) (x : Operand) (H : Heap) (tm : Tr Value) : loadQ t x P H tm = sLoad P H tm t x := by
  unfold loadQ sLoad
  rw [evQ_eq]
  cases ev tm x with
  | none => rfl
  | some v =>
    rw [oB_some]
    cases v <;> first | rfl | skip
    case pointer a =>
      cases a with
      | none => rfl
      | some a =>
        show oB (ldQ (aggP P t) P H t a) _ = _
        rw [ldQ_eq]
        dsimp only
        cases ldT P H t a <;> rfl

theorem opQ_eq (P : Program) (ih : Ctx) (H : Heap) (tm : Tr Value) (o : Oper) : opQ o.op P ih H tm = opA P ih H tm o := by
  unfold opA
  cases o.op <;> first
    | rfl
    | exact moveQ_eq _ _ _
    | exact pickQ_eq P _ _ _ _ _
    | exact nilQ_eq P _ _ _
    | exact loadQ_eq P _ _ _ _

noncomputable def convKQ (P : Program) (s d : TypeId) : Kind := match P.underlying s, P.underlying d with
    | some .string, some (.slice _) => .makes
    | some (.slice _), _ => .reads
    | _, _ => .pure
noncomputable def callKQ (c : Call) : Kind := match c with
  | ⟨.builtin .len, _, _⟩ => .pure
  | ⟨.builtin .max, _, _⟩ => .pure
  | ⟨.builtin .min, _, _⟩ => .pure
  | _ => .chain
noncomputable def kindQ (o : Op) : Program → Kind :=
  Op.rec (motive := fun _ => Program → Kind)
    (fun _ _ => .pure)
    (fun _ _ => .pure)
    (fun _ _ _ _ => .pure)
    (fun _ _ => .makes)
    (fun _ _ _ => .makes)
    (fun _ _ _ => .pure)
    (fun _ _ _ _ => .makes)
    (fun _ _ _ _ _ => .pure)
    (fun _ _ _ => .reads)
    (fun _ _ _ _ => .chain)
    (fun _ _ => .pure)
    (fun _ _ => .pure)
    (fun _ _ => .pure)
    (fun _ _ _ _ _ _ => .pure)
    (fun _ _ _ _ => .pure)
    (fun s d _ P => convKQ P s d)
    (fun _ _ _ => .pure)
    (fun _ _ _ => .pure)
    (fun _ _ _ _ => .pure)
    (fun _ _ _ => .pure)
    (fun _ _ _ => .pure)
    (fun _ _ _ _ => .makes)
    (fun _ _ _ _ _ _ => .pure)
    (fun _ _ _ _ => .pure)
    (fun _ _ _ _ => .pure)
    (fun _ _ _ _ => .pure)
    (fun _ _ _ _ => .pure)
    (fun _ _ _ _ _ => .pure)
    (fun _ _ _ _ _ => .pure)
    (fun _ _ _ _ => .pure)
    (fun _ _ _ _ _ => .pure)
    (fun _ _ _ => .pure)
    (fun _ _ _ => .pure)
    (fun _ _ => .pure)
    (fun _ _ _ _ _ => .pure)
    (fun _ _ _ => .pure)
    (fun c _ => callKQ c)
    (fun _ _ => .pure)
    (fun _ _ => .pure)
    (fun _ _ => .pure)
    (fun _ _ _ => .pure)
    (fun _ _ _ _ => .pure)
    (fun _ _ _ => .pure) o
theorem kindQ_eq (P : Program) (o : Oper) : kindQ o.op P = kindA P o := by
  unfold kindA
  cases o.op <;> first | rfl | skip
  case call c =>
    obtain ⟨cl, as, ts⟩ := c
    cases cl <;> first | rfl | skip
    case builtin b => cases b <;> rfl

/-! ### Regions -/
structure RX where
  ih : Ctx
  all : List Oper
  nt : Nat
noncomputable def putQ {β : Type} (d : Option Tmp) : Tr Value → Nat → Value → (Tr Value → Option β) → Option β :=
  Option.rec (motive := fun _ => Tr Value → Nat → Value → (Tr Value → Option β) → Option β) (fun tm _ _ f => f tm) (fun t tm nt v f => Bool.rec (motive := fun _ => Option β) none (tm.put t v f) (Nat.blt t nt)) d
theorem putQ_eq {β : Type} (d : Option Tmp) (tm : Tr Value) (nt : Nat) (v : Value) (f : Tr Value → Option β) : putQ d tm nt v f = match putT tm nt d v with | some tm' => f tm' | none => none := by
  cases d with
  | none => rfl
  | some t =>
    show Bool.rec (motive := fun _ => Option β) none (tm.put t v f) (Nat.blt t nt) = _
    unfold putT
    dsimp only
    cases Nat.blt t nt
    · rfl
    · simp only [cond_true]
      rw [Tr.put_eq, Tr.put_eq]
noncomputable def resQ {β : Type} (x : Option (Value × Heap)) (X : RX) (d : Option Tmp) (tm : Tr Value) (f : Tr Value → Heap → Option β) : Option β :=
  oB x fun p => Prod.rec (motive := fun _ => Option β) (fun v H' => putQ d tm X.nt v fun tm' => f tm' H') p
theorem resQ_eq {β : Type} (x : Option (Value × Heap)) (X : RX) (d : Option Tmp) (tm : Tr Value) (f : Tr Value → Heap → Option β) : resQ x X d tm f = match x with | some (v, H') => (match putT tm X.nt d v with | some tm' => f tm' H' | none => none) | none => none := by
  cases x with
  | none => rfl
  | some p =>
    obtain ⟨v, H'⟩ := p
    exact putQ_eq d tm X.nt v fun tm' => f tm' H'
noncomputable def runQ (P : Program) (X : RX) (o : Oper) (f : Tr Value → Heap → Option (Tr Value × Heap)) (tm : Tr Value) (H : Heap) : Option (Tr Value × Heap) := resQ (opQ o.op P X.ih H tm) X o.dst tm f
noncomputable def grdQ (P : Program) (b : Bool) : RX → Oper → (Tr Value → Heap → Option (Tr Value × Heap)) → Tr Value → Heap → Option (Tr Value × Heap) :=
  Bool.rec (motive := fun _ => RX → Oper → (Tr Value → Heap → Option (Tr Value × Heap)) → Tr Value → Heap → Option (Tr Value × Heap)) (fun X o f tm H => putQ o.dst tm X.nt undef fun tm' => f tm' H) (runQ P) b
noncomputable def stepQ (P : Program) (g : Option (Nat × Bool)) : RX → Oper → (Tr Value → Heap → Option (Tr Value × Heap)) → Tr Value → Heap → Option (Tr Value × Heap) :=
  Option.rec (motive := fun _ => RX → Oper → (Tr Value → Heap → Option (Tr Value × Heap)) → Tr Value → Heap → Option (Tr Value × Heap)) (runQ P) (fun _ X o f tm H => oB (wantedA X.all tm o) fun b => grdQ P b X o f tm H) g
theorem stepQ_eq (P : Program) (ih : Ctx) (all : List Oper) (nt : Nat) (o : Oper) (f : Tr Value → Heap → Option (Tr Value × Heap)) (tm : Tr Value) (H : Heap) : stepQ P o.guard ⟨ih, all, nt⟩ o f tm H =
    match wantedA all tm o with
    | some true => match opA P ih H tm o with
      | some (v, H') => match putT tm nt o.dst v with
        | some tm' => f tm' H'
        | none => none
      | none => none
    | some false => match putT tm nt o.dst undef with
      | some tm' => f tm' H
      | none => none
    | none => none := by
  have hrun : runQ P ⟨ih, all, nt⟩ o f tm H = match opA P ih H tm o with
      | some (v, H') => match putT tm nt o.dst v with
        | some tm' => f tm' H'
        | none => none
      | none => none := by
    unfold runQ
    rw [opQ_eq]
    exact resQ_eq _ _ _ _ _
  cases hg : o.guard with
  | none =>
    have hw : wantedA all tm o = some true := by unfold wantedA; rw [hg]
    rw [hw]
    exact hrun
  | some g =>
    show oB (wantedA all tm o) (fun b => grdQ P b ⟨ih, all, nt⟩ o f tm H) = _
    cases wantedA all tm o with
    | none => rfl
    | some b =>
      cases b with
      | true => exact hrun
      | false => exact putQ_eq o.dst tm nt undef fun tm' => f tm' H
noncomputable def opsQ (P : Program) (X : RX) (l : List Oper) : Tr Value → Heap → Option (Tr Value × Heap) :=
  List.rec (motive := fun _ => Tr Value → Heap → Option (Tr Value × Heap)) (fun tm H => some (tm, H)) (fun o _ rest tm H => stepQ P o.guard X o rest tm H) l
theorem opsQ_eq (P : Program) (ih : Ctx) (all : List Oper) (nt : Nat) : ∀ (l : List Oper) (tm : Tr Value) (H : Heap), opsQ P ⟨ih, all, nt⟩ l tm H = opsA P ih all nt l tm H := by
  intro l
  induction l with
  | nil => intro tm H; rfl
  | cons o r ihl =>
    intro tm H
    show stepQ P o.guard ⟨ih, all, nt⟩ o (opsQ P ⟨ih, all, nt⟩ r) tm H = _
    rw [stepQ_eq]
    have : opsQ P ⟨ih, all, nt⟩ r = opsA P ih all nt r := funext fun tm => funext fun H => ihl tm H
    rw [this]
    rfl

/-! ### Regions that draw -/
abbrev CK := List Rd → Tr Value → Heap → Option (List Rd × Tr Value × Heap)
noncomputable def keepQ (k : Kind) : Nat → Oper → Tr Value → Value → List Rd → CK → Tr Value → Heap → Option (List Rd × Tr Value × Heap) :=
  Kind.rec (motive := fun _ => Nat → Oper → Tr Value → Value → List Rd → CK → Tr Value → Heap → Option (List Rd × Tr Value × Heap)) (fun _ _ _ _ W f tm H => f W tm H) (fun i o t0 v W f tm H => f (⟨i, o, t0, v⟩ :: W) tm H) (fun _ _ _ _ W f tm H => f W tm H) (fun _ _ _ _ _ _ _ _ => none) k
noncomputable def chQ (P : Program) (X : RX) (i : Nat) (o : Oper) (f : CK) (W : List Rd) (tm : Tr Value) (H : Heap) : Option (List Rd × Tr Value × Heap) :=
  oB (opQ o.op P X.ih H tm) fun p => Prod.rec (motive := fun _ => Option (List Rd × Tr Value × Heap)) (fun v H' => putQ o.dst tm X.nt v fun tm' => keepQ (kindQ o.op P) i o tm v W f tm' H') p
noncomputable def cgQ (P : Program) (b : Bool) : RX → Nat → Oper → CK → List Rd → Tr Value → Heap → Option (List Rd × Tr Value × Heap) :=
  Bool.rec (motive := fun _ => RX → Nat → Oper → CK → List Rd → Tr Value → Heap → Option (List Rd × Tr Value × Heap)) (fun X _ o f W tm H => putQ o.dst tm X.nt undef fun tm' => f W tm' H) (chQ P) b
noncomputable def csQ (P : Program) (g : Option (Nat × Bool)) : RX → Nat → Oper → CK → List Rd → Tr Value → Heap → Option (List Rd × Tr Value × Heap) :=
  Option.rec (motive := fun _ => RX → Nat → Oper → CK → List Rd → Tr Value → Heap → Option (List Rd × Tr Value × Heap)) (chQ P) (fun _ X i o f W tm H => oB (wantedA X.all tm o) fun b => cgQ P b X i o f W tm H) g
noncomputable def cheapQ (P : Program) (X : RX) (l : List Pl) : CK :=
  List.rec (motive := fun _ => CK) (fun W tm H => some (W, tm, H)) (fun p _ rest W tm H => Prod.rec (motive := fun _ => Option (List Rd × Tr Value × Heap)) (fun i o => csQ P o.guard X i o rest W tm H) p) l
theorem cheapQ_eq (P : Program) (ih : Ctx) (ops : List Oper) (nt : Nat) : ∀ (l : List Pl) (W : List Rd) (tm : Tr Value) (H : Heap), cheapQ P ⟨ih, ops, nt⟩ l W tm H = cheapA P ih ops nt l W tm H := by
  intro l
  induction l with
  | nil => intro W tm H; rfl
  | cons p r ihl =>
    obtain ⟨i, o⟩ := p
    intro W tm H
    have hr : cheapQ P ⟨ih, ops, nt⟩ r = cheapA P ih ops nt r := funext fun W => funext fun tm => funext fun H => ihl W tm H
    show csQ P o.guard ⟨ih, ops, nt⟩ i o (cheapQ P ⟨ih, ops, nt⟩ r) W tm H = _
    rw [hr]
    show _ = (match wantedA ops tm o with
    | some true => match opA P ih H tm o with
      | some (v, H') => match putT tm nt o.dst v with
        | some tm' => match kindA P o with
          | .pure => cheapA P ih ops nt r W tm' H'
          | .makes => cheapA P ih ops nt r W tm' H'
          | .reads => cheapA P ih ops nt r (⟨i, o, tm, v⟩ :: W) tm' H'
          | .chain => none
        | none => none
      | none => none
    | some false => match putT tm nt o.dst undef with
      | some tm' => cheapA P ih ops nt r W tm' H
      | none => none
    | none => none)
    have hrun : chQ P ⟨ih, ops, nt⟩ i o (cheapA P ih ops nt r) W tm H = (match opA P ih H tm o with
      | some (v, H') => match putT tm nt o.dst v with
        | some tm' => match kindA P o with
          | .pure => cheapA P ih ops nt r W tm' H'
          | .makes => cheapA P ih ops nt r W tm' H'
          | .reads => cheapA P ih ops nt r (⟨i, o, tm, v⟩ :: W) tm' H'
          | .chain => none
        | none => none
      | none => none) := by
      unfold chQ
      rw [opQ_eq]
      cases opA P ih H tm o with
      | none => rfl
      | some p =>
        obtain ⟨v, H'⟩ := p
        show putQ o.dst tm nt v (fun tm' => keepQ (kindQ o.op P) i o tm v W (cheapA P ih ops nt r) tm' H') = _
        rw [putQ_eq, kindQ_eq]
        dsimp only
        cases putT tm nt o.dst v with
        | none => rfl
        | some tm' => cases kindA P o <;> rfl
    cases hg : o.guard with
    | none =>
      have hw : wantedA ops tm o = some true := by unfold wantedA; rw [hg]
      rw [hw]
      exact hrun
    | some g =>
      show oB (wantedA ops tm o) (fun b => cgQ P b ⟨ih, ops, nt⟩ i o (cheapA P ih ops nt r) W tm H) = _
      cases wantedA ops tm o with
      | none => rfl
      | some b =>
        cases b with
        | true => exact hrun
        | false => exact putQ_eq o.dst tm nt undef fun tm' => cheapA P ih ops nt r W tm' H

noncomputable def restQ (P : Program) (X : RX) (l : List Stage) : List Rd → Tr Value → Heap → Option (Tr Value × Heap) :=
  List.rec (motive := fun _ => List Rd → Tr Value → Heap → Option (Tr Value × Heap)) (fun _ tm H => some (tm, H)) (fun s _ rest W tm H =>
    match wantedA X.all tm s.o with
    | some true => match opQ s.o.op P X.ih H tm with
      | some (v, H') => match putT tm X.nt s.o.dst v with
        | some tm' => match again P X.ih H' s.R W with
          | some W' => match cheapQ P X s.cheap W' tm' H' with
            | some (W2, tm2, H2) => rest W2 tm2 H2
            | none => none
          | none => none
        | none => none
      | none => none
    | some false => match putT tm X.nt s.o.dst undef with
      | some tm' => match cheapQ P X s.cheap W tm' H with
        | some (W2, tm2, H2) => rest W2 tm2 H2
        | none => none
      | none => none
    | none => none) l
theorem restQ_eq (P : Program) (ih : Ctx) (ops : List Oper) (nt : Nat) : ∀ (l : List Stage) (W : List Rd) (tm : Tr Value) (H : Heap), restQ P ⟨ih, ops, nt⟩ l W tm H = restA P ih ops nt l W tm H := by
  intro l
  induction l with
  | nil => intro W tm H; rfl
  | cons s r ihl =>
    intro W tm H
    have hr : restQ P ⟨ih, ops, nt⟩ r = restA P ih ops nt r := funext fun W => funext fun tm => funext fun H => ihl W tm H
    have hc : cheapQ P ⟨ih, ops, nt⟩ s.cheap = cheapA P ih ops nt s.cheap := funext fun W => funext fun tm => funext fun H => cheapQ_eq P ih ops nt s.cheap W tm H
    show (match wantedA ops tm s.o with
    | some true => match opQ s.o.op P ih H tm with
      | some (v, H') => match putT tm nt s.o.dst v with
        | some tm' => match again P ih H' s.R W with
          | some W' => match cheapQ P ⟨ih, ops, nt⟩ s.cheap W' tm' H' with
            | some (W2, tm2, H2) => restQ P ⟨ih, ops, nt⟩ r W2 tm2 H2
            | none => none
          | none => none
        | none => none
      | none => none
    | some false => match putT tm nt s.o.dst undef with
      | some tm' => match cheapQ P ⟨ih, ops, nt⟩ s.cheap W tm' H with
        | some (W2, tm2, H2) => restQ P ⟨ih, ops, nt⟩ r W2 tm2 H2
        | none => none
      | none => none
    | none => none) = _
    rw [hr, hc, opQ_eq]
    rfl
noncomputable def drwQ (P : Program) : Drw := fun ih ops nt tm H =>
  match planA ops with
  | some ⟨c0, rest⟩ => match cheapQ P ⟨ih, ops, nt⟩ c0 [] tm H with
    | some (W, tm', H') => restQ P ⟨ih, ops, nt⟩ rest W tm' H'
    | none => none
  | none => none
theorem drwQ_eq (P : Program) : drwQ P = drwA P := by
  funext ih ops nt tm H
  unfold drwQ drwA
  cases planA ops with
  | none => rfl
  | some p =>
    obtain ⟨c0, rest⟩ := p
    dsimp only
    rw [cheapQ_eq]
    cases cheapA P ih ops nt c0 [] tm H with
    | none => rfl
    | some x => obtain ⟨W, tm', H'⟩ := x; exact restQ_eq P ih ops nt rest W tm' H'

/-! ### Code -/
structure CX where
  nat : FuncId → List Value → Option Value
  drw : Drw
  all : Env → Bool → Eval
  env : Env
  inR : Bool
  ih : Eval
abbrev EvR := Option (Ex × Tr Value × Heap)
noncomputable def seqQ (x : EvR) (ih : Eval) (b : Code) (nt : Nat) : EvR :=
  oB x fun p => Prod.rec (motive := fun _ => EvR) (fun e y => Ex.rec (motive := fun _ => Tr Value × Heap → Eval → Code → Nat → EvR) (fun y ih b nt => Prod.rec (motive := fun _ => EvR) (fun tm H => ih b tm nt H) y) (fun i y _ _ _ => some (.exit i, y)) (fun y _ _ _ => some (.ret, y)) e y ih b nt) p
theorem seqQ_eq (x : EvR) (ih : Eval) (b : Code) (nt : Nat) : seqQ x ih b nt = match x with
    | some (.normal, tm', H') => ih b tm' nt H'
    | r => r := by
  cases x with
  | none => rfl
  | some p => obtain ⟨e, tm, H⟩ := p; cases e <;> rfl
noncomputable def blockQ (x : EvR) (id : Nat) : EvR :=
  oB x fun p => Prod.rec (motive := fun _ => EvR) (fun e y => Ex.rec (motive := fun _ => Tr Value × Heap → Nat → EvR) (fun y _ => some (.normal, y)) (fun j y id => Bool.rec (motive := fun _ => EvR) (some (.exit j, y)) (some (.normal, y)) (Nat.beq j id)) (fun y _ => some (.ret, y)) e y id) p
theorem blockQ_eq (x : EvR) (id : Nat) : blockQ x id = match x with
    | some (.exit j, tm', H') => bif Nat.beq j id then some (.normal, tm', H') else some (.exit j, tm', H')
    | r => r := by
  cases x with
  | none => rfl
  | some p =>
    obtain ⟨e, tm, H⟩ := p
    cases e with
    | exit j => show Bool.rec (motive := fun _ => EvR) _ _ (Nat.beq j id) = _; dsimp only; cases Nat.beq j id <;> rfl
    | _ => rfl
noncomputable def condQ (b : Bool) : Eval → Code → Code → Tr Value → Nat → Heap → EvR :=
  Bool.rec (motive := fun _ => Eval → Code → Code → Tr Value → Nat → Heap → EvR) (fun ih _ y tm nt H => ih y tm nt H) (fun ih x _ tm nt H => ih x tm nt H) b
noncomputable def norQ (x : Option (Tr Value × Heap)) : EvR := oB x fun y => some (.normal, y)
noncomputable def rgQ (P : Program) (d : Bool) : Array Oper → CX → Tr Value → Nat → Heap → EvR :=
  Bool.rec (motive := fun _ => Array Oper → CX → Tr Value → Nat → Heap → EvR) (fun ops X tm nt H => norQ (opsQ P ⟨ctxA X.nat X.all X.env, ops.toList, nt⟩ ops.toList tm H)) (fun ops X tm nt H => norQ (X.drw (ctxA X.nat X.all X.env) ops.toList nt tm H)) d
noncomputable def codeQ (P : Program) (c : Code) : CX → Tr Value → Nat → Heap → EvR :=
  Code.rec (motive := fun _ => CX → Tr Value → Nat → Heap → EvR)
    (fun _ tm _ H => some (.normal, tm, H))
    (fun _ ops d => rgQ P d ops)
    (fun a b _ _ X tm nt H => seqQ (X.ih a tm nt H) X.ih b nt)
    (fun o a b _ _ X tm nt H => oB (evQ o tm) fun v => oB (asBQ v) fun t => condQ t X.ih a b tm nt H)
    (fun id b _ X tm nt H => blockQ (X.ih b tm nt H) id)
    (fun b _ X tm nt H => seqQ (X.ih b tm nt H) X.ih (.loop b) nt)
    (fun g ps assign body _ _ X tm nt H => exF P X.nat X.drw X.all X.env X.inR X.ih (.rangeFunc g ps assign body) tm nt H)
    (fun id _ tm _ H => some (.exit id, tm, H))
    (fun b _ X tm nt H => X.ih b tm nt H)
    (fun _ _ tm _ H => some (.normal, tm, H))
    (fun _ _ _ _ _ => none)
    (fun _ tm _ H => some (.ret, tm, H))
    (fun _ _ _ _ _ => none) c
theorem codeQ_eq (P : Program) (nat : FuncId → List Value → Option Value) (drw : Drw) (all : Env → Bool → Eval) (env : Env) (inR : Bool) (ih : Eval) (c : Code) (tm : Tr Value) (nt : Nat) (H : Heap) :
    codeQ P c ⟨nat, drw, all, env, inR, ih⟩ tm nt H = exF P nat drw all env inR ih c tm nt H := by
  cases c with
  | seq a b => exact seqQ_eq _ _ _ _
  | block id b => exact blockQ_eq _ _
  | loop b => exact seqQ_eq _ _ _ _
  | cond o a b =>
    show oB (evQ o tm) (fun v => oB (asBQ v) fun t => condQ t ih a b tm nt H) = (match ev tm o with
    | some (.bool true) => ih a tm nt H
    | some (.bool false) => ih b tm nt H
    | _ => none)
    rw [evQ_eq]
    cases ev tm o with
    | none => rfl
    | some v =>
      cases v <;> first | rfl | skip
      case bool b' => cases b' <;> rfl
  | region id ops d =>
    cases d with
    | false =>
      show norQ (opsQ P ⟨ctxA nat all env, ops.toList, nt⟩ ops.toList tm H) = (match opsA P (ctxA nat all env) ops.toList nt ops.toList tm H with
    | some (tm', H') => some (.normal, tm', H')
    | none => none)
      rw [opsQ_eq]
      cases opsA P (ctxA nat all env) ops.toList nt ops.toList tm H <;> rfl
    | true =>
      show norQ (drw (ctxA nat all env) ops.toList nt tm H) = (match drw (ctxA nat all env) ops.toList nt tm H with
    | some (tm', H') => some (.normal, tm', H')
    | none => none)
      cases drw (ctxA nat all env) ops.toList nt tm H <;> rfl
  | _ => rfl
noncomputable def exQ (P : Program) (nat : FuncId → List Value → Option Value) (drw : Drw) (n : Nat) : Env → Bool → Eval :=
  Nat.rec (motive := fun _ => Env → Bool → Eval) (fun _ _ _ _ _ _ => none) (fun _ ih env inR c tm nt H => codeQ P c ⟨nat, drw, ih, env, inR, ih env inR⟩ tm nt H) n
theorem exQ_eq (P : Program) (nat : FuncId → List Value → Option Value) (drw : Drw) : ∀ n, exQ P nat drw n = ex P nat drw n := by
  intro n
  induction n with
  | zero => rfl
  | succ n ih =>
    have e : exQ P nat drw (n + 1) = fun env inR c tm nt H => codeQ P c ⟨nat, drw, exQ P nat drw n, env, inR, exQ P nat drw n env inR⟩ tm nt H := rfl
    rw [e, ih]
    funext env inR c tm nt H
    exact codeQ_eq P nat drw _ env inR _ c tm nt H

noncomputable def runQ0 (P : Program) (ki kc n : Nat) (f : FuncId) (vs : List Value) : Option (Value × Heap) := callA P (exQ P (natA ki kc) (drwQ P) n [] false) ⟨0, .nil⟩ f vs
theorem runQ0_eq (P : Program) (ki kc n : Nat) (f : FuncId) (vs : List Value) : runQ0 P ki kc n f vs = run0 P ki kc n f vs := by
  unfold runQ0 run0
  rw [exQ_eq, drwQ_eq]

end Go.Proofs.YtkmhbfgkhalaoaaGreatDoor.LM

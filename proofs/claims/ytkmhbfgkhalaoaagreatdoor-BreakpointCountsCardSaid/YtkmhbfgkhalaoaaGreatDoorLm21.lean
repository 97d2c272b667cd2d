/- Operations that make one block: what the block is, without a word on the rest of the memory. -/
import Derived.Test.YtkmhbfgkhalaoaaGreatDoorLm20
set_option linter.unusedVariables false
set_option linter.unusedSimpArgs false
set_option linter.unusedSectionVars false
namespace Go.Proofs.YtkmhbfgkhalaoaaGreatDoor.LM
open Go Go.RowKit

/-- The machine makes one block; in the evaluator it has the number b and is B. -/
def Made (P : Program) (o : Oper) (a : Act) (w : World) (μ : Mu) (v : Value) (b : Nat) (B : Blk) : Prop :=
  B.chain = b ∧ B.stale = false ∧ B.anc = [] ∧ ∃ (v' : Value) (w' : World) (cs : Array Value), (execOp a.eval o).run P w = .ok (.value v') w' ∧ B.n ≤ cs.size ∧
    (∀ i, i < B.n → (B.cell i).oneCell' = true ∧ ∃ u, cs[i]? = some u ∧ VR μ (B.cell i) u) ∧
    w'.heap.size = w.heap.size + 1 ∧ (∀ r, r < w.heap.size → w'.heap[r]? = w.heap[r]?) ∧ (∀ i u, cs[i]? = some u → w'.cell? ⟨w.heap.size, i, none⟩ = some u) ∧
    (∀ i, i < cs.size → w'.fro ⟨w.heap.size, i, none⟩ = false) ∧ w'.os = w.os ∧ w'.tape = w.tape ∧ w'.output = w.output ∧
    ∀ μ' : Mu, μ' b = some (w.heap.size, 0, cs.size) → VR μ' v v'

theorem made_of {P : Program} {o : Oper} {a : Act} {w : World} {μ : Mu} {X X' : Heap} {v v' : Value} {cs ds : List Value} {t : TypeId} {mk : Nat → Value} (hL : LR μ cs ds) (h1 : ∀ u ∈ cs, u.oneCell' = true) (h : newL X cs (fun H' b => some (mk b, H')) = some (v, X'))
    (hrun : (execOp a.eval o).run P w = .ok (.value v') (w.alloc (.cells ⟨ds⟩ t))) (hv : ∀ μ' : Mu, μ' X.next = some (w.heap.size, 0, ds.length) → VR μ' (mk X.next) v') :
    ∃ B, X' = ⟨X.next + 1, X.bl.set X.next B⟩ ∧ Made P o a w μ v X.next B := by
  obtain ⟨c, e, hc⟩ := newL_eq X cs (fun H' b => some (mk b, H'))
  rw [e] at h
  have h' := Option.some.inj h
  cases h'
  refine ⟨_, rfl, rfl, rfl, rfl, v', w.alloc (.cells ⟨ds⟩ t), ⟨ds⟩, hrun, ?_, fun i hi => ?_, by simp, fun r hr => heap_alloc_old w _ r hr, fun i u hu => by rw [World.cell?_alloc_new]; exact hu, fun i _ => World.fro_alloc_new w ⟨ds⟩ t i, rfl, rfl, rfl, hv⟩
  · show cs.length ≤ ds.length
    rw [hL.1]; exact Nat.le_refl _
  · have hx := List.getElem?_eq_getElem (l := cs) (i := i) hi
    rw [hc i _ hx]
    obtain ⟨y, hy, hR⟩ := hL.get hx
    exact ⟨h1 _ (List.getElem_mem hi), y, by simpa using hy, hR⟩

theorem buildSlice_run {P : Program} {a : Act} (w : World) {o : Oper} {t e : TypeId} {n z : Nat} {ps : Array (Nat × Operand)} {zs ds : List Value} (ho : o.op = .buildSlice t n ps) (hu : P.underlying t = some (.slice e)) (hz : sizeP P e = some z) (hzs : zeroP P e = some zs) (h24 : n * z ≤ 16777216)
    (hzl : zs.length = z) (e1 : Instr.fill (fun i => some (i * z, z)) ⟨rep zs n⟩ (ps.toList.map fun (i, x) => (i, a.eval x)) = some ⟨ds⟩) :
    (execOp a.eval o).run P w = .ok (.value (.slice (some ⟨w.heap.size, 0, none⟩) n n)) (w.alloc (.cells ⟨ds⟩ e)) := by
  obtain ⟨it, zv, hi, hzv, hzc⟩ := zero_inv hzs
  have hfill : Instr.fill (fun i => some (i * z, z)) ((Array.range (n * z)).map (fun i => (⟨zs⟩ : Array Value)[i % (⟨zs⟩ : Array Value).size]!)) ((ps.map fun (i, x) => (i, a.eval x)).toList) = some ⟨ds⟩ := by
    rw [made_rep zs n (n * z) (by rw [hzl]), Array.toList_map]
    exact e1
  have h24' : ¬ (n * z > 2 ^ 24) := by omega
  have hfill' : Instr.fill (fun i => some (i * z, z)) ((Array.range (n * z)).map (fun i => (if n * z = 0 then (#[] : Array Value) else ⟨zs⟩)[i % (if n * z = 0 then (#[] : Array Value) else ⟨zs⟩).size]!)) ((ps.map fun (i, x) => (i, a.eval x)).toList) = some ⟨ds⟩ := by
    by_cases h0 : n * z = 0
    · have emp : ∀ f : Nat → Value, (Array.range 0).map f = #[] := fun f => by apply Array.ext_getElem?; intro i; simp
      rw [← hfill, h0, emp, emp]
    · simp only [if_neg h0]; exact hfill
  rw [show (⟨zs⟩ : Array Value) = zv.cells from hzc.symm] at hfill'
  have hgo : (Instr.buildSlice t n (ps.map fun (i, x) => (i, a.eval x))).run P w = .ok (.slice (some ⟨w.heap.size, 0, none⟩) n n) (w.alloc (.cells ⟨ds⟩ e)) := by
    simp only [Instr.buildSlice, Sem.run_bind, run_underlying hu, Result.andThen_ok, sizeOf_run w hz, if_neg h24']
    by_cases h0 : n * z = 0
    · simp only [if_pos h0] at hfill' ⊢
      simp only [Sem.run_bind, Sem.run_pure, Result.andThen_ok, hfill']
      simp [newRow, newObj, Sem.run, Result.andThen]
    · simp only [if_neg h0] at hfill' ⊢
      have hz' : (zeroValue e).run P w = .ok zv w := by simp [zeroValue, typeInfo, hi, hzv]
      simp only [Sem.run_bind, hz', Sem.run_pure, Result.andThen_ok, hfill']
      simp [newRow, newObj, Sem.run, Result.andThen]
  simp only [execOp, ho, Sem.run_bind, hgo, Result.andThen_ok, Sem.run_pure]

theorem kind_gen (A B : Option TypeDesc) (h : (match A, B with
    | some .string, some (.slice _) => Kind.makes
    | some (.slice _), _ => Kind.reads
    | _, _ => Kind.pure) = .makes) : A = some .string ∧ ∃ e, B = some (.slice e) := by
  split at h
  · exact ⟨rfl, _, rfl⟩
  · cases h
  · cases h

theorem makes_ok {P : Program} {ih : Ctx} {X X' : Heap} {tm : Tr Value} {o : Oper} {v : Value} {a : Act} {w : World} {μ : Mu} (hk : kindA P o = .makes) (ht : TR μ tm a) (h : opA P ih X tm o = some (v, X')) :
    ∃ B, X' = ⟨X.next + 1, X.bl.set X.next B⟩ ∧ Made P o a w μ v X.next B := by
  unfold kindA at hk
  unfold opA at h
  split at h
  · rename_i c hop
    rw [hop] at hk
    split at hk <;> first | (cases hk; done) | (rename_i h0; cases h0)
  · generalize hop : o.op = op at h hk
    cases op <;> simp only [stepA] at h <;> first
      | (cases hk; done)
      | (cases h; done)
      | skip
    case alloc t =>
      unfold sAlloc at h
      have run : ∀ {cs : List Value}, zeroP P t = some cs → (execOp a.eval o).run P w = .ok (.value (.pointer (some ⟨w.heap.size, 0, none⟩))) (w.alloc (.cells ⟨cs⟩ t)) := fun hz => by
        obtain ⟨z, h1, h2⟩ := zero_run w hz
        simp [execOp, hop, Instr.alloc, h1, newVar, newRow, newObj, cells_of, h2, Sem.run, Result.andThen]
      split at h
      · rename_i z cs hz
        split at h
        · rename_i hfl
          have hL : LR μ (z :: cs) (z :: cs) := LR.flats hfl
          have hone : ∀ u ∈ z :: cs, u.oneCell' = true := fun u hu => flat_one (flats_eq _ hfl u hu)
          cases hbig : Nat.blt 64 (z :: cs).length <;> rw [hbig] at h <;> simp only [cond_true, cond_false] at h
          · exact made_of hL hone h (run hz) (fun μ' hm => .ptr hm)
          · split at h
            · rename_i hall
              obtain ⟨nx, bl⟩ := X
              simp only [newB, fNat_eq, Tr.put_eq] at h
              cases h
              refine ⟨_, rfl, rfl, rfl, rfl, _, _, ⟨z :: cs⟩, run hz, Nat.le_refl _, fun i hi => ?_, by simp, fun r hr => heap_alloc_old w _ r hr, fun i u hu => by rw [World.cell?_alloc_new]; exact hu, fun i _ => World.fro_alloc_new w ⟨z :: cs⟩ t i, rfl, rfl, rfl, fun μ' hm => .ptr hm⟩
              have e : (⟨(z :: cs).length, z, .nil, nx, false, []⟩ : Blk).cell i = z := rfl
              rw [e]
              have hx : (z :: cs)[i]? = some z := by
                cases i with
                | zero => rfl
                | succ i =>
                  have hi' : i < cs.length := by
                    have : i + 1 < (z :: cs).length := hi
                    simpa using this
                  rw [List.getElem?_cons_succ, List.getElem?_eq_getElem hi', alleq_eq z cs hall _ (List.getElem_mem hi')]
              exact ⟨hone z (by simp), z, by simpa using hx, hL.2 0 z z rfl rfl⟩
            · cases h
        · cases h
      · rename_i hz
        exact made_of (μ := μ) LR.nil (fun u hu => by cases hu) h (run hz) (fun μ' hm => .ptr hm)
      · cases h
    case box t x =>
      unfold sBox at h
      split at h
      · rename_i u hx
        split at h
        · rename_i h1
          have hR := ev_eq ht hx
          refine made_of (t := t) hR.cells (fun u hu => one_eq _ h1 u hu) h (v' := .pointer (some ⟨w.heap.size, 0, none⟩)) ?_ (fun μ' hm => .ptr hm)
          simp [execOp, hop, Instr.box, newVar, newRow, newObj, cells_of, Sem.run, Result.andThen]
        · cases h
      · cases h
    case buildSlice t n ps =>
      unfold sBuildSlice at h
      split at h
      · rename_i l e hl hu
        split at h
        · rename_i z zs hz hzs
          cases hc : (Nat.ble (Nat.mul n z) 16777216 && Nat.blt n 4294967296 && Nat.beq zs.length z && flats zs) <;> rw [hc] at h <;> simp only [cond_true, cond_false] at h
          · cases h
          · simp only [Bool.and_eq_true] at hc
            obtain ⟨⟨⟨hc1, hc2⟩, hc3⟩, hc4⟩ := hc
            split at h
            · rename_i cs hcs
              split at h
              · rename_i h1
                rw [fSp_eq] at h
                have hp := evParts_eq ht _ _ hl
                obtain ⟨ds, e1, hR⟩ := fill_run hp (rep_LR hc4 n) hcs
                have hn32 : n < 4294967296 := by rwa [Nat.blt_eq] at hc2
                refine made_of (t := e) hR (fun u hu => one_eq _ h1 u hu) h (v' := .slice (some ⟨w.heap.size, 0, none⟩) n n) ?_ (fun μ' hm => .sl (d := 0) hm (Nat.le_refl _) (.inl ⟨rfl, by simp only [U]; omega⟩))
                exact buildSlice_run w hop hu hz hzs (Nat.le_of_ble_eq_true hc1) (Nat.eq_of_beq_eq_true hc3) e1
              · cases h
            · cases h
        · cases h
      · cases h
    case makeSlice t x y =>
      unfold sMake at h
      split at h
      · rename_i k1 n k2 m e hx hy hu
        split at h
        · rename_i zs i hzs hi
          cases hc : (Nat.ble n m && Nat.ble (m * i.bytes) 140737488355328 && Nat.blt m 4294967296 && Nat.beq zs.length i.size && flats zs) <;> rw [hc] at h <;> simp only [cond_true, cond_false] at h
          · cases h
          · simp only [Bool.and_eq_true] at hc
            obtain ⟨⟨⟨⟨c1, c2⟩, c3⟩, c4⟩, c5⟩ := hc
            have hnm : n ≤ m := Nat.le_of_ble_eq_true c1
            have hby := Nat.le_of_ble_eq_true c2
            have hm32 : m < 4294967296 := by rwa [Nat.blt_eq] at c3
            have hzl := Nat.eq_of_beq_eq_true c4
            obtain ⟨it, zv, hi', hzv, hzc⟩ := zero_inv hzs
            rw [hi] at hi'
            cases hi'
            refine made_of (t := e) (rep_LR c5 m) (fun u hu => flat_one (flats_eq zs c5 u (rep_mem zs m u hu))) h (v' := .slice (some ⟨w.heap.size, 0, none⟩) n m) ?_ (fun μ' hm => .sl (d := 0) hm hnm (.inl ⟨rfl, by simp only [U]; omega⟩))
            have hbi : (i.bytes : Int) * (m : Int) ≤ 281474976710656 := by
              have : ((m * i.bytes : Nat) : Int) ≤ 140737488355328 := by omega
              rw [Int.natCast_mul, Int.mul_comm] at this
              omega
            have := run_make (P := P) w t e i zv hu hi hzv k1 k2 (n : Int) (m : Int) (by omega) (by omega) hbi (by omega)
            rw [Int.toNat_natCast, Int.toNat_natCast, hzc] at this
            have e2 : madeCells ⟨zs⟩ (m * i.size) = ⟨rep zs m⟩ := made_rep zs m (m * i.size) (by rw [hzl])
            rw [e2] at this
            have ex := int_inv (ev_eq ht hx)
            have ey := int_inv (ev_eq ht hy)
            simp only [execOp, hop, ex, ey, Sem.run_bind, Int.ofNat_eq_natCast, this, Result.andThen_ok, Sem.run_pure]
        · cases h
      · cases h
    case convert s d x =>
      unfold sConv at h
      split at h
      · rename_i p hp
        have hR := ev_eq ht hp
        unfold convH at h
        split at h
        · rename_i hs hd
          simp only [hs, hd] at hk
          cases hk
        · rename_i e str hs hd
          split at h
          · rename_i he
            rw [fL0_eq] at h
            have hstr := string_inv hR
            have hrun := Lib.run_convert_string_bytes (P := P) w s d e str hs hd he
            obtain ⟨c, e1, hc⟩ := newL_eq X (str.data.toList.map fun b => Value.int .u8 b.toNat) (fun H' b => fNat str.data.toList.length fun n => some (Value.slice (some ⟨b, 0, none⟩) n (U + 1), H'))
            rw [e1, fNat_eq] at h
            have h' := Option.some.inj h
            cases h'
            have hsz : (Lib.bytesCells w e str).size = grownCap w str.size 0 e := by
              have := grownCap_ge w str.size 0 e
              simp [Lib.bytesCells]
              have e2 : str.size = str.data.size := rfl
              omega
            have hge := grownCap_ge w str.size 0 e
            have hle : str.data.toList.length = str.size := Array.length_toList
            refine ⟨_, rfl, rfl, rfl, rfl, .slice (some ⟨w.heap.size, 0, none⟩) str.size (grownCap w str.size 0 e), Lib.bytesWorld w e str, Lib.bytesCells w e str, by simp [execOp, hop, hstr, hrun], ?_, fun i hi => ?_, Lib.bytesWorld_size w e str, fun r hr' => Lib.bytesWorld_at_old w e str r hr',
              fun i v hv => by simp [World.cell?, Lib.bytesWorld_at_new, hv], fun i hi => ?_, rfl, rfl, rfl, fun μ' hm => ?_⟩
            · show (str.data.toList.map fun b => Value.int .u8 b.toNat).length ≤ _
              rw [hsz, List.length_map, hle]; exact hge
            · have hx := List.getElem?_eq_getElem (l := str.data.toList.map fun b => Value.int .u8 b.toNat) (i := i) hi
              rw [hc i _ hx]
              refine ⟨by simp [Value.oneCell'], _, ?_, .flat (by simp [flat])⟩
              have hi2 : i < str.data.size := by
                have : i < (str.data.toList.map fun b => Value.int .u8 b.toNat).length := hi
                simpa using this
              have hi3 : i < str.size := hi2
              simp [Lib.bytesCells, Array.getElem?_append, hi2, hi3]
            · simp only [World.fro, Lib.bytesWorld_at_new]
              simp
              omega
            · rw [hle]
              refine .sl (lim := (Lib.bytesCells w e str).size) (d := 0) hm hge (.inr ⟨1, rfl, ?_⟩)
              rw [hsz]; omega
          · cases h
        · rename_i hs hd
          simp only [hs, hd] at hk
          cases hk
        · exfalso
          have hsd : P.underlying s = some .string ∧ ∃ e, P.underlying d = some (.slice e) := by
            exact kind_gen _ _ hk
          obtain ⟨hs, e, hd⟩ := hsd
          simp [convA, hs, hd] at h
      · cases h

end Go.Proofs.YtkmhbfgkhalaoaaGreatDoor.LM

/- Values and rows that are built. -/
import Derived.Test.YtkmhbfgkhalaoaaGreatDoorLm9
import Derived.Laws.Tables
import Derived.Laws.MakeOwn
set_option linter.unusedVariables false
set_option linter.unusedSimpArgs false
set_option linter.unusedSectionVars false
namespace Go.Proofs.YtkmhbfgkhalaoaaGreatDoor.LM
open Go Go.RowKit

theorem fold_get (off : Nat) : ∀ (ws : List Value) (k : Nat) (cs : Array Value) (i : Nat), off + k + ws.length ≤ cs.size →
    ((ws.zipIdx k).foldl (fun (cs : Array Value) p => cs.setIfInBounds (off + p.2) p.1) cs)[i]? = if off + k ≤ i ∧ i < off + k + ws.length then ws[i - (off + k)]? else cs[i]? := by
  intro ws
  induction ws with
  | nil => intro k cs i _; rw [if_neg (by simp)]; rfl
  | cons w r ih =>
    intro k cs i hle
    simp only [List.length_cons] at hle
    rw [List.zipIdx_cons, List.foldl_cons, ih (k + 1) _ i (by simp; omega)]
    by_cases h1 : off + (k + 1) ≤ i ∧ i < off + (k + 1) + r.length
    · rw [if_pos h1, if_pos (by simp; omega), show i - (off + k) = (i - (off + (k + 1))) + 1 by omega, List.getElem?_cons_succ]
    · rw [if_neg h1]
      by_cases h2 : i = off + k
      · subst h2
        rw [if_pos (by simp), Nat.sub_self, Array.getElem?_setIfInBounds_self_of_lt (by omega)]
        rfl
      · rw [if_neg (by simp; omega), Array.getElem?_setIfInBounds_ne (by omega)]
theorem fold_eq (ws : Array Value) (off : Nat) (cs : List Value) (h : off + ws.size ≤ cs.length) :
    ws.zipIdx.foldl (fun (cs : Array Value) (p : Value × Nat) => cs.setIfInBounds (off + p.2) p.1) ⟨cs⟩ = ⟨cs.take off ++ ws.toList ++ cs.drop (off + ws.size)⟩ := by
  obtain ⟨ws⟩ := ws
  rw [← Array.foldl_toList, Array.toList_zipIdx]
  apply Array.ext_getElem?
  intro i
  have h' : off + 0 + ws.length ≤ (⟨cs⟩ : Array Value).size := by simpa using h
  rw [fold_get off ws 0 ⟨cs⟩ i h']
  simp only [List.getElem?_toArray, List.size_toArray] at h ⊢
  by_cases h1 : i < off
  · rw [if_neg (by omega), List.append_assoc, List.getElem?_append_left (by simp; omega), List.getElem?_take, if_pos h1]
  · by_cases h2 : i < off + ws.length
    · rw [if_pos (by omega), List.append_assoc, List.getElem?_append_right (by simp; omega), List.getElem?_append_left (by simp; omega)]
      congr 1
      simp
      omega
    · rw [if_neg (by omega), List.getElem?_append_right (by simp; omega), List.getElem?_drop]
      congr 1
      simp
      omega

inductive PartsR (μ : Mu) : List (Nat × Value) → List (Nat × Value) → Prop
  | nil : PartsR μ [] []
  | cons {i : Nat} {v u : Value} {xs ys : List (Nat × Value)} (h : VR μ v u) (hs : PartsR μ xs ys) : PartsR μ ((i, v) :: xs) ((i, u) :: ys)

theorem evParts_eq {μ : Mu} {tm : Tr Value} {a : Act} (ht : TR μ tm a) : ∀ (ps : List (Nat × Operand)) (l : List (Nat × Value)), evParts tm ps = some l → PartsR μ l (ps.map fun (i, x) => (i, a.eval x)) := by
  intro ps
  induction ps with
  | nil => intro l h; cases h; exact .nil
  | cons p r ih =>
    intro l h
    obtain ⟨i, x⟩ := p
    simp only [evParts] at h
    split at h
    · rename_i v vs hv hvs
      cases h
      exact .cons (ev_eq ht hv) (ih _ hvs)
    · cases h

theorem fill_run {μ : Mu} {pl : Nat → Option (Nat × Nat)} {parts parts' : List (Nat × Value)} (hp : PartsR μ parts parts') : ∀ {cs ds cs' : List Value}, LR μ cs ds → fillA pl cs parts = some cs' →
    ∃ ds', Instr.fill pl ⟨ds⟩ parts' = some ⟨ds'⟩ ∧ LR μ cs' ds' := by
  induction hp with
  | nil => intro cs ds cs' hL h; cases h; exact ⟨ds, rfl, hL⟩
  | cons hv hs ih =>
    rename_i i v u xs ys
    intro cs ds cs' hL h
    simp only [fillA] at h
    split at h
    · cases h
    · rename_i off size hpl
      cases hc : (Nat.beq (cellsOf v).length size && Nat.ble (off + size) cs.length) <;> rw [hc] at h <;> simp only [cond_true, cond_false] at h
      · cases h
      · simp only [Bool.and_eq_true] at hc
        have hlen := Nat.eq_of_beq_eq_true hc.1
        have hle := Nat.le_of_ble_eq_true hc.2
        have hC := hv.cells
        have hLn := hL.1
        have hCn := hC.1
        obtain ⟨ds', e, hR⟩ := ih (((hL.take off).append hC).append (hL.drop (off + size))) h
        refine ⟨ds', ?_, hR⟩
        simp only [Instr.fill, hpl]
        have hsz : u.cells.size = size := by rw [cells_of]; show (cellsOf u).length = size; omega
        rw [if_neg (by rw [hsz]; simp; omega)]
        have := fold_eq u.cells off ds (by rw [hsz]; omega)
        rw [show (u.cells.zipIdx.foldl (fun cs (x : Value × Nat) => match x with | (c, j) => cs.setIfInBounds (off + j) c) (⟨ds⟩ : Array Value)) = u.cells.zipIdx.foldl (fun (cs : Array Value) (p : Value × Nat) => cs.setIfInBounds (off + p.2) p.1) ⟨ds⟩ from rfl, this, hsz, cells_of]
        exact e

theorem places_eq {P : Program} : ∀ (fs : List Field) (l : List (Nat × Nat)), placesL P fs = some l → fs.mapM (fun f => (P.info? f.type).map fun i => (f.offset, i.size)) = some l := by
  intro fs
  induction fs with
  | nil => intro l h; cases h; rfl
  | cons f r ih =>
    intro l h
    have h' : (match sizeP P f.type with
      | some n => match placesL P r with
        | some l => some ((f.offset, n) :: l)
        | none => none
      | none => none) = some l := h
    split at h'
    · rename_i n hn
      split at h'
      · rename_i l' hl
        cases h'
        obtain ⟨i, hi, rfl⟩ := sizeP_eq hn
        simp [List.mapM_cons, hi, ih _ hl]
      · cases h'
    · cases h'

theorem zero_inv {P : Program} {t : TypeId} {z : List Value} (h : zeroP P t = some z) : ∃ i v, P.info? t = some i ∧ i.zero = some v ∧ v.cells = ⟨z⟩ := by
  unfold zeroP at h
  split at h
  · rename_i i hi
    split at h
    · rename_i v hv; cases h; exact ⟨i, v, hi, hv, cells_of v⟩
    · cases h
  · cases h

theorem buildA_run {P : Program} {μ : Mu} (w : World) {t : TypeId} {parts : List (Nat × Value)} {parts' : Array (Nat × Value)} {v : Value} (h : buildA P t parts = some v) (hp : PartsR μ parts parts'.toList) :
    ∃ v', (Instr.build t parts').run P w = .ok v' w ∧ VR μ v v' := by
  unfold buildA at h
  split at h
  · rename_i z pl hz hpl
    split at h
    · rename_i hfl
      split at h
      · rename_i cs hcs
        rw [fSp_eq] at h
        cases h
        obtain ⟨ds, e, hR⟩ := fill_run hp (LR.flats hfl) hcs
        refine ⟨.agg ⟨ds⟩, ?_, .agg hR.1 hR.2⟩
        apply run_build w t parts' ⟨ds⟩
        obtain ⟨it, zv, hi, hzv, hzc⟩ := zero_inv hz
        unfold placesP at hpl
        split at hpl
        · rename_i fs hu
          split at hpl
          · rename_i l hl
            cases hpl
            have e1 := places_eq _ _ hl
            simp only [Program.built, hi, hu, hzv, e1, hzc]
            have : (fun i => nth l i) = (fun i => l.toArray[i]?) := by funext i; rw [nth_eq]; simp
            rw [this] at e
            exact e
          · cases hpl
        · rename_i n el hu
          split at hpl
          · rename_i sz hsz
            cases hpl
            obtain ⟨ie, hie, rfl⟩ := sizeP_eq hsz
            simp only [Program.built, hi, hu, hzv, hie, hzc]
            exact e
          · cases hpl
        · cases hpl
      · cases h
    · cases h
  · cases h

theorem rep_length (z : List Value) : ∀ n, (rep z n).length = n * z.length := by
  intro n
  induction n with
  | zero => simp [rep]
  | succ n ih => simp [rep, ih, Nat.succ_mul, Nat.add_comm]
theorem rep_get (z : List Value) : ∀ (n i : Nat), i < n * z.length → (rep z n)[i]? = z[i % z.length]? := by
  intro n
  induction n with
  | zero => intro i h; omega
  | succ n ih =>
    intro i h
    rw [Nat.succ_mul] at h
    simp only [rep]
    by_cases h1 : i < z.length
    · rw [List.getElem?_append_left h1, Nat.mod_eq_of_lt h1]
    · rw [List.getElem?_append_right (by omega), ih _ (by omega), Nat.mod_eq_sub_mod (a := i) (by omega)]
theorem rep_mem (z : List Value) : ∀ n v, v ∈ rep z n → v ∈ z := by
  intro n
  induction n with
  | zero => intro v h; cases h
  | succ n ih => intro v h; simp only [rep, List.mem_append] at h; rcases h with h | h; exact h; exact ih v h
theorem made_rep (z : List Value) (n k : Nat) (h : n * z.length = k) : (Array.range k).map (fun i => (⟨z⟩ : Array Value)[i % (⟨z⟩ : Array Value).size]!) = ⟨rep z n⟩ := by
  subst h
  apply Array.ext_getElem?
  intro i
  simp only [List.getElem?_toArray]
  by_cases hi : i < n * z.length
  · have hp : 0 < z.length := by
      rcases Nat.eq_zero_or_pos z.length with h | h
      · rw [h] at hi; omega
      · exact h
    have hm : i % z.length < z.length := Nat.mod_lt _ hp
    rw [rep_get z n i hi]
    simp [hi, hm]
  · have h1 : (rep z n)[i]? = none := by rw [List.getElem?_eq_none]; rw [rep_length]; omega
    rw [h1]
    simp [hi]
theorem rep_LR {μ : Mu} {z : List Value} (h : flats z = true) (n : Nat) : LR μ (rep z n) (rep z n) :=
  ⟨rfl, fun i x y hx hy => by rw [hx] at hy; cases hy; exact .flat (flats_eq z h x (rep_mem z n x (List.mem_of_getElem? hx)))⟩
theorem flat_one {v : Value} (h : flat v = true) : v.oneCell' = true := by cases v <;> first | rfl | exact absurd h Bool.false_ne_true
theorem one_of_mem (l : List Value) (h : ∀ v ∈ l, v.oneCell' = true) : one l = true := by
  induction l with
  | nil => rfl
  | cons x r ih =>
    have := h x (by simp)
    cases x <;> first | exact ih (fun u hu => h u (List.mem_cons_of_mem _ hu)) | exact absurd this Bool.false_ne_true

section
variable {P : Program} {o : Oper} {a : Act} {w : World} {μ : Mu} {base : Nat} {H H' : Heap} {tm : Tr Value} {v : Value}
  (hw : HW H) (hr : HR μ base H w) (hb : base ≤ w.heap.size) (ht : TR μ tm a) (hf : Free μ H H')
include hw hr hb ht hf

theorem sBuild_ok {t : TypeId} {ps : Array (Nat × Operand)} (ho : o.op = .build t ps) (h : sBuild P H tm t ps = some (v, H')) : OpOk P o a w μ base H v H' := by
  unfold sBuild at h
  split at h
  · rename_i l hl
    split at h
    · rename_i u hu
      cases h
      obtain ⟨v', h1, h2⟩ := buildA_run (parts' := ps.map fun (i, x) => (i, a.eval x)) w hu (by rw [Array.toList_map]; exact evParts_eq ht _ _ hl)
      exact .pure hw hr (by simp only [execOp, ho, Sem.run_bind, h1, Result.andThen_ok, Sem.run_pure]) h2
    · cases h
  · cases h

theorem sBuildSlice_ok {t : TypeId} {n : Nat} {ps : Array (Nat × Operand)} (ho : o.op = .buildSlice t n ps) (h : sBuildSlice P H tm t n ps = some (v, H')) : OpOk P o a w μ base H v H' := by
  unfold sBuildSlice at h
  split at h
  · rename_i l e hl hu
    split at h
    · rename_i z zs hz hzs
      cases hc : (Nat.ble (Nat.mul n z) 16777216 && Nat.blt n 4294967296 && Nat.beq zs.length z && flats zs) <;> rw [hc] at h <;> simp only [cond_true, cond_false] at h
      · cases h
      · simp only [Bool.and_eq_true] at hc
        obtain ⟨⟨⟨hc1, hc2⟩, hc3⟩, hc4⟩ := hc
        have h24 : n * z ≤ 16777216 := Nat.le_of_ble_eq_true hc1
        have hzl : zs.length = z := Nat.eq_of_beq_eq_true hc3
        split at h
        · rename_i cs hcs
          split at h
          · rename_i h1
            rw [fSp_eq] at h
            have hp := evParts_eq ht _ _ hl
            obtain ⟨ds, e1, hR⟩ := fill_run hp (rep_LR hc4 n) hcs
            obtain ⟨rfl, μ', hm, g1, g2, g3⟩ := newL_ok (t := e) hw hr hb hf hR h1 h
            refine ⟨.slice (some ⟨w.heap.size, 0, none⟩) n n, w.alloc (.cells ⟨ds⟩ e), μ', .inl ?_, .sl (d := 0) hm (Nat.le_refl _) (.inl ⟨rfl, ?_⟩), g1, g2, g3⟩
            · obtain ⟨it, zv, hi, hzv, hzc⟩ := zero_inv hzs
              have hfill : Instr.fill (fun i => some (i * z, z)) ((Array.range (n * z)).map (fun i => (⟨zs⟩ : Array Value)[i % (⟨zs⟩ : Array Value).size]!)) ((ps.map fun (i, x) => (i, a.eval x)).toList) = some ⟨ds⟩ := by
                rw [made_rep zs n (n * z) (by rw [hzl]), Array.toList_map]
                exact e1
              have h24' : ¬ (n * z > 2 ^ 24) := by omega
              have hfill' : Instr.fill (fun i => some (i * z, z)) ((Array.range (n * z)).map (fun i => (if n * z = 0 then (#[] : Array Value) else ⟨zs⟩)[i % (if n * z = 0 then (#[] : Array Value) else ⟨zs⟩).size]!)) ((ps.map fun (i, x) => (i, a.eval x)).toList) = some ⟨ds⟩ := by
                by_cases h0 : n * z = 0
                · have emp : ∀ f : Nat → Value, (Array.range 0).map f = #[] := fun f => by apply Array.ext_getElem?; intro i; simp
                  rw [← hfill, h0, emp, emp]
                · simp only [if_neg h0]; exact hfill
              rw [show (⟨zs⟩ : Array Value) = zv.cells from hzc.symm] at hfill'
              have hgo : (Instr.buildSlice t n (ps.map fun (i, x) => (i, a.eval x))).run P w = .ok (.slice (some ⟨w.heap.size, 0, none⟩) n n) (w.alloc (.cells ⟨ds⟩ e)) := by
                simp only [Instr.buildSlice, Sem.run_bind, run_underlying hu, Result.andThen_ok, sizeOf_run w hz, if_neg h24']
                by_cases h0 : n * z = 0
                · simp only [if_pos h0] at hfill' ⊢
                  simp only [Sem.run_bind, Sem.run_pure, Result.andThen_ok, hfill']
                  simp [newRow, newObj, Sem.run, Result.andThen]
                · simp only [if_neg h0] at hfill' ⊢
                  have hz' : (zeroValue e).run P w = .ok zv w := by simp [zeroValue, typeInfo, hi, hzv]
                  simp only [Sem.run_bind, hz', Sem.run_pure, Result.andThen_ok, hfill']
                  simp [newRow, newObj, Sem.run, Result.andThen]
              simp only [execOp, ho, Sem.run_bind, hgo, Result.andThen_ok, Sem.run_pure]
            · have : n < 4294967296 := by rwa [Nat.blt_eq] at hc2
              simp only [U]; omega
          · cases h
        · cases h
    · cases h
  · cases h

theorem sMake_ok {t : TypeId} {x y : Operand} (ho : o.op = .makeSlice t x y) (h : sMake P H tm t x y = some (v, H')) : OpOk P o a w μ base H v H' := by
  unfold sMake at h
  split at h
  · rename_i k1 n k2 m e hx hy hu
    split at h
    · rename_i zs i hzs hi
      cases hc : (Nat.ble n m && Nat.ble (m * i.bytes) 140737488355328 && Nat.blt m 4294967296 && Nat.beq zs.length i.size && flats zs) <;> rw [hc] at h <;> simp only [cond_true, cond_false] at h
      · cases h
      · simp only [Bool.and_eq_true] at hc
        obtain ⟨⟨⟨⟨c1, c2⟩, c3⟩, c4⟩, c5⟩ := hc
        have hnm : n ≤ m := Nat.le_of_ble_eq_true c1
        have hby := Nat.le_of_ble_eq_true c2
        have hm32 : m < 4294967296 := by rwa [Nat.blt_eq] at c3
        have hzl := Nat.eq_of_beq_eq_true c4
        obtain ⟨it, zv, hi', hzv, hzc⟩ := zero_inv hzs
        rw [hi] at hi'
        cases hi'
        obtain ⟨rfl, μ', hm, g1, g2, g3⟩ := newL_ok (t := e) hw hr hb hf (rep_LR c5 m) (one_of_mem _ (fun u hu => flat_one (flats_eq zs c5 u (rep_mem zs m u hu)))) h
        refine ⟨.slice (some ⟨w.heap.size, 0, none⟩) n m, w.alloc (.cells ⟨rep zs m⟩ e), μ', .inl ?_, .sl (d := 0) hm hnm (.inl ⟨rfl, by simp only [U]; omega⟩), g1, g2, g3⟩
        have hbi : (i.bytes : Int) * (m : Int) ≤ 281474976710656 := by
          have : ((m * i.bytes : Nat) : Int) ≤ 140737488355328 := by omega
          rw [Int.natCast_mul, Int.mul_comm] at this
          omega
        have := run_make (P := P) w t e i zv hu hi hzv k1 k2 (n : Int) (m : Int) (by omega) (by omega) hbi (by omega)
        rw [Int.toNat_natCast, Int.toNat_natCast, hzc] at this
        have e2 : madeCells ⟨zs⟩ (m * i.size) = ⟨rep zs m⟩ := made_rep zs m (m * i.size) (by rw [hzl])
        rw [e2] at this
        have ex := int_inv (ev_eq ht hx)
        have ey := int_inv (ev_eq ht hy)
        simp only [execOp, ho, ex, ey, Sem.run_bind, Int.ofNat_eq_natCast, this, Result.andThen_ok, Sem.run_pure]
    · cases h
  · cases h

end
end Go.Proofs.YtkmhbfgkhalaoaaGreatDoor.LM

/- append, whole. -/
import Derived.Test.YtkmhbfgkhalaoaaGreatDoorLm14
set_option linter.unusedVariables false
set_option linter.unusedSimpArgs false
set_option linter.unusedSectionVars false
namespace Go.Proofs.YtkmhbfgkhalaoaaGreatDoor.LM
open Go Go.RowKit

theorem first_zero {P : Program} {μ : Mu} (w : World) {x x' : Value} (z : Nat) (h : lenA x = some 0) (hR : VR μ x x') : (Builtin.firstCells z 0 x').run P w = .ok #[] w := by
  cases x with
  | slice a n c =>
    cases a with
    | none =>
      obtain ⟨rfl, ⟨_, rfl⟩ | ⟨_, A, c', rfl⟩⟩ := sl0_inv hR
      · rfl
      · cases A with
        | none => rfl
        | some A => simp [Builtin.firstCells, loadCells, loadCellsFrom]
    | some a =>
      obtain ⟨b, o, r, d, lim, c', rfl, rfl, _⟩ := sl_inv hR
      simp [Builtin.firstCells, loadCells, loadCellsFrom]
  | string s =>
    rw [string_inv hR]
    have : s.extract 0 0 = ByteArray.empty := by apply ByteArray.ext; simp
    simp only [Builtin.firstCells, this, Sem.run_pure]
    have e0 : ByteArray.empty.data = #[] := rfl
    rw [e0]
    simp
  | _ => cases h

theorem run_app_zero {P : Program} (w : World) {t t' ty e : TypeId} {i : TypeInfo} {d : TypeDesc} {A : Option Addr} {l c : Nat} {x : Value} (ht : P.underlying t = some (.slice e)) (ht' : P.underlying t' = some d) (hd : (∃ e', d = .slice e') ∨ d = .string)
    (hi : P.info? e = some i) (hx : (Builtin.lenOf x).run P w = .ok 0 w) (hf : (Builtin.firstCells i.size 0 x).run P w = .ok #[] w) (hroom : l ≤ c) :
    (Builtin.append_ #[t, t'] ty #[.slice A l c, x]).run P w = .ok (.slice A l c) w := by
  rcases hd with ⟨e', rfl⟩ | rfl <;> cases A <;> simp [Builtin.append_, run_underlying ht, run_underlying ht', sizeOf, typeInfo, hi, hx, hf, hroom, storeCells]

theorem one_append {xs ys : List Value} (h1 : one xs = true) (h2 : one ys = true) : one (xs ++ ys) = true := one_of_mem _ (fun v hv => by
  rcases List.mem_append.1 hv with h | h
  · exact one_eq xs h1 v h
  · exact one_eq ys h2 v h)

theorem appA_run {P : Program} {μ : Mu} {base : Nat} {H H' : Heap} {w : World} (hw : HW H) (hr : HR μ base H w) (hb : base ≤ w.heap.size) (hf : Free μ H H') {t t' ty e : TypeId} {d : TypeDesc} {s x s' x' v : Value}
    (ht : P.underlying t = some (.slice e)) (ht' : P.underlying t' = some d) (hd : (∃ e', d = .slice e') ∨ d = .string) (h : appA P H e s x = some (v, H')) (hs : VR μ s s') (hx : VR μ x x') :
    ∃ v' w' μ', (Builtin.append_ #[t, t'] ty #[s', x']).run P w = .ok v' w' ∧ VR μ' v v' ∧ HW H' ∧ HR μ' base H' w' ∧ Ext μ H w μ' H' w' := by
  unfold appA at h
  split at h
  · rename_i bs l c m z i hm hz hi
    have hiz : i.size = z := by unfold sizeP at hz; rw [hi] at hz; exact Option.some.inj hz
    subst hiz
    have hlen := lenA_run (P := P) w hm hx
    split at h
    · cases h
    · rename_i zv hzv
      split at h
      · -- nothing is appended
        cases h
        have hfz := first_zero (P := P) w i.size hm hx
        have hex : ∃ A c', s' = .slice A l c' ∧ l ≤ c' := by
          cases bs with
          | none => obtain ⟨rfl, ⟨_, rfl⟩ | ⟨_, A, c', rfl⟩⟩ := sl0_inv hs; exact ⟨_, _, rfl, Nat.le_refl _⟩; exact ⟨_, _, rfl, Nat.zero_le _⟩
          | some a => obtain ⟨b, o, r, dd, lim, c', rfl, rfl, _, hl, _⟩ := sl_inv hs; exact ⟨_, _, rfl, hl⟩
        obtain ⟨A, c', rfl, hl⟩ := hex
        exact ⟨_, w, μ, run_app_zero w ht ht' hd hi hlen hfz hl, hs, hw, hr, Ext.refl _ _ _⟩
      · rename_i hm0
        have hmp : 0 < m := Nat.pos_of_ne_zero hm0
        split at h
        · cases h
        · rename_i new hnew
          obtain ⟨news, hLn, hfn⟩ := firstA_run (P := P) hr hnew hx
          cases hcond : (Nat.beq (cellsOf zv).length i.size && Nat.ble 1 i.size && Nat.ble ((l + m) * i.bytes) 140737488355328 && Nat.blt (l + m) 4611686018427387904 && one new && Nat.beq new.length (m * i.size)) <;> rw [hcond] at h <;> simp only [cond_true, cond_false] at h
          · cases h
          · simp only [Bool.and_eq_true] at hcond
            obtain ⟨⟨⟨⟨⟨k1, k2⟩, k3⟩, k4⟩, k5⟩, k6⟩ := hcond
            have hzl : (cellsOf zv).length = i.size := Nat.eq_of_beq_eq_true k1
            have hz1 : 1 ≤ i.size := Nat.le_of_ble_eq_true k2
            have hby := Nat.le_of_ble_eq_true k3
            have hlm : l + m < 4611686018427387904 := by rwa [Nat.blt_eq] at k4
            have hnl : new.length = m * i.size := Nat.eq_of_beq_eq_true k6
            have hnl' : news.length = m * i.size := by rw [← hLn.1]; exact hnl
            have hnone := one_of hLn k5
            have hzc : ∀ n, (Builtin.zeroCells zv.cells n).size = n * i.size := fun n => by rw [size_zeroCells, cells_of]; show n * (cellsOf zv).length = _; rw [hzl]
            have hzcl : ∀ n, (Builtin.zeroCells zv.cells n).toList.length = n * i.size := fun n => by rw [Array.length_toList, hzc]
            cases hU : Nat.ble U c <;> rw [hU] at h <;> simp only [cond_true, cond_false] at h
            · -- the capacity is known
              have hcU : ¬ U ≤ c := fun e => by rw [ble_U.2 e] at hU; cases hU
              cases hroom : Nat.ble (l + m) c <;> rw [hroom] at h <;> simp only [cond_true, cond_false] at h
              · have hg : c < l + m := by
                  have : ¬ (l + m ≤ c) := fun e => by rw [Nat.ble_eq_true_of_le e] at hroom; cases hroom
                  omega
                split at h
                · cases h
                · rename_i old hold
                  obtain ⟨olds, hLo, hfo⟩ := firstA_run (P := P) hr hold hs
                  cases hc2 : (one old && Nat.beq old.length (l * i.size)) <;> rw [hc2] at h <;> simp only [cond_true, cond_false] at h
                  · cases h
                  · simp only [Bool.and_eq_true] at hc2
                    have hol : old.length = l * i.size := Nat.eq_of_beq_eq_true hc2.2
                    have hol' : olds.length = l * i.size := by rw [← hLo.1]; exact hol
                    have hex : ∃ A, s' = .slice A l c := by
                      cases bs with
                      | none =>
                        obtain ⟨rfl, ⟨rfl, rfl⟩ | ⟨rfl, _⟩⟩ := sl0_inv hs
                        · exact ⟨_, rfl⟩
                        · exact absurd (Nat.le_refl U) hcU
                      | some a =>
                        obtain ⟨b, o, r, dd, lim, c', rfl, rfl, _, hl, hcc⟩ := sl_inv hs
                        rcases hcc with ⟨rfl, _⟩ | ⟨z0, e0, _⟩
                        · exact ⟨_, rfl⟩
                        · exact absurd (by rw [e0]; exact Nat.le_add_right _ _) hcU
                    obtain ⟨A, rfl⟩ := hex
                    have hrun := run_app_grow (P := P) (ty := ty) w ht ht' hd hi hzv hlen hfn hfo hg hby hlm
                    rw [fNat_eq] at h
                    obtain ⟨cc, e1, hcell⟩ := newL_eq H (old ++ new) (fun H' b => fNat (Nat.add U i.size) fun u => some (Value.slice (some ⟨b, 0, none⟩) (l + m) u, H'))
                    rw [e1, fNat_eq] at h
                    have h' := Option.some.inj h
                    cases h'
                    generalize hG : grownCap w (l + m) c e = G at hrun
                    have hGe : l + m ≤ G := by rw [← hG]; exact grownCap_ge _ _ _ _
                    generalize hcs : olds ++ news ++ (Builtin.zeroCells zv.cells (G - (l + m))).toList = cs at hrun
                    have hcl : cs.length = G * i.size := by
                      rw [← hcs, List.length_append, List.length_append, hzcl, hol', hnl', ← Nat.add_mul, ← Nat.add_mul]
                      congr 1
                      omega
                    have hLon := hLo.append hLn
                    have hnb := new_block' (w' := w.drew.alloc (.cells ⟨cs⟩ e)) (n := (old ++ new).length) (z := .bool false) (c := cc) (cs := ⟨cs⟩) hw hr hb (hf _ (Nat.le_refl _) (Nat.lt_succ_self _))
                      (by show (old ++ new).length ≤ cs.length; rw [List.length_append, hol, hnl, hcl, ← Nat.add_mul]; exact Nat.mul_le_mul_right _ hGe)
                      (fun j hj => by
                        have hx := List.getElem?_eq_getElem hj
                        rw [hcell j _ hx]
                        obtain ⟨y, hy, hR⟩ := hLon.get hx
                        refine ⟨one_eq _ (one_append hc2.1 k5) _ (List.getElem_mem hj), y, ?_, hR⟩
                        have : cs[j]? = some y := by
                          rw [← hcs, List.getElem?_append_left (List.getElem?_eq_some_iff.1 hy).1]
                          exact hy
                        simpa using this)
                      (by show (w.heap.push (.cells ⟨cs⟩ e)).size = w.heap.size + 1; exact Array.size_push _) (fun q hq => heap_alloc_old w.drew _ q hq) (fun j u hu => by
                        have := World.cell?_alloc_new w.drew ⟨cs⟩ e j
                        exact this.trans hu) (fun j _ => World.fro_alloc_new w.drew ⟨cs⟩ e j) rfl rfl rfl
                    refine ⟨_, _, _, hrun, ?_, hnb⟩
                    refine .sl (d := 0) (r := w.heap.size) (lim := cs.length) (by unfold upd; rw [if_pos rfl]; rfl) hGe (.inr ⟨i.size, rfl, ?_⟩)
                    rw [hcl]; omega
              · have hroom' := Nat.le_of_ble_eq_true hroom
                split at h
                · cases h
                · rename_i ad
                  obtain ⟨b, o, r, dd, lim, c', rfl, rfl, hmu, hl, hcc⟩ := sl_inv hs
                  have hcc' : c = c' ∧ c' < U := by
                    rcases hcc with hh | ⟨z0, e0, _⟩
                    · exact hh
                    · exact absurd (by rw [e0]; exact Nat.le_add_right _ _) hcU
                  obtain ⟨rfl, hltU⟩ := hcc'
                  simp only [addA, fNat_eq] at h
                  split at h
                  · rename_i H1 hwr
                    cases h
                    have hwr' : wrN H ⟨b, o + l * i.size, none⟩ new = some H' := hwr
                    obtain ⟨g1, g2, g3, g4, g5, g6⟩ := wr_row hw hr hwr' hmu hLn
                    have e0 : dd + (o + l * i.size) = dd + o + l * i.size := by omega
                    rw [e0] at g2 g3 g5
                    exact ⟨_, _, μ, run_app_room (P := P) (ty := ty) w ht ht' hd hi hlen (hfn w rfl) hroom' g5 g6, .sl hmu hroom' (.inl ⟨rfl, hltU⟩), g1, g2, g3⟩
                  · cases h
            · -- the capacity is not known
              obtain ⟨b, o, B, NC, an, full, rfl, hcz, hg, hst, hle, rfl, hnx, hcell, hfu, hnf, hbl⟩ := appU_inv h
              obtain ⟨b', o', r, dd, lim, c', e1, rfl, hmu, hlc, hcc⟩ := sl_inv hs
              cases e1
              have hlim : dd + o + c' * i.size ≤ lim := by
                rcases hcc with ⟨e0, hlt⟩ | ⟨z0, e0, hh⟩
                · have := ble_U.1 hU; omega
                · have : z0 = i.size := by omega
                  rw [← this]; exact hh
              have hfree : μ H.next = none := hf _ (Nat.le_refl _) (by omega)
              obtain ⟨olds, hol', hoc, hLo⟩ := hr.row hg hmu (l * i.size) o hle
              have hLon := hLo.append hLn
              have hlenN : (B.cells (l * i.size) o ++ new).length = (l + m) * i.size := by rw [List.length_append, B.cells_length, hnl, ← Nat.add_mul]
              have holdone : ∀ u ∈ B.cells (l * i.size) o, u.oneCell' = true := by
                intro u hu
                obtain ⟨j, hj⟩ := List.getElem?_of_mem hu
                have hjl : j < l * i.size := by have := (List.getElem?_eq_some_iff.1 hj).1; rw [B.cells_length] at this; exact this
                rw [B.cells_get _ _ _ hjl] at hj
                cases hj
                exact (hr.cell b B r dd lim (o + j) hg hmu (by omega)).1
              have hNone : ∀ j, j < (l + m) * i.size → ∃ u y, (B.cells (l * i.size) o ++ new)[j]? = some u ∧ (⟨(l + m) * i.size, .bool false, NC, B.chain, false, an⟩ : Blk).cell j = u ∧ u.oneCell' = true ∧ (olds ++ news)[j]? = some y ∧ VR μ u y := by
                intro j hj
                have hx := List.getElem?_eq_getElem (l := B.cells (l * i.size) o ++ new) (i := j) (by rw [hlenN]; exact hj)
                obtain ⟨y, hy, hR⟩ := hLon.get hx
                refine ⟨_, y, hx, hcell j _ hx, ?_, hy, hR⟩
                rcases List.mem_append.1 (List.mem_of_getElem? hx) with hh | hh
                · exact holdone _ hh
                · exact one_eq new k5 _ hh
              have hcLen : ∀ K k rk dk limk, H.bl.get k = some K → μ k = some (rk, dk, limk) → base ≤ rk ∧ rk < w.heap.size ∧ dk + K.n ≤ limk ∧ ∀ i, i < limk → (∃ v, w.cell? ⟨rk, i, none⟩ = some v) ∧ w.fro ⟨rk, i, none⟩ = false := fun K k rk dk limk hK hm => hr.live k K rk dk limk hK hm
              by_cases hroom : l + m ≤ c'
              · -- there is room
                have hmul : (l + m) * i.size ≤ c' * i.size := Nat.mul_le_mul_right _ hroom
                have hadd : (l + m) * i.size = l * i.size + m * i.size := Nat.add_mul _ _ _
                have hcells : ∀ j, j < news.length → (w.cell? ⟨r, dd + o + l * i.size + j, none⟩).isSome = true ∧ w.frozen? ⟨r, dd + o + l * i.size + j, none⟩ = false := by
                  intro j hj
                  rw [hnl'] at hj
                  obtain ⟨⟨u, hu⟩, hfz⟩ := (hcLen B b r dd lim hg hmu).2.2.2 (dd + o + l * i.size + j) (by omega)
                  exact ⟨by rw [hu]; rfl, frozen_of_fro hfz⟩
                have hrun := run_app_room (P := P) (ty := ty) w ht ht' hd hi hlen (hfn w rfl) hroom hcells hnone
                have hin : ∀ j (hj : j < news.length), (w.setCells r (dd + o + l * i.size) news).cell? ⟨r, dd + o + l * i.size + j, none⟩ = some news[j] :=
                  World.cell?_setCells_in r news (dd + o + l * i.size) w (fun j hj => (hcells j hj).1)
                have hout : ∀ q j, (q = r → j < dd + o + l * i.size ∨ dd + o + l * i.size + news.length ≤ j) → (w.setCells r (dd + o + l * i.size) news).cell? ⟨q, j, none⟩ = w.cell? ⟨q, j, none⟩ := fun q j h =>
                  World.cell?_setCells_out r news (dd + o + l * i.size) w _ (fun e _ => h e)
                have hfro : ∀ y, (w.setCells r (dd + o + l * i.size) news).fro y = w.fro y := fun y => World.fro_setCells r news (dd + o + l * i.size) w y
                obtain ⟨q1, q2, q3⟩ := setCells_rest r news (dd + o + l * i.size) w
                have hany : ∀ q j u, w.cell? ⟨q, j, none⟩ = some u → ∃ u', (w.setCells r (dd + o + l * i.size) news).cell? ⟨q, j, none⟩ = some u' := by
                  intro q j u hu
                  by_cases hh : q = r ∧ dd + o + l * i.size ≤ j ∧ j < dd + o + l * i.size + news.length
                  · obtain ⟨e, ha, hb'⟩ := hh
                    subst e
                    have := hin (j - (dd + o + l * i.size)) (by omega)
                    rw [show dd + o + l * i.size + (j - (dd + o + l * i.size)) = j by omega] at this
                    exact ⟨_, this⟩
                  · exact ⟨u, by rw [hout q j (fun e => by omega)]; exact hu⟩
                have hE := ext_heap (NB := ⟨(l + m) * i.size, .bool false, NC, B.chain, false, an⟩) (w' := w.setCells r (dd + o + l * i.size) news) (r2 := r) (d2 := dd + o) (lim2 := lim) hw hr hfree hg hmu hst hnx rfl rfl (fun h => (hfu h).2) hnf hbl (by rw [setCells_size]; exact Nat.le_refl _)
                  (fun k K rk dk limk j hK hm hj hfb hfa => by
                    refine hout rk (dk + j) (fun e => ?_)
                    subst e
                    by_cases ek : k = b
                    · subst ek
                      rw [hg] at hK
                      cases hK
                      rw [hmu] at hm
                      cases hm
                      have := (hfu (hfb rfl)).1
                      left; omega
                    · have hch := hr.chain b B rk dd lim k K dk limk hg hmu hK hm
                      have hin' := hw.anc b B k K hg hK hch (Ne.symm ek) hst (by omega)
                      have hb2 := hr.below b B k K rk dd lim dk limk hg hst hin' hK (by omega) hmu hm
                      have := (hfu (hfa hin')).1
                      left; omega)
                  (fun k K rk dk limk j hK hm hj => by
                    obtain ⟨⟨u, hu⟩, hfz⟩ := (hcLen K k rk dk limk hK hm).2.2.2 j hj
                    exact ⟨hany rk j u hu, by rw [hfro]; exact hfz⟩)
                  ⟨(hcLen B b r dd lim hg hmu).1, by rw [setCells_size]; exact (hcLen B b r dd lim hg hmu).2.1, by show dd + o + (l + m) * i.size ≤ lim; omega⟩
                  (fun j hj => by
                    obtain ⟨⟨u, hu⟩, hfz⟩ := (hcLen B b r dd lim hg hmu).2.2.2 j hj
                    exact ⟨hany r j u hu, by rw [hfro]; exact hfz⟩)
                  (fun j hj => by
                    obtain ⟨u, y, hu, hce, hone1, hy, hR⟩ := hNone j hj
                    rw [hce]
                    refine ⟨hone1, y, ?_, hR⟩
                    by_cases hjl : j < l * i.size
                    · rw [hout r (dd + o + j) (fun _ => by omega)]
                      rw [List.getElem?_append_left (by omega)] at hy
                      exact hoc j y hy
                    · have hjlt : j - l * i.size < news.length := by rw [hnl']; have : j < (l + m) * i.size := hj; omega
                      have := hin (j - l * i.size) hjlt
                      rw [show dd + o + l * i.size + (j - l * i.size) = dd + o + j by omega] at this
                      rw [this]
                      rw [List.getElem?_append_right (by omega), hol', List.getElem?_eq_getElem hjlt] at hy
                      exact hy)
                  (fun k K dk limk hK hm => (hr.chain b B r dd lim k K dk limk hg hmu hK hm).symm)
                  (fun hfl x X d' lim' hor hX hp hm => by
                    have hfull := (hfu hfl).1
                    show d' + X.n ≤ dd + o + (l + m) * i.size
                    rcases hor with rfl | hin'
                    · rw [hg] at hX; cases hX; rw [hmu] at hm; cases hm; omega
                    · have hb2 := hr.below b B x X r dd lim d' lim' hg hst hin' hX hp hmu hm
                      omega)
                  (fun q hq hno => setCells_heap r q (fun e => hno b B dd lim hg (by rw [e]; exact hmu)) news _ w)
                  (.inr ⟨b, B, dd, lim, hg, hmu⟩) q1 q2 q3
                refine ⟨_, _, _, hrun, ?_, hE⟩
                exact .sl (o := 0) (d := dd + o) (lim := lim) (by unfold upd; rw [if_pos rfl]) hroom (.inr ⟨i.size, hcz, by omega⟩)
              · -- it grows
                have hgr : c' < l + m := by omega
                have hfo : ∀ w1 : World, w1.heap = w.heap → (Builtin.firstCells i.size l (.slice (some ⟨r, dd + o, none⟩) l c')).run P w1 = .ok ⟨olds⟩ w1 := by
                  intro w1 hw1
                  have hload := run_loadCells_list (P := P) w1 ⟨r, dd + o, none⟩ olds (fun j u hj => by
                    rw [add_off]
                    have := hoc j u hj
                    simpa [World.cell?, hw1] using this)
                  rw [hol'] at hload
                  simp [Builtin.firstCells, hload]
                have hrun := run_app_grow (P := P) (ty := ty) w ht ht' hd hi hzv hlen hfn hfo hgr hby hlm
                generalize hG : grownCap w (l + m) c' e = G at hrun
                have hGe : l + m ≤ G := by rw [← hG]; exact grownCap_ge _ _ _ _
                generalize hcs : olds ++ news ++ (Builtin.zeroCells zv.cells (G - (l + m))).toList = cs at hrun
                have hcl : cs.length = G * i.size := by
                  rw [← hcs, List.length_append, List.length_append, hzcl, hol', hnl', ← Nat.add_mul, ← Nat.add_mul]
                  congr 1
                  omega
                have hGm : (l + m) * i.size ≤ G * i.size := Nat.mul_le_mul_right _ hGe
                have hsz : (w.drew.alloc (.cells ⟨cs⟩ e)).heap.size = w.heap.size + 1 := by show (w.heap.push (.cells ⟨cs⟩ e)).size = w.heap.size + 1; exact Array.size_push _
                have hk : ∀ q, q < w.heap.size → (w.drew.alloc (.cells ⟨cs⟩ e)).heap[q]? = w.heap[q]? := fun q hq => heap_alloc_old w.drew _ q hq
                have hcn : ∀ j, (w.drew.alloc (.cells ⟨cs⟩ e)).cell? ⟨w.heap.size, j, none⟩ = cs[j]? := fun j => by
                  have h0 := World.cell?_alloc_new w.drew ⟨cs⟩ e j
                  rw [List.getElem?_toArray] at h0
                  exact h0
                have hE := ext_heap (NB := ⟨(l + m) * i.size, .bool false, NC, B.chain, false, an⟩) (w' := w.drew.alloc (.cells ⟨cs⟩ e)) (r2 := w.heap.size) (d2 := 0) (lim2 := cs.length) hw hr hfree hg hmu hst hnx rfl rfl (fun h => (hfu h).2) hnf hbl (by omega)
                  (fun k K rk dk limk j hK hm hj _ _ => by simp [World.cell?, hk rk (hcLen K k rk dk limk hK hm).2.1])
                  (fun k K rk dk limk j hK hm hj => by
                    obtain ⟨_, h2, _, h4⟩ := hcLen K k rk dk limk hK hm
                    obtain ⟨⟨u, hu⟩, hfz⟩ := h4 j hj
                    exact ⟨⟨u, by simpa [World.cell?, hk rk h2] using hu⟩, by simpa [World.fro, hk rk h2] using hfz⟩)
                  ⟨hb, by omega, by show 0 + (l + m) * i.size ≤ cs.length; omega⟩
                  (fun j hj => ⟨⟨cs[j], by rw [hcn, List.getElem?_eq_getElem hj]⟩, World.fro_alloc_new w.drew ⟨cs⟩ e j⟩)
                  (fun j hj => by
                    obtain ⟨u, y, hu, hce, hone1, hy, hR⟩ := hNone j hj
                    rw [hce]
                    refine ⟨hone1, y, ?_, hR⟩
                    rw [Nat.zero_add, hcn, ← hcs, List.getElem?_append_left (List.getElem?_eq_some_iff.1 hy).1]
                    exact hy)
                  (fun k K dk limk hK hm => absurd (hcLen K k _ dk limk hK hm).2.1 (Nat.lt_irrefl _))
                  (fun _ x X d' lim' _ hX _ hm => absurd (hcLen X x _ d' lim' hX hm).2.1 (Nat.lt_irrefl _))
                  (fun q hq _ => hk q hq) (.inl (Nat.le_refl _)) rfl rfl rfl
                refine ⟨_, _, _, hrun, ?_, hE⟩
                exact .sl (o := 0) (d := 0) (lim := cs.length) (by unfold upd; rw [if_pos rfl]) hGe (.inr ⟨i.size, hcz, by omega⟩)
  · cases h

end Go.Proofs.YtkmhbfgkhalaoaaGreatDoor.LM

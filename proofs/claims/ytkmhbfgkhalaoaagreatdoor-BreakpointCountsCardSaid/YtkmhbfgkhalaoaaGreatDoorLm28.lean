/- Regions that draw their order: the evaluator's answer is the machine's in every order. -/
import Derived.Test.YtkmhbfgkhalaoaaGreatDoorLm27
set_option linter.unusedVariables false
set_option linter.unusedSimpArgs false
set_option linter.unusedSectionVars false
namespace Go.Proofs.YtkmhbfgkhalaoaaGreatDoor.LM
open Go Go.RowKit

def cntL : List Bool → Nat
  | [] => 0
  | true :: r => cntL r
  | false :: r => cntL r + 1
theorem cntL_set : ∀ (l : List Bool) (i : Nat), l[i]? = some false → cntL (l.set i true) + 1 = cntL l := by
  intro l
  induction l with
  | nil => intro i h; simp at h
  | cons b r ih =>
    intro i h
    cases i with
    | zero => simp at h; subst h; rfl
    | succ i =>
      have := ih i (by simpa using h)
      cases b
      · simp only [List.set_cons_succ, cntL]; omega
      · simp only [List.set_cons_succ, cntL]; omega
theorem cntL_pos : ∀ (l : List Bool) (i : Nat), l[i]? = some false → 0 < cntL l := by
  intro l i h
  have := cntL_set l i h
  omega
theorem cntL_rep : ∀ n, cntL (List.replicate n false) = n := by
  intro n
  induction n with
  | zero => rfl
  | succ n ih => rw [List.replicate_succ]; simp only [cntL]; omega
theorem unl_at {listed : Array Bool} {i : Nat} (h : Unl listed i) : listed.toList[i]? = some false := by
  have hlt := h.lt
  unfold Unl at h
  simp [Array.getD_eq_getD_getElem?, hlt] at h
  simp [hlt, h]

section
variable {P : Program} {ih : Ctx} {env : Env} {fb : Nat} {rd : Option Nat} {ops : Array Oper} {nt base : Nat} {μ0 : Mu} {H0 : Heap} {w0 : World} {c0 : List Pl} {rest0 : List Stage}

theorem Ord.lt {D : List Nat} (h : Ord ops D) : ∀ x ∈ D, x < ops.size := by
  induction h with
  | nil => intro x hx; cases hx
  | cons h ho hx hp ih =>
    intro x hm
    rcases List.mem_cons.1 hm with rfl | hm
    · exact (Array.getElem?_eq_some_iff.1 ho).1
    · exact ih x hm
theorem Ord.listed {D : List Nat} (h : Ord ops D) {listed : Array Bool} (hs : listed.size = ops.size) (hr : Region.ready .any ops listed = []) : ∀ x ∈ D, ¬ Unl listed x := by
  induction h with
  | nil => intro x hx; cases hx
  | @cons y D o h ho hx hp ih =>
    intro x hm
    rcases List.mem_cons.1 hm with rfl | hm
    · intro hu
      have : x ∈ Region.ready .any ops listed := by
        rw [mem_ready]
        refine ⟨hu, o, ho, fun e he hb => ?_⟩
        have hpm : e.on ∈ predsA o := (predsA_iff _ _).2 ⟨e, he, hb, rfl⟩
        exact not_listed (by rw [hs]; exact h.lt _ (hp _ hpm)) (ih _ (hp _ hpm))
      rw [hr] at this
      cases this
    · exact ih x hm

theorem late_eq (s : Stage) (r : List Stage) : late (s :: r) = (match cheapLate (s.c :: idxs s.cheap) s.cheap with
      | true => match r with
        | [] => true
        | s' :: _ => match hasIn (s.c :: idxs s.cheap) (predsA s'.o) with | true => late r | false => false
      | false => false) := rfl
theorem late_tail {s : Stage} {r : List Stage} (h : late (s :: r) = true) : late r = true := by
  rw [late_eq] at h
  split at h
  · cases r with
    | nil => rfl
    | cons s' r' =>
      dsimp only at h
      split at h
      · exact h
      · cases h
  · cases h

/-- The region is run in whatever order comes up. -/
theorem region_any (hP : NoNum P) (hs : CtxOk P env ih) (hp : PF ops c0 rest0) {Q : Exit → Act → World → Prop} {tmF : Tr Value} {HF : Heap} {Dfin : List Nat} (hfin : ∀ i, i < ops.size → i ∈ Dfin)
    (hQ : ∀ a w μ, Good env fb μ base HF w tmF nt a → Ext μ0 H0 w0 μ HF w → Q .normal a w) :
    ∀ (fuel : Nat) (listed : Array Bool) (a : Act) (w : World) (μ : Mu) (E : List Ent) (D : List Nat) (W : List Rd) (rest : List Stage) (tm : Tr Value) (H : Heap),
    VI P ih env fb ops nt base μ0 H0 w0 listed a w μ E D W tm H → Stands ops rest → late rest = true → restOrder rest D = some Dfin → restA P ih ops.toList nt rest W tm H = some (tmF, HF) → cntL listed.toList = fuel →
    wpAnyIn (FR rd) 0 P .any ops Q fuel listed a w := by
  intro fuel
  have hdone : ∀ (listed : Array Bool) (a : Act) (w : World) (μ : Mu) (E : List Ent) (D : List Nat) (W : List Rd) (rest : List Stage) (tm : Tr Value) (H : Heap),
      VI P ih env fb ops nt base μ0 H0 w0 listed a w μ E D W tm H → Stands ops rest → restOrder rest D = some Dfin → restA P ih ops.toList nt rest W tm H = some (tmF, HF) → Region.ready .any ops listed = [] → Q .normal a w := by
    intro listed a w μ E D W rest tm H hv hst hro hra hr
    obtain ⟨o1, o2, o3⟩ := restOrder_ord _ _ _ hst hv.ord hro
    have hall := o1.listed hv.sz hr
    cases rest with
    | cons s r =>
      have hm : s.c ∈ restIdx (s :: r) := by rw [restIdx_cons]; exact List.mem_cons_self
      have hD := (o2 s.c).2 (.inr hm)
      exact absurd (hv.u2 s.c (o1.lt _ hD) (o3 _ hm)) (hall _ hD)
    | nil =>
      cases hra
      refine hQ a w μ ⟨hv.hw, hv.hr, hv.hb, fun t u hu => ?_, hv.fr, hv.ntq, hv.sd⟩ hv.ext
      rcases hv.tms t u hu with ⟨e', he', hl', _⟩ | h
      · exact absurd hl' (hall _ ((o2 _).2 (.inl (hv.eD e' he'))))
      · exact h
  induction fuel with
  | zero =>
    intro listed a w μ E D W rest tm H hv hst hlt hro hra hc
    have hr : Region.ready .any ops listed = [] := by
      cases hrr : Region.ready .any ops listed with
      | nil => rfl
      | cons j r =>
        have : j ∈ Region.ready .any ops listed := by rw [hrr]; exact List.mem_cons_self
        have hu := (mem_ready.1 this).1
        have := cntL_pos _ _ (unl_at hu)
        omega
    exact ⟨hr, hdone listed a w μ E D W rest tm H hv hst hro hra hr⟩
  | succ fuel ihf =>
    intro listed a w μ E D W rest tm H hv hst hlt hro hra hc
    refine ⟨hdone listed a w μ E D W rest tm H hv hst hro hra, fun i hi => ?_⟩
    obtain ⟨hu, o, ho, hall⟩ := mem_ready.1 hi
    have hpr : ∀ p ∈ predsA o, ¬ Unl listed p := by
      intro p hpm
      obtain ⟨e, he, hb, rfl⟩ := (predsA_iff _ _).1 hpm
      exact listed_not (hall e he hb)
    have hc' : cntL (listed.setIfInBounds i true).toList = fuel := by
      have := cntL_set _ _ (unl_at hu)
      rw [Array.toList_setIfInBounds]
      omega
    by_cases hiD : i ∈ D
    · obtain ⟨e, he, rfl⟩ := hv.u1 i hiD hu
      have heo := hv.eo e he
      rw [ho] at heo
      cases heo
      exact hv.exec hP hs hp he hu hpr (fun a' w' μ' hv' => ihf _ a' w' μ' E D W rest tm H hv' hst hlt hro hra hc')
    · obtain ⟨o1, o2, o3⟩ := restOrder_ord _ _ _ hst hv.ord hro
      have hin : i ∈ restIdx rest := by
        have := (o2 i).1 (hfin i (Array.getElem?_eq_some_iff.1 ho).1)
        exact this.resolve_left hiD
      cases rest with
      | nil => simp [restIdx] at hin
      | cons s r =>
        have hic : i = s.c := by
          refine Classical.byContradiction fun hne => ?_
          obtain ⟨p, hpm, hpr'⟩ := late_spec s r hst hlt i hin hne o ho
          exact hpr p hpm (hv.u2 p (o1.lt _ ((o2 p).2 (.inr hpr'))) (o3 p hpr'))
        subst hic
        have hso := (hst s (by simp)).1
        have hsR := (hst s (by simp)).2.1
        rw [ho] at hso
        cases hso
        obtain ⟨D1, hin1, hro'⟩ := restOrder_cons hro
        obtain ⟨hcD, hcp, hin2⟩ := inOrder_cons hin1
        have ht : TR μ (rst tm (looksL ops.toList s.o)) a := by
          intro t u hu2
          rw [rst_get] at hu2
          split at hu2
          · rename_i hm
            rcases hv.tms t u hu2 with ⟨e', he', hl', hd'⟩ | h
            · rcases hp.apart s.c s.o ho t hm e'.i e'.o (hv.eo e' he') hd' with h | h | h
              · exact absurd (by rw [← h]; exact hv.eD e' he') hcD
              · exact absurd hl' (hpr _ h)
              · exact absurd (hv.ord.closed (hv.eD e' he') (hv.eo e' he') _ h) hcD
            · exact h
          · cases hu2
        have hra' : (match wantedA ops.toList tm s.o with
          | some true => match opA P ih H tm s.o with
            | some (v, H') => match putT tm nt s.o.dst v with
              | some tm' => match again P ih H' s.R W with
                | some W' => match cheapA P ih ops.toList nt s.cheap W' tm' H' with
                  | some (W2, tm2, H2) => restA P ih ops.toList nt r W2 tm2 H2
                  | none => none
                | none => none
              | none => none
            | none => none
          | some false => match putT tm nt s.o.dst undef with
            | some tm' => match cheapA P ih ops.toList nt s.cheap W tm' H with
              | some (W2, tm2, H2) => restA P ih ops.toList nt r W2 tm2 H2
              | none => none
            | none => none
          | none => none) = some (tmF, HF) := hra
        unfold wpOpIn
        rw [ho]
        dsimp only
        split at hra'
        · rename_i hwt
          have hw := wantedA_eq (ops := ops) ht (by rw [wantedA_rst]; exact hwt)
          rw [if_pos hw]
          split at hra'
          · rename_i v H1 hop
            split at hra'
            · rename_i tm1 hput
              split at hra'
              · rename_i W1 hW1
                split at hra'
                · rename_i W2 tm2 H2 hch
                  refine opA_raw hP hs hv.hw hv.hr hv.hb ht hv.fr hv.sd.env (by rw [opA_congr ev_rst]; exact hop) (fun v' w' μ' hV hw' hr' hx' => ?_)
                  have hv1 := hv.chained hp ho hcD hcp hpr hput (W' := W1) hV hw' hr' hx' (fun q hq hn => by
                    rw [hsR] at hW1
                    obtain ⟨g1, H3, g2⟩ := again_spec _ _ hW1 q hq hn
                    refine ⟨g1, fun hk _ => ?_⟩
                    have := quiet_same (by rw [hk]; rfl) g2
                    rw [this] at g2
                    exact g2)
                  obtain ⟨E', hv2⟩ := VI.cheap hp _ _ _ _ _ _ _ _ _ _ (hst s (by simp)).2.2 hin2 hv1 hch
                  exact ihf _ _ _ μ' E' D1 W2 r tm2 H2 hv2 hst.tail (late_tail hlt) hro' hra' hc'
                · cases hra'
              · cases hra'
            · cases hra'
          · cases hra'
        · rename_i hwf
          have hw := wantedA_eq (ops := ops) ht (by rw [wantedA_rst]; exact hwf)
          rw [if_neg (by rw [hw]; decide)]
          refine ⟨fun _ _ => trivial, ?_⟩
          split at hra'
          · rename_i tm1 hput
            split at hra'
            · rename_i W2 tm2 H2 hch
              have hv1 := hv.chained hp ho hcD hcp hpr hput (W' := W) (v' := undef) (.tup rfl (fun i x y hx => by simp at hx)) hv.hw hv.hr (Ext.refl μ H w) (fun q hq hn => ⟨hq, fun _ h => h⟩)
              obtain ⟨E', hv2⟩ := VI.cheap hp _ _ _ _ _ _ _ _ _ _ (hst s (by simp)).2.2 hin2 hv1 hch
              exact ihf _ _ _ μ E' D1 W2 r tm2 H2 hv2 hst.tail (late_tail hlt) hro' hra' hc'
            · cases hra'
          · cases hra'
        · cases hra'

end

theorem drwA_ok {P : Program} (hP : NoNum P) (hm : P.follows .mixedOrders = true) : DrwOk P (drwA P) := by
  intro env ih hs rd id ops nt base fb μ H H' w tm tm' a g h
  unfold drwA at h
  split at h
  · rename_i c0 rest hpl
    have hp := planA_spec hpl
    obtain ⟨D0, D, h0, h1, hfin⟩ := hp.order
    split at h
    · rename_i W tm1 H1 hch
      refine wpIn_region_any hm ?_
      have hE : Ext μ H w μ H { w with drawn := w.drawn + 1 } := ⟨Nat.le_refl _, fun _ _ => rfl, fun _ B' _ h => ⟨B', h⟩, fun _ _ _ => rfl, fun _ _ _ => rfl, fun b _ _ _ h1 h2 => by omega, Nat.le_refl _, rfl, rfl, rfl⟩
      have hv : VI P ih env fb ops nt base μ H w (Array.replicate ops.size false) a { w with drawn := w.drawn + 1 } μ [] [] [] tm H := by
        refine ⟨g.hw, g.hr.same rfl, g.hb, g.fr, hE, g.nt, g.sd.ext g.hw g.fr hE, by simp, .nil,
          fun e he => (by cases he), fun e he => (by cases he), fun e he => (by cases he), fun i hi => (by cases hi), fun i hi _ => ?_, fun e he => (by cases he), fun e he => (by cases he), fun e he => (by cases he), fun e he => (by cases he), fun e he => (by cases he), fun e he => (by cases he), fun e he => (by cases he), fun t u hu => .inr (g.ht t u hu)⟩
        unfold Unl
        simp [hi]
      obtain ⟨E', hv1⟩ := VI.cheap hp _ _ _ _ _ _ _ _ _ _ hp.places h0 hv hch
      refine region_any hP hs hp hfin (fun a' w' μ' g' e' => ⟨rfl, μ', g', e'⟩) ops.size _ a _ μ E' D0 W rest tm1 H1 hv1 hp.stands hp.late h1 h ?_
      simp [cntL_rep]
    · cases h
  · cases h

end Go.Proofs.YtkmhbfgkhalaoaaGreatDoor.LM

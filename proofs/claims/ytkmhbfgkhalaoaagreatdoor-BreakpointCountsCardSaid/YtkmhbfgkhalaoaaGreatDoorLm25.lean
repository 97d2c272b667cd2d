/- What the plan of a region says. -/
import Derived.Test.YtkmhbfgkhalaoaaGreatDoorLm24
set_option linter.unusedVariables false
set_option linter.unusedSimpArgs false
set_option linter.unusedSectionVars false
namespace Go.Proofs.YtkmhbfgkhalaoaaGreatDoor.LM
open Go Go.RowKit

/-- An order in which nothing comes ahead of what it waits for. -/
inductive Ord (ops : Array Oper) : List Nat → Prop
  | nil : Ord ops []
  | cons {x : Nat} {D : List Nat} {o : Oper} (h : Ord ops D) (ho : ops[x]? = some o) (hx : x ∉ D) (hp : ∀ p ∈ predsA o, p ∈ D) : Ord ops (x :: D)

theorem Ord.closed {ops : Array Oper} {D : List Nat} (h : Ord ops D) {x : Nat} {o : Oper} (hx : x ∈ D) (ho : ops[x]? = some o) : ∀ p ∈ predsA o, p ∈ D := by
  induction h with
  | nil => cases hx
  | cons h ho' hx' hp ih =>
    intro p hm
    rcases List.mem_cons.1 hx with rfl | hx
    · rw [ho] at ho'; cases ho'; exact List.mem_cons_of_mem _ (hp p hm)
    · exact List.mem_cons_of_mem _ (ih hx p hm)

theorem inOrder_cons {p : Pl} {l : List Pl} {D D' : List Nat} (h : inOrder (p :: l) D = some D') : p.1 ∉ D ∧ (∀ q ∈ predsA p.2, q ∈ D) ∧ inOrder l (p.1 :: D) = some D' := by
  have h' : (match memN p.1 D with
    | true => none
    | false => match allN (fun q => memN q D) (predsA p.2) with
      | true => inOrder l (p.1 :: D)
      | false => none) = some D' := h
  split at h'
  · cases h'
  · rename_i hm
    split at h'
    · rename_i ha
      refine ⟨fun hc => ?_, fun q hq => ?_, h'⟩
      · rw [(memN_iff _ _).2 hc] at hm; cases hm
      · exact (memN_iff _ _).1 ((allN_iff _ _).1 ha q hq)
    · cases h'
theorem inOrder_ord {ops : Array Oper} : ∀ (l : List Pl) (D D' : List Nat), (∀ p ∈ l, ops[p.1]? = some p.2) → Ord ops D → inOrder l D = some D' → Ord ops D' ∧ (∀ x, x ∈ D' ↔ x ∈ D ∨ x ∈ idxs l) ∧ ∀ x ∈ idxs l, x ∉ D := by
  intro l
  induction l with
  | nil => intro D D' _ hD h; cases h; exact ⟨hD, fun x => by simp [idxs], fun x hx => by simp [idxs] at hx⟩
  | cons p r ih =>
    intro D D' hl hD h
    obtain ⟨h1, h2, h3⟩ := inOrder_cons h
    obtain ⟨g1, g2, g3⟩ := ih _ _ (fun q hq => hl q (List.mem_cons_of_mem _ hq)) (Ord.cons hD (hl p (by simp)) h1 h2) h3
    have e : idxs (p :: r) = p.1 :: idxs r := rfl
    refine ⟨g1, fun x => ?_, fun x hx => ?_⟩
    · rw [g2, e]; simp only [List.mem_cons]
      constructor
      · rintro ((h | h) | h)
        · exact .inr (.inl h)
        · exact .inl h
        · exact .inr (.inr h)
      · rintro (h | h | h)
        · exact .inl (.inr h)
        · exact .inl (.inl h)
        · exact .inr h
    · rw [e] at hx
      rcases List.mem_cons.1 hx with rfl | hx
      · exact h1
      · exact fun hc => g3 x hx (List.mem_cons_of_mem _ hc)

theorem restOrder_cons {s : Stage} {l : List Stage} {D D' : List Nat} (h : restOrder (s :: l) D = some D') : ∃ D1, inOrder ((s.c, s.o) :: s.cheap) D = some D1 ∧ restOrder l D1 = some D' := by
  have h' : (match inOrder ((s.c, s.o) :: s.cheap) D with
    | some D' => restOrder l D'
    | none => none) = some D' := h
  split at h'
  · rename_i D1 h1; exact ⟨D1, h1, h'⟩
  · cases h'
/-- What stands in the stages. -/
def Stands (ops : Array Oper) (l : List Stage) : Prop := ∀ s ∈ l, ops[s.c]? = some s.o ∧ s.R = predsA s.o ∧ ∀ p ∈ s.cheap, ops[p.1]? = some p.2
theorem Stands.tail {ops : Array Oper} {s : Stage} {l : List Stage} (h : Stands ops (s :: l)) : Stands ops l := fun x hx => h x (List.mem_cons_of_mem _ hx)
theorem Stands.head {ops : Array Oper} {s : Stage} {l : List Stage} (h : Stands ops (s :: l)) : ∀ p ∈ ((s.c, s.o) :: s.cheap), ops[p.1]? = some p.2 := by
  intro p hp
  rcases List.mem_cons.1 hp with rfl | hp
  · exact (h s (by simp)).1
  · exact (h s (by simp)).2.2 p hp
theorem restIdx_cons (s : Stage) (l : List Stage) : restIdx (s :: l) = s.c :: (idxs s.cheap ++ restIdx l) := rfl
theorem idxs_cons (p : Pl) (l : List Pl) : idxs (p :: l) = p.1 :: idxs l := rfl
theorem restOrder_ord {ops : Array Oper} : ∀ (l : List Stage) (D D' : List Nat), Stands ops l → Ord ops D → restOrder l D = some D' → Ord ops D' ∧ (∀ x, x ∈ D' ↔ x ∈ D ∨ x ∈ restIdx l) ∧ ∀ x ∈ restIdx l, x ∉ D := by
  intro l
  induction l with
  | nil => intro D D' _ hD h; cases h; exact ⟨hD, fun x => by simp [restIdx], fun x hx => by simp [restIdx] at hx⟩
  | cons s r ih =>
    intro D D' hl hD h
    obtain ⟨D1, h1, h2⟩ := restOrder_cons h
    obtain ⟨g1, g2, g3⟩ := inOrder_ord _ _ _ hl.head hD h1
    obtain ⟨k1, k2, k3⟩ := ih _ _ hl.tail g1 h2
    refine ⟨k1, fun x => ?_, fun x hx hc => ?_⟩
    · rw [k2, g2, restIdx_cons, idxs_cons]
      simp only [List.mem_cons, List.mem_append]
      constructor
      · rintro ((h | h | h) | h)
        · exact .inl h
        · exact .inr (.inl h)
        · exact .inr (.inr (.inl h))
        · exact .inr (.inr (.inr h))
      · rintro (h | h | h | h)
        · exact .inl (.inl h)
        · exact .inl (.inr (.inl h))
        · exact .inl (.inr (.inr h))
        · exact .inr h
    · rw [restIdx_cons] at hx
      rcases List.mem_cons.1 hx with rfl | hx
      · exact g3 s.c (by rw [idxs_cons]; exact List.mem_cons_self) hc
      · rcases List.mem_append.1 hx with hx | hx
        · exact g3 x (by rw [idxs_cons]; exact List.mem_cons_of_mem _ hx) hc
        · exact k3 x hx ((g2 x).2 (.inl hc))

theorem hasIn_iff {L l : List Nat} : hasIn L l = true ↔ ∃ p ∈ l, p ∈ L := by
  unfold hasIn
  rw [anyN_iff]
  simp only [memN_iff]
theorem cheapLate_spec {L : List Nat} : ∀ (l : List Pl), cheapLate L l = true → ∀ p ∈ l, ∃ q ∈ predsA p.2, q ∈ L := by
  intro l
  induction l with
  | nil => intro _ p hp; cases hp
  | cons x r ih =>
    intro h p hp
    have h' : (match hasIn L (predsA x.2) with | true => cheapLate L r | false => false) = true := h
    split at h'
    · rename_i h1
      rcases List.mem_cons.1 hp with rfl | hp
      · exact hasIn_iff.1 h1
      · exact ih h' p hp
    · cases h'
/-- What is late waits for something that has not been done. -/
theorem late_spec {ops : Array Oper} : ∀ (s : Stage) (l : List Stage), Stands ops (s :: l) → late (s :: l) = true → ∀ i ∈ restIdx (s :: l), i ≠ s.c → ∀ o, ops[i]? = some o → ∃ p ∈ predsA o, p ∈ restIdx (s :: l) := by
  intro s l
  induction l generalizing s with
  | nil =>
    intro hs h i hi hne o ho
    have h' : (match cheapLate (s.c :: idxs s.cheap) s.cheap with
      | true => true
      | false => false) = true := h
    split at h'
    · rename_i h1
      rw [restIdx_cons] at hi
      rcases List.mem_cons.1 hi with rfl | hi
      · exact absurd rfl hne
      · simp only [restIdx, List.append_nil, idxs_map, List.mem_map] at hi
        obtain ⟨p, hp, rfl⟩ := hi
        have := (hs s (by simp)).2.2 p hp
        rw [ho] at this
        cases this
        obtain ⟨q, hq, hL⟩ := cheapLate_spec _ h1 p hp
        exact ⟨q, hq, by simpa [restIdx] using hL⟩
    · cases h'
  | cons s' r ih =>
    intro hs h i hi hne o ho
    have h' : (match cheapLate (s.c :: idxs s.cheap) s.cheap with
      | true => match hasIn (s.c :: idxs s.cheap) (predsA s'.o) with | true => late (s' :: r) | false => false
      | false => false) = true := h
    split at h'
    · rename_i h1
      split at h'
      · rename_i h2
        rw [restIdx_cons] at hi
        rcases List.mem_cons.1 hi with rfl | hi
        · exact absurd rfl hne
        · rcases List.mem_append.1 hi with hi | hi
          · rw [idxs_map, List.mem_map] at hi
            obtain ⟨p, hp, rfl⟩ := hi
            have := (hs s (by simp)).2.2 p hp
            rw [ho] at this
            cases this
            obtain ⟨q, hq, hL⟩ := cheapLate_spec _ h1 p hp
            refine ⟨q, hq, ?_⟩
            rw [restIdx_cons]
            rcases List.mem_cons.1 hL with rfl | hL
            · exact List.mem_cons_self
            · exact List.mem_cons_of_mem _ (List.mem_append.2 (.inl hL))
          · by_cases e : i = s'.c
            · subst e
              have := (hs.tail s' (by simp)).1
              rw [ho] at this
              cases this
              obtain ⟨q, hq, hL⟩ := hasIn_iff.1 h2
              refine ⟨q, hq, ?_⟩
              rw [restIdx_cons]
              rcases List.mem_cons.1 hL with rfl | hL
              · exact List.mem_cons_self
              · exact List.mem_cons_of_mem _ (List.mem_append.2 (.inl hL))
            · obtain ⟨q, hq, hL⟩ := ih s' hs.tail h' i hi e o ho
              exact ⟨q, hq, by rw [restIdx_cons]; exact List.mem_cons_of_mem _ (List.mem_append.2 (.inr hL))⟩
      · cases h'
    · cases h'

/-! ### Where the places stand -/
theorem stagesA_places {ops : List Oper} : ∀ (l : List Oper) (i k : Nat) (st : Tr Nat), ops.drop i = l → ∀ x ∈ stagesA l i k st, ops[x.2.2.1]? = some x.2.2.2 := by
  intro l
  induction l with
  | nil => intro i k st _ x hx; cases hx
  | cons o r ih =>
    intro i k st hd x hx
    have ho : ops[i]? = some o := by
      have : (ops.drop i)[0]? = some o := by rw [hd]; rfl
      rw [List.getElem?_drop] at this
      simpa using this
    have hr : ops.drop (i + 1) = r := by rw [← List.drop_drop, hd]; rfl
    have hx' : x ∈ (match isChain o with
      | true => fNat (Nat.succ k) fun k => st.put i k fun st => (true, k, (i, o)) :: stagesA r (Nat.succ i) k st
      | false => fNat (maxAt st (predsA o)) fun s => st.put i s fun st => (false, s, (i, o)) :: stagesA r (Nat.succ i) k st) := hx
    split at hx'
    · rw [fNat_eq, Tr.put_eq] at hx'
      rcases List.mem_cons.1 hx' with rfl | hx'
      · exact ho
      · exact ih _ _ _ hr x hx'
    · rw [fNat_eq, Tr.put_eq] at hx'
      rcases List.mem_cons.1 hx' with rfl | hx'
      · exact ho
      · exact ih _ _ _ hr x hx'
theorem cheapOf_mem {s : Nat} : ∀ (l : List (Bool × Nat × Pl)) (p : Pl), p ∈ cheapOf s l → ∃ x ∈ l, x.2.2 = p := by
  intro l
  induction l with
  | nil => intro p hp; cases hp
  | cons x r ih =>
    intro p hp
    have hp' : p ∈ (match x with
      | (false, k, p) => match Nat.beq k s with | true => p :: cheapOf s r | false => cheapOf s r
      | (true, _, _) => cheapOf s r) := hp
    obtain ⟨b, k, q⟩ := x
    cases b with
    | true => obtain ⟨y, hy, e⟩ := ih p hp'; exact ⟨y, List.mem_cons_of_mem _ hy, e⟩
    | false =>
      dsimp only at hp'
      split at hp'
      · rcases List.mem_cons.1 hp' with rfl | hp'
        · exact ⟨_, List.mem_cons_self, rfl⟩
        · obtain ⟨y, hy, e⟩ := ih p hp'; exact ⟨y, List.mem_cons_of_mem _ hy, e⟩
      · obtain ⟨y, hy, e⟩ := ih p hp'; exact ⟨y, List.mem_cons_of_mem _ hy, e⟩
theorem restOf_mem {all : List (Bool × Nat × Pl)} : ∀ (l : List (Bool × Nat × Pl)) (s : Stage), s ∈ restOf all l → (∃ x ∈ l, x.2.2 = (s.c, s.o)) ∧ s.R = predsA s.o ∧ ∃ k, s.cheap = cheapOf k all := by
  intro l
  induction l with
  | nil => intro s hs; cases hs
  | cons x r ih =>
    intro s hs
    have hs' : s ∈ (match x with
      | (true, k, (i, o)) => (⟨i, o, predsA o, cheapOf k all⟩ : Stage) :: restOf all r
      | (false, _, _) => restOf all r) := hs
    obtain ⟨b, k, i, o⟩ := x
    cases b with
    | false => obtain ⟨⟨y, hy, e⟩, h⟩ := ih s hs'; exact ⟨⟨y, List.mem_cons_of_mem _ hy, e⟩, h⟩
    | true =>
      rcases List.mem_cons.1 hs' with rfl | hs'
      · exact ⟨⟨_, List.mem_cons_self, rfl⟩, rfl, k, rfl⟩
      · obtain ⟨⟨y, hy, e⟩, h⟩ := ih s hs'; exact ⟨⟨y, List.mem_cons_of_mem _ hy, e⟩, h⟩

theorem covered_spec {seen : List Nat} : ∀ (n : Nat), covered seen n = true → ∀ i, i < n → i ∈ seen := by
  intro n
  induction n with
  | zero => intro _ i hi; omega
  | succ n ih =>
    intro h i hi
    have h' : (match memN n seen with | true => covered seen n | false => false) = true := h
    split at h'
    · rename_i h1
      by_cases e : i = n
      · subst e; exact (memN_iff _ _).1 h1
      · exact ih h' i (by omega)
    · cases h'

/-! ### Temporaries -/
theorem dstTr_spec : ∀ (l : List Oper) (i : Nat) (t t' : Tr Nat), dstTr l i t = some t' → (∀ d k, t.get d = some k → t'.get d = some k) ∧ ∀ k o d, l[k]? = some o → o.dst = some d → t'.get d = some (i + k) := by
  intro l
  induction l with
  | nil => intro i t t' h; cases h; exact ⟨fun _ _ h => h, fun k o d h => by simp at h⟩
  | cons o r ih =>
    intro i t t' h
    have h' : (match o.dst with
      | none => dstTr r (Nat.succ i) t
      | some d => match t.get d with
        | some _ => none
        | none => t.put d i fun t => dstTr r (Nat.succ i) t) = some t' := h
    split at h'
    · rename_i hd
      obtain ⟨h1, h2⟩ := ih _ _ _ h'
      refine ⟨h1, fun k q d hk hq => ?_⟩
      cases k with
      | zero => simp at hk; subst hk; rw [hd] at hq; cases hq
      | succ k => rw [h2 k q d (by simpa using hk) hq]; congr 1; omega
    · rename_i d0 hd
      split at h'
      · cases h'
      · rename_i hn
        rw [Tr.put_eq] at h'
        obtain ⟨h1, h2⟩ := ih _ _ _ h'
        refine ⟨fun d k hk => h1 d k ?_, fun k q d hk hq => ?_⟩
        · rw [Tr.get_set, if_neg (fun e => by rw [e, hn] at hk; cases hk)]; exact hk
        · cases k with
          | zero =>
            simp at hk; subst hk
            rw [hd] at hq; cases hq
            exact h1 _ _ (by rw [Tr.get_set, if_pos rfl]; rfl)
          | succ k => rw [h2 k q d (by simpa using hk) hq]; congr 1; omega

def Apart1 (ops : List Oper) (dt : Tr Nat) (o : Oper) (i : Nat) : Prop := ∀ t ∈ looksL ops o, ∀ k, dt.get t = some k → k = i ∨ k ∈ predsA o ∨ ∃ q, ops[k]? = some q ∧ i ∈ predsA q
theorem apartOk_spec {ops : List Oper} {dt : Tr Nat} : ∀ (l : List Oper) (i : Nat), apartOk ops dt l i = true → ∀ k o, l[k]? = some o → Apart1 ops dt o (i + k) := by
  intro l
  induction l with
  | nil => intro i _ k o hk; simp at hk
  | cons x r ih =>
    intro i h k o hk
    have h' : (match allN (fun t => match dt.get t with
      | none => true
      | some k => match Nat.beq k i with
        | true => true
        | false => match memN k (predsA x) with
          | true => true
          | false => match nth ops k with
            | some q => memN i (predsA q)
            | none => false) (looksL ops x) with
      | true => apartOk ops dt r (Nat.succ i)
      | false => false) = true := h
    split at h'
    · rename_i ha
      cases k with
      | zero =>
        simp at hk; subst hk
        intro t ht k hk
        have := (allN_iff _ _).1 ha t ht
        simp only [hk] at this
        split at this
        · rename_i e; exact .inl (Nat.eq_of_beq_eq_true e)
        · split at this
          · rename_i e; exact .inr (.inl ((memN_iff _ _).1 e))
          · split at this
            · rename_i q hq
              rw [nth_eq] at hq
              exact .inr (.inr ⟨q, hq, (memN_iff _ _).1 this⟩)
            · cases this
      | succ k =>
        have := ih (i + 1) h' k o (by simpa using hk)
        rw [show i + (k + 1) = i + 1 + k by omega]
        exact this
    · cases h'

/-! ### All of it -/
structure PF (ops : Array Oper) (c0 : List Pl) (rest : List Stage) : Prop where
  places : ∀ p ∈ c0, ops[p.1]? = some p.2
  stands : Stands ops rest
  order : ∃ D0 D, inOrder c0 [] = some D0 ∧ restOrder rest D0 = some D ∧ ∀ i, i < ops.size → i ∈ D
  late : late rest = true
  dsts : ∀ (i j : Nat) (oi oj : Oper) (t : Tmp), ops[i]? = some oi → ops[j]? = some oj → oi.dst = some t → oj.dst = some t → i = j
  apart : ∀ (i : Nat) (oi : Oper), ops[i]? = some oi → ∀ t ∈ looksL ops.toList oi, ∀ (k : Nat) (ok : Oper), ops[k]? = some ok → ok.dst = some t → k = i ∨ k ∈ predsA oi ∨ i ∈ predsA ok

theorem planA_spec {ops : Array Oper} {c0 : List Pl} {rest : List Stage} (h : planA ops.toList = some ⟨c0, rest⟩) : PF ops c0 rest := by
  unfold planA at h
  generalize hall : stagesA ops.toList 0 0 .nil = all at h
  have hpl : ∀ x ∈ all, ops[x.2.2.1]? = some x.2.2.2 := by
    intro x hx
    rw [← hall] at hx
    have := stagesA_places (ops := ops.toList) ops.toList 0 0 .nil rfl x hx
    simpa using this
  dsimp only at h
  split at h
  · rename_i D0 h0
    split at h
    · rename_i D h1
      split at h
      · rename_i hc
        split at h
        · rename_i hl
          split at h
          · rename_i dt hdt
            split at h
            · rename_i ha
              have hh := Option.some.inj h
              injection hh with e1 e2
              subst e1
              subst e2
              have hdt' : ∀ k o d, ops[k]? = some o → o.dst = some d → dt.get d = some k := by
                intro k o d hk hd
                have := (dstTr_spec _ _ _ _ hdt).2 k o d (by simpa using hk) hd
                rwa [Nat.zero_add] at this
              refine ⟨fun p hp => ?_, fun s hs => ?_, ⟨D0, D, h0, h1, fun i hi => covered_spec _ hc i (by simpa using hi)⟩, hl, fun i j oi oj t hi hj hdi hdj => ?_, fun i oi hi t ht k ok hk hd => ?_⟩
              · obtain ⟨x, hx, rfl⟩ := cheapOf_mem _ _ hp
                exact hpl x hx
              · obtain ⟨⟨x, hx, e⟩, hR, k, hk⟩ := restOf_mem _ _ hs
                refine ⟨?_, hR, fun p hp => ?_⟩
                · have := hpl x hx
                  rw [e] at this
                  exact this
                · rw [hk] at hp
                  obtain ⟨x, hx, rfl⟩ := cheapOf_mem _ _ hp
                  exact hpl x hx
              · have a1 := hdt' i oi t hi hdi
                have a2 := hdt' j oj t hj hdj
                rw [a1] at a2
                exact Option.some.inj a2
              · have a1 := apartOk_spec _ _ ha i oi (by simpa using hi) t ht k (hdt' k ok t hk hd)
                rw [Nat.zero_add] at a1
                rcases a1 with e | e | ⟨q, hq, hm⟩
                · exact .inl e
                · exact .inr (.inl e)
                · have : ops[k]? = some q := by simpa using hq
                  rw [hk] at this
                  cases this
                  exact .inr (.inr hm)
            · cases h
          · cases h
        · cases h
      · cases h
    · cases h
  · cases h

end Go.Proofs.YtkmhbfgkhalaoaaGreatDoor.LM

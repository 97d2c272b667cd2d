/- Operations on numbers, bools, strings and structs. -/
import Derived.Test.YtkmhbfgkhalaoaaGreatDoorLm6
import Derived.Laws.StructEq
import Derived.Laws.Concat
set_option linter.unusedVariables false
set_option linter.unusedSimpArgs false
set_option linter.unusedSectionVars false
namespace Go.Proofs.YtkmhbfgkhalaoaaGreatDoor.LM
open Go Go.RowKit

theorem addI_eq (a b : Int) : addI a b = a + b := by cases a <;> cases b <;> rfl
theorem mulI_eq (a b : Int) : mulI a b = a * b := by cases a <;> cases b <;> rfl
theorem divI_eq (a b : Int) : divI a b = a.tdiv b := by cases a <;> cases b <;> rfl
theorem modI_eq (a b : Int) : modI a b = a.tmod b := by cases a <;> cases b <;> rfl
theorem subI_eq (a b : Int) : subI a b = a - b := by
  cases a with
  | negSucc m => cases b <;> rfl
  | ofNat m =>
    cases b with
    | negSucc n => rfl
    | ofNat n =>
      simp only [subI]
      cases h : Nat.ble n m
      · have h' : ¬ n ≤ m := fun e => by rw [Nat.ble_eq_true_of_le e] at h; cases h
        show Int.negSucc (n - m - 1) = (m : Int) - (n : Int)
        rw [Int.negSucc_eq]; omega
      · have h' := Nat.le_of_ble_eq_true h
        show ((m - n : Nat) : Int) = (m : Int) - (n : Int)
        omega
theorem wrap_small {m : Nat} (h : m < 4611686018427387904) : IntKind.i64.wrap (m : Int) = (m : Int) := by
  have e : (m : Int) % (2 ^ IntKind.i64.bits : Int) = (m : Int) := by
    show (m : Int) % (2 ^ 64 : Int) = (m : Int)
    omega
  unfold IntKind.wrap
  simp only [e]
  rw [if_neg]
  show ¬ ((true && decide ((m : Int) ≥ (2 ^ 63 : Int))) = true)
  simp
  omega
theorem wrp_eq {β : Type} (k : IntKind) (n : Int) (f : Int → β) : wrp k n f = f (k.wrap n) := by
  unfold wrp
  split
  · rename_i m
    rw [fNat_eq]
    cases h : Nat.blt m 4611686018427387904
    · rw [cond_false, fInt_eq]
    · rw [cond_true]
      have := wrap_small (m := m) (by rwa [Nat.blt_eq] at h)
      show f (Int.ofNat m) = f (IntKind.i64.wrap (Int.ofNat m))
      exact congrArg f this.symm
  · rw [fInt_eq]
theorem beqB_eq (x : List UInt8) : ∀ y, beqB x y = (x == y) := by
  induction x with
  | nil => intro y; cases y <;> rfl
  | cons a r ih =>
    intro y
    cases y with
    | nil => rfl
    | cons b s =>
      show (bif Nat.beq a.toNat b.toNat then beqB r s else false) = _
      rw [List.cons_beq_cons, ih]
      cases h : Nat.beq a.toNat b.toNat
      · have : a ≠ b := fun e => by subst e; rw [Nat.beq_refl] at h; cases h
        simp [this]
      · have : a = b := UInt8.toNat_inj.1 (Nat.eq_of_beq_eq_true h)
        simp [this]

theorem agg_inv {μ : Mu} {xs : Array Value} {v : Value} (h : VR μ (.agg xs) v) : ∃ ys : List Value, v = .agg ⟨ys⟩ ∧ LR μ xs.toList ys := by
  generalize hx : Value.agg xs = x at h
  cases h with
  | flat h => subst hx; exact absurd h Bool.false_ne_true
  | agg hn hs => cases hx; exact ⟨_, rfl, hn, hs⟩
  | _ => cases hx
theorem tup_inv {μ : Mu} {xs : Array Value} {v : Value} (h : VR μ (.tuple xs) v) : ∃ ys : List Value, v = .tuple ⟨ys⟩ ∧ LR μ xs.toList ys := by
  generalize hx : Value.tuple xs = x at h
  cases h with
  | flat h => subst hx; exact absurd h Bool.false_ne_true
  | tup hn hs => cases hx; exact ⟨_, rfl, hn, hs⟩
  | _ => cases hx

theorem part_run {P : Program} {μ : Mu} {t : TypeId} {xs ys : List Value} {off : Nat} {v : Value} (w : World) (hL : LR μ xs ys) (h : partA P t xs off = some v) : ∃ v', (part t ⟨ys⟩ off).run P w = .ok v' w ∧ VR μ v v' := by
  unfold partA at h
  split at h
  · rename_i ha
    split at h
    · rename_i n hn
      cases h
      refine ⟨.agg ⟨(ys.drop off).take n⟩, ?_, ?_⟩
      · have e : (⟨ys⟩ : Array Value).extract off (off + n) = ⟨(ys.drop off).take n⟩ := by apply Array.ext'; simp [List.extract]
        simp [part, isAgg_run w ha, sizeOf_run w hn, e]
      · have := (hL.drop off).take n
        exact .agg this.1 this.2
    · cases h
  · rename_i ha
    rw [nth_eq] at h
    obtain ⟨y, hy, hR⟩ := hL.get h
    exact ⟨y, by simp [part, isAgg_run w ha, hy], hR⟩
  · cases h

theorem eqT_succ (P : Program) (n : Nat) (t : TypeId) (x y : Value) : eqT P (n + 1) t x y = (match P.underlying t with
      | some (.struct fs) => match x, y with
        | .agg xs, .agg ys => match P.stoodInHeld t with
          | true => none
          | false => eqFs P (eqT P n) xs.toList ys.toList fs.toList
        | _, _ => none
      | some (.int _) => match x, y with
        | .int k a, .int k' b => bif keq k k' then some (ieq a b) else none
        | _, _ => none
      | some .bool => match x, y with
        | .bool a, .bool b => some (a == b)
        | _, _ => none
      | some .string => match x, y with
        | .string a, .string b => some (beqB a.data.toList b.data.toList)
        | _, _ => none
      | _ => none) := rfl
theorem eqFs_cons (P : Program) (ih : TypeId → Value → Value → Option Bool) (xs ys : List Value) (f : Field) (r : List Field) : eqFs P ih xs ys (f :: r) = (match f.name == "_" with
              | true => eqFs P ih xs ys r
              | false => match partA P f.type xs f.offset with
                | some a => match partA P f.type ys f.offset with
                  | some b => match ih f.type a b with
                    | some true => eqFs P ih xs ys r
                    | r => r
                  | none => none
                | none => none) := rfl
theorem eqT_run {P : Program} {μ : Mu} (w : World) : ∀ (n : Nat) (t : TypeId) (x y x' y' : Value) (b : Bool), eqT P n t x y = some b → VR μ x x' → VR μ y y' → (Op.equalIn n t x' y').run P w = .ok b w := by
  intro n
  induction n with
  | zero => intro t x y x' y' b h; cases h
  | succ n ih =>
    intro t x y x' y' b h hx hy
    rw [eqT_succ] at h
    have h' := h
    clear h
    split at h'
    · rename_i fs hu
      split at h'
      · rename_i xs ys
        split at h'
        · cases h'
        · rename_i hs
          obtain ⟨us, rfl, hU⟩ := agg_inv hx
          obtain ⟨vs, rfl, hV⟩ := agg_inv hy
          have hf : P.fieldsOf t = fs := by simp [Program.fieldsOf, hu]
          rw [run_equalIn_struct w n t _ _ (by rw [hf]; exact hu) hs, hf]
          generalize fs.toList = l at h'
          clear hf hu hs
          induction l generalizing b with
          | nil =>
            have h' : some true = some b := h'
            cases h'
            simp [Op.eqFields]
          | cons f r ihl =>
            rw [eqFs_cons] at h'
            have h2 := h'
            clear h'
            split at h2
            · rename_i hn
              have hn' : f.name = "_" := eq_of_beq hn
              have := ihl b h2
              simp [Op.eqFields, hn', this]
            · rename_i hn
              have hn' : ¬ f.name = "_" := fun e => by rw [e] at hn; cases hn
              split at h2
              · rename_i p hp
                split at h2
                · rename_i q hq
                  obtain ⟨p', hp1, hp2⟩ := part_run w hU hp
                  obtain ⟨q', hq1, hq2⟩ := part_run w hV hq
                  split at h2
                  · rename_i he
                    have := ih _ _ _ _ _ _ he hp2 hq2
                    have h3 := ihl b h2
                    simp [Op.eqFields, hn', hp1, hq1, this, h3]
                  · rename_i he
                    cases b with
                    | true => exact absurd h2 he
                    | false =>
                      have := ih _ _ _ _ _ _ h2 hp2 hq2
                      simp [Op.eqFields, hn', hp1, hq1, this]
                · cases h2
              · cases h2
      · cases h'
    · rename_i k hu
      split at h'
      · rename_i k1 a k2 b'
        cases hk : keq k1 k2 <;> rw [hk] at h' <;> simp only [cond_true, cond_false] at h'
        · cases h'
        · rw [int_inv hx, int_inv hy, ← keq_eq hk, run_equalIn_int w n t _ _ _ _ hu, ← Option.some.inj h']
          congr 1
          rw [Bool.eq_iff_iff, ieq_eq, beq_iff_eq]
      · cases h'
    · rename_i hu
      split at h'
      · rw [bool_inv hx, bool_inv hy, run_equalIn_bool w n t _ _ hu, Option.some.inj h']
      · cases h'
    · rename_i hu
      split at h'
      · rw [string_inv hx, string_inv hy, run_equalIn_string w n t _ _ hu, ← Option.some.inj h', beqB_eq, ByteArray.toList_eq, ByteArray.toList_eq]
      · cases h'
    · cases h'

end Go.Proofs.YtkmhbfgkhalaoaaGreatDoor.LM

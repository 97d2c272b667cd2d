/- Closed calls: what is checked of a program, once; the bytes' two functions. -/
import Derived.Test.YtkmhbfgkhalaoaaGreatDoorLm29
import Derived.Lib.Bytealg
import Derived.Laws.StandIn
import Derived.Below
set_option linter.unusedVariables false
set_option linter.unusedSimpArgs false
set_option linter.unusedSectionVars false
namespace Go.Proofs.YtkmhbfgkhalaoaaGreatDoor.LM
open Go Go.RowKit

/-! ### The two functions of bytes -/
theorem firstB_eq (c : Nat) (hc : c < 256) : ∀ (l : List UInt8) (i : Nat), (match firstB c l i with | some k => (Int.ofNat k) | none => (-1 : Int)) = if Lib.indexByte l c.toUInt8 = -1 then -1 else Lib.indexByte l c.toUInt8 + i := by
  intro l
  induction l with
  | nil => intro i; simp [firstB, Lib.indexByte]
  | cons b r ih =>
    intro i
    have hb : (b == c.toUInt8) = Nat.beq b.toNat c := by
      cases h : Nat.beq b.toNat c
      · have := Nat.ne_of_beq_eq_false h
        simp only [beq_eq_false_iff_ne, ne_eq]
        intro e
        subst e
        exact this (by simp [Nat.toUInt8]; omega)
      · have := Nat.eq_of_beq_eq_true h
        subst this
        simp
    show (match (match Nat.beq b.toNat c with | true => some i | false => firstB c r (Nat.succ i)) with | some k => (Int.ofNat k) | none => (-1 : Int)) = _
    unfold Lib.indexByte
    rw [hb]
    cases h : Nat.beq b.toNat c
    · simp only [Bool.false_eq_true, if_false]
      rw [ih]
      have := Lib.indexByte_ge r c.toUInt8
      by_cases e : Lib.indexByte r c.toUInt8 = -1
      · simp [e]
      · have e' : (Lib.indexByte r c.toUInt8 == -1) = false := by simpa using e
        rw [if_neg e, e']
        simp only [Bool.false_eq_true, if_false]
        rw [if_neg (by omega)]
        omega
    · simp
theorem countB_eq (c : Nat) (hc : c < 256) (l : List UInt8) : countB c l = Lib.countByte l c.toUInt8 := by
  induction l with
  | nil => rfl
  | cons b r ih =>
    have hb : (b == c.toUInt8) = Nat.beq b.toNat c := by
      cases h : Nat.beq b.toNat c
      · have := Nat.ne_of_beq_eq_false h
        simp only [beq_eq_false_iff_ne, ne_eq]
        intro e
        subst e
        exact this (by simp [Nat.toUInt8]; omega)
      · have := Nat.eq_of_beq_eq_true h
        subst this
        simp
    show (match Nat.beq b.toNat c with | true => Nat.succ (countB c r) | false => countB c r) = _
    unfold Lib.countByte
    rw [List.count_cons, hb]
    cases h : Nat.beq b.toNat c
    · simp only [Bool.false_eq_true, if_false]; rw [ih]; rfl
    · simp only [if_true]; rw [ih]; rfl

/-- What must hold of the numbers of the two functions. -/
structure NatsOk (P : Program) (ki kc : Nat) : Prop where
  i : ∃ fn, P.funcs[ki]? = some fn ∧ (fn.name == "runtime.NumGoroutine") = false ∧ fn.body.isNone = true ∧ Extern.findNext fn = none ∧ Extern.find fn = some Extern.BytealgIndexByte.indexByte
  c : ∃ fn, P.funcs[kc]? = some fn ∧ (fn.name == "runtime.NumGoroutine") = false ∧ fn.body.isNone = true ∧ Extern.findNext fn = none ∧ Extern.find fn = some Extern.BytealgCount.count

theorem natA_ok {P : Program} {ki kc : Nat} (h : NatsOk P ki kc) : NatOk P (natA ki kc) := by
  intro k vs v hv
  unfold natA at hv
  split at hv
  · rename_i hk
    have hk := Nat.eq_of_beq_eq_true hk
    subst hk
    split at hv
    · rename_i s c
      cases hc : Nat.blt c 256 <;> rw [hc] at hv <;> simp only [cond_true, cond_false] at hv
      · cases hv
      · have hc' : c < 256 := by rwa [Nat.blt_eq] at hc
        obtain ⟨fn, f1, f2, f3, f4, f5⟩ := h.i
        have key := firstB_eq c hc' s.data.toList 0
        have run : ∀ w, (callFunc k ⟨[.string s, .int .u8 (.ofNat c)]⟩).run P w = .ok (.value (.int .i64 (match firstB c s.data.toList 0 with | some k => (Int.ofNat k) | none => (-1 : Int)))) w := by
          intro w
          rw [run_callFunc_standIn f1 f2 f3 f4 f5]
          have := Lib.run_indexByteString (P := P) s (.ofNat c) w
          rw [this]
          rw [key]
          show Result.ok _ w = _
          have e : (Int.ofNat c).toNat.toUInt8 = c.toUInt8 := rfl
          rw [e]
          congr 2
          split
          · rename_i h; rw [h]
          · simp
        split at hv
        · rename_i i hi
          cases hv
          exact ⟨rfl, rfl, fun w => by rw [run w, hi]⟩
        · rename_i hi
          cases hv
          exact ⟨rfl, rfl, fun w => by rw [run w, hi]; rfl⟩
    · cases hv
  · split at hv
    · rename_i hk
      have hk := Nat.eq_of_beq_eq_true hk
      subst hk
      split at hv
      · rename_i s c
        cases hc : Nat.blt c 256 <;> rw [hc] at hv <;> simp only [cond_true, cond_false] at hv
        · cases hv
        · have hc' : c < 256 := by rwa [Nat.blt_eq] at hc
          obtain ⟨fn, f1, f2, f3, f4, f5⟩ := h.c
          rw [fNat_eq] at hv
          cases hv
          refine ⟨rfl, rfl, fun w => ?_⟩
          rw [run_callFunc_standIn f1 f2 f3 f4 f5, Lib.run_countString (P := P) s (.ofNat c) w, countB_eq c hc']
          rfl
      · cases hv
    · cases hv

/-! ### No function is one that the model answers itself -/
noncomputable def noNumB (P : Program) : Bool := List.rec (motive := fun _ => Bool) true (fun fn _ ih => match fn.name == "runtime.NumGoroutine" with | true => false | false => ih) P.funcs.toList
theorem noNumB_spec {P : Program} (h : noNumB P = true) : NoNum P := by
  have key : ∀ (l : List Func), List.rec (motive := fun _ => Bool) true (fun fn _ ih => match fn.name == "runtime.NumGoroutine" with | true => false | false => ih) l = true → ∀ fn ∈ l, (fn.name == "runtime.NumGoroutine") = false := by
    intro l
    induction l with
    | nil => intro _ fn hf; cases hf
    | cons x r ih =>
      intro h fn hf
      dsimp only at h
      split at h
      · cases h
      · rename_i hx
        rcases List.mem_cons.1 hf with rfl | hf
        · exact hx
        · exact ih h fn hf
  intro k fn hk hb
  exact key _ h fn (by simpa using Array.mem_of_getElem? hk)

/-! ### A closed call -/
noncomputable def run0 (P : Program) (ki kc n : Nat) (f : FuncId) (vs : List Value) : Option (Value × Heap) := callA P (ex P (natA ki kc) (drwA P) n [] false) ⟨0, .nil⟩ f vs
noncomputable def saysTrue (x : Option (Value × Heap)) : Bool := match x with | some (.bool true, _) => true | _ => false

theorem closed_run {P : Program} (hP : noNumB P = true) (hm : P.follows .mixedOrders = true) {ki kc n : Nat} (hn : NatsOk P ki kc) {f : FuncId} {vs : List Value} (hf : flats vs = true) {v : Value} {H' : Heap} (h : run0 P ki kc n f vs = some (v, H')) (w : World) :
    Calls P f ⟨vs⟩ w fun e w' => ∃ v' μ', e = .returned v' ∧ VR μ' v v' ∧ HW H' ∧ HR μ' w.heap.size H' w' ∧ Ext (fun _ => none) ⟨0, .nil⟩ w μ' H' w' := by
  have hN := noNumB_spec hP
  have hs := (ex_sound hN (natA_ok hn) (drwA_ok hN hm) n).all [] false
  have hw : HW ⟨0, .nil⟩ := ⟨fun b B h => (by cases h), fun b B h => (by cases h), fun b B b' B' h => (by cases h), fun b B b' B' h => (by cases h), fun b B x h => (by cases h), fun b B x X h => (by cases h)⟩
  have hr : HR (fun _ => none) w.heap.size ⟨0, .nil⟩ w := ⟨fun b B r d lim h => (by cases h), fun b B r d lim i h => (by cases h), fun b B r d lim b' B' d' lim' h => (by cases h), fun b B r d lim h => (by cases h), fun b B x X r d lim d' lim' h => (by cases h)⟩
  exact (callA_run hs hw hr (Nat.le_refl _) (fun _ _ => rfl) EnvOk.nil h (LR.flats hf)).2

theorem closed_true {P : Program} (hP : noNumB P = true) (hm : P.follows .mixedOrders = true) {ki kc n : Nat} (hn : NatsOk P ki kc) {f : FuncId} {vs : List Value} (hf : flats vs = true) (h : saysTrue (run0 P ki kc n f vs) = true) (w : World) :
    Calls P f ⟨vs⟩ w fun e w' => e = .returned (.bool true) ∧ Below w.heap.size w w' := by
  unfold saysTrue at h
  split at h
  · rename_i H' hx
    refine (closed_run hP hm hn hf hx w).mono ?_
    rintro e w' ⟨v', μ', rfl, hV, _, _, hE⟩
    have := bool_inv hV
    subst this
    exact ⟨rfl, ⟨hE.os, hE.tape, hE.output, hE.size, fun k hk => hE.keep k hk (fun b B d lim hb => by cases hb)⟩⟩
  · cases h

end Go.Proofs.YtkmhbfgkhalaoaaGreatDoor.LM

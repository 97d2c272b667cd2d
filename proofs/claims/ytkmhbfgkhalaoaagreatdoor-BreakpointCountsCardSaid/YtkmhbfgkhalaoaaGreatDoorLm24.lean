/- The evaluator of regions that draw their order. -/
import Derived.Test.YtkmhbfgkhalaoaaGreatDoorLm23
set_option linter.unusedVariables false
set_option linter.unusedSimpArgs false
set_option linter.unusedSectionVars false
namespace Go.Proofs.YtkmhbfgkhalaoaaGreatDoor.LM
open Go Go.RowKit

/-! ### The plan of a region -/
def bindsA (e : Edge) : Bool := match e.ground with | .textOnly _ => false | .gcOnly _ => false | _ => true
theorem bindsA_eq (e : Edge) : Region.binds .any e = bindsA e := by
  unfold Region.binds bindsA
  cases e.ground <;> rfl

noncomputable def predsL (l : List Edge) : List Nat := List.rec (motive := fun _ => List Nat) [] (fun e _ ih => match bindsA e with | true => e.on :: ih | false => ih) l
noncomputable def predsA (o : Oper) : List Nat := predsL o.after.toList
noncomputable def memN (x : Nat) (l : List Nat) : Bool := List.rec (motive := fun _ => Bool) false (fun y _ ih => match Nat.beq x y with | true => true | false => ih) l
noncomputable def allN (p : Nat → Bool) (l : List Nat) : Bool := List.rec (motive := fun _ => Bool) true (fun y _ ih => match p y with | true => ih | false => false) l
noncomputable def anyN (p : Nat → Bool) (l : List Nat) : Bool := List.rec (motive := fun _ => Bool) false (fun y _ ih => match p y with | true => true | false => ih) l
theorem memN_iff (x : Nat) (l : List Nat) : memN x l = true ↔ x ∈ l := by
  induction l with
  | nil => simp [memN]
  | cons y r ih =>
    show (match Nat.beq x y with | true => true | false => memN x r) = true ↔ _
    cases h : Nat.beq x y
    · have := Nat.ne_of_beq_eq_false h
      simp only [List.mem_cons, ih]
      constructor
      · exact .inr
      · rintro (h1 | h1)
        · exact absurd h1 this
        · exact h1
    · have := Nat.eq_of_beq_eq_true h
      simp [this]
theorem allN_iff (p : Nat → Bool) (l : List Nat) : allN p l = true ↔ ∀ x ∈ l, p x = true := by
  induction l with
  | nil => simp [allN]
  | cons y r ih =>
    show (match p y with | true => allN p r | false => false) = true ↔ _
    cases h : p y <;> simp [h, ih]
theorem anyN_iff (p : Nat → Bool) (l : List Nat) : anyN p l = true ↔ ∃ x ∈ l, p x = true := by
  induction l with
  | nil => simp [anyN]
  | cons y r ih =>
    show (match p y with | true => true | false => anyN p r) = true ↔ _
    cases h : p y <;> simp [h, ih]
theorem predsA_iff (o : Oper) (p : Nat) : p ∈ predsA o ↔ ∃ e ∈ o.after, Region.binds .any e = true ∧ e.on = p := by
  have key : ∀ l : List Edge, p ∈ predsL l ↔ ∃ e ∈ l, bindsA e = true ∧ e.on = p := by
    intro l
    induction l with
    | nil => simp [predsL]
    | cons e r ih =>
      show p ∈ (match bindsA e with | true => e.on :: predsL r | false => predsL r) ↔ _
      cases h : bindsA e
      · simp [h, ih]
      · simp only [List.mem_cons, ih]
        constructor
        · rintro (rfl | ⟨e', h1, h2⟩)
          · exact ⟨e, .inl rfl, h, rfl⟩
          · exact ⟨e', .inr h1, h2⟩
        · rintro ⟨e', rfl | h1, h2, h3⟩
          · exact .inl h3.symm
          · exact .inr ⟨e', h1, h2, h3⟩
  unfold predsA
  rw [key]
  simp only [bindsA_eq, Array.mem_toList_iff]

/-- A place of the region and its operation. -/
abbrev Pl := Nat × Oper
structure Stage where
  c : Nat
  o : Oper
  R : List Nat
  cheap : List Pl

noncomputable def idxs (l : List Pl) : List Nat := List.rec (motive := fun _ => List Nat) [] (fun p _ ih => p.1 :: ih) l
theorem idxs_map (l : List Pl) : idxs l = l.map (·.1) := by
  induction l with
  | nil => rfl
  | cons p r ih => show p.1 :: idxs r = _; rw [ih]; rfl
noncomputable def restIdx (l : List Stage) : List Nat := List.rec (motive := fun _ => List Nat) [] (fun s _ ih => s.c :: (idxs s.cheap ++ ih)) l

/-- The stage of each place, in order; what chain operations there are. -/
noncomputable def maxAt (st : Tr Nat) (l : List Nat) : Nat := List.rec (motive := fun _ => Nat) 0 (fun p _ ih => match st.get p with | some k => bif Nat.ble k ih then ih else k | none => ih) l

/-- Places with their stages: (is it a chain operation, stage, place). -/
noncomputable def stagesA (l : List Oper) : Nat → Nat → Tr Nat → List (Bool × Nat × Pl) :=
  List.rec (motive := fun _ => Nat → Nat → Tr Nat → List (Bool × Nat × Pl)) (fun _ _ _ => [])
    (fun o _ ih i k st => match isChain o with
      | true => fNat (Nat.succ k) fun k => st.put i k fun st => (true, k, (i, o)) :: ih (Nat.succ i) k st
      | false => fNat (maxAt st (predsA o)) fun s => st.put i s fun st => (false, s, (i, o)) :: ih (Nat.succ i) k st) l

noncomputable def cheapOf (s : Nat) (l : List (Bool × Nat × Pl)) : List Pl :=
  List.rec (motive := fun _ => List Pl) [] (fun x _ ih => match x with
    | (false, k, p) => match Nat.beq k s with | true => p :: ih | false => ih
    | (true, _, _) => ih) l
noncomputable def restOf (all : List (Bool × Nat × Pl)) (l : List (Bool × Nat × Pl)) : List Stage :=
  List.rec (motive := fun _ => List Stage) [] (fun x _ ih => match x with
    | (true, k, (i, o)) => ⟨i, o, predsA o, cheapOf k all⟩ :: ih
    | (false, _, _) => ih) l

structure Plan where
  cheap0 : List Pl
  rest : List Stage

/-! ### What the plan is checked for -/
/-- Each place is what stands there. -/
noncomputable def covered (seen : List Nat) (n : Nat) : Bool := Nat.rec (motive := fun _ => Bool) true (fun k ih => match memN k seen with | true => ih | false => false) n

/-- Places in order: none comes twice, and what an operation waits for comes ahead of it. -/
noncomputable def inOrder (l : List Pl) : List Nat → Option (List Nat) :=
  List.rec (motive := fun _ => List Nat → Option (List Nat)) (fun D => some D) (fun p _ ih D => match memN p.1 D with
    | true => none
    | false => match allN (fun q => memN q D) (predsA p.2) with
      | true => ih (p.1 :: D)
      | false => none) l
noncomputable def restOrder (l : List Stage) : List Nat → Option (List Nat) :=
  List.rec (motive := fun _ => List Nat → Option (List Nat)) (fun D => some D) (fun s _ ih D => match inOrder ((s.c, s.o) :: s.cheap) D with
    | some D' => ih D'
    | none => none) l
noncomputable def hasIn (L : List Nat) (l : List Nat) : Bool := anyN (fun p => memN p L) l
noncomputable def cheapLate (L : List Nat) (l : List Pl) : Bool := List.rec (motive := fun _ => Bool) true (fun p _ ih => match hasIn L (predsA p.2) with | true => ih | false => false) l
noncomputable def late (l : List Stage) : Bool :=
  List.rec (motive := fun _ => Bool) true (fun s r ih => match s.c :: idxs s.cheap with
    | L => match cheapLate L s.cheap with
      | true => match r with
        | [] => true
        | s' :: _ => match hasIn L (predsA s'.o) with | true => ih | false => false
      | false => false) l

noncomputable def dstTr (l : List Oper) : Nat → Tr Nat → Option (Tr Nat) :=
  List.rec (motive := fun _ => Nat → Tr Nat → Option (Tr Nat)) (fun _ t => some t) (fun o _ ih i t => match o.dst with
    | none => ih (Nat.succ i) t
    | some d => match t.get d with
      | some _ => none
      | none => t.put d i fun t => ih (Nat.succ i) t) l
noncomputable def looksL (ops : List Oper) (o : Oper) : List Tmp :=
  match o.guard with
  | some (g, _) => match nth ops g with
    | some q => match q.dst with
      | some d => d :: opTmps o.op.operands.toList
      | none => opTmps o.op.operands.toList
    | none => opTmps o.op.operands.toList
  | none => opTmps o.op.operands.toList
where opTmps (l : List Operand) : List Tmp := List.rec (motive := fun _ => List Tmp) [] (fun x _ ih => match x with | .tmp t => t :: ih | _ => ih) l
noncomputable def apartOk (ops : List Oper) (dt : Tr Nat) (l : List Oper) : Nat → Bool :=
  List.rec (motive := fun _ => Nat → Bool) (fun _ => true) (fun o _ ih i => match allN (fun t => match dt.get t with
      | none => true
      | some k => match Nat.beq k i with
        | true => true
        | false => match memN k (predsA o) with
          | true => true
          | false => match nth ops k with
            | some q => memN i (predsA q)
            | none => false) (looksL ops o) with
    | true => ih (Nat.succ i)
    | false => false) l


noncomputable def planA (ops : List Oper) : Option Plan :=
  match stagesA ops 0 0 .nil with
  | all => match cheapOf 0 all with
    | c0 => match restOf all all with
      | rest => match inOrder c0 [] with
        | some D0 => match restOrder rest D0 with
          | some D => match covered D ops.length with
            | true => match late rest with
              | true => match dstTr ops 0 .nil with
                | some dt => match apartOk ops dt ops 0 with
                  | true => some ⟨c0, rest⟩
                  | false => none
                | none => none
              | false => none
            | false => none
          | none => none
        | none => none

/-! ### The run of a region -/
structure Rd where
  i : Nat
  o : Oper
  tm : Tr Value
  v : Value

noncomputable def cheapA (P : Program) (ih : Ctx) (ops : List Oper) (nt : Nat) (l : List Pl) : List Rd → Tr Value → Heap → Option (List Rd × Tr Value × Heap) :=
  List.rec (motive := fun _ => List Rd → Tr Value → Heap → Option (List Rd × Tr Value × Heap)) (fun W tm H => some (W, tm, H)) (fun p _ rest W tm H =>
    match wantedA ops tm p.2 with
    | some true => match opA P ih H tm p.2 with
      | some (v, H') => match putT tm nt p.2.dst v with
        | some tm' => match kindA P p.2 with
          | .pure => rest W tm' H'
          | .makes => rest W tm' H'
          | .reads => rest (⟨p.1, p.2, tm, v⟩ :: W) tm' H'
          | .chain => none
        | none => none
      | none => none
    | some false => match putT tm nt p.2.dst undef with
      | some tm' => rest W tm' H
      | none => none
    | none => none) l

/-- What may still have to be read is read again. -/
noncomputable def again (P : Program) (ih : Ctx) (H : Heap) (R : List Nat) (W : List Rd) : Option (List Rd) :=
  List.rec (motive := fun _ => Option (List Rd)) (some []) (fun r _ rest => match memN r.i R with
    | true => rest
    | false => match opA P ih H r.tm r.o with
      | some (v, _) => match veq r.v v with
        | true => match rest with
          | some W => some (r :: W)
          | none => none
        | false => none
      | none => none) W

noncomputable def restA (P : Program) (ih : Ctx) (ops : List Oper) (nt : Nat) (l : List Stage) : List Rd → Tr Value → Heap → Option (Tr Value × Heap) :=
  List.rec (motive := fun _ => List Rd → Tr Value → Heap → Option (Tr Value × Heap)) (fun _ tm H => some (tm, H)) (fun s _ rest W tm H =>
    match wantedA ops tm s.o with
    | some true => match opA P ih H tm s.o with
      | some (v, H') => match putT tm nt s.o.dst v with
        | some tm' => match again P ih H' s.R W with
          | some W' => match cheapA P ih ops nt s.cheap W' tm' H' with
            | some (W2, tm2, H2) => rest W2 tm2 H2
            | none => none
          | none => none
        | none => none
      | none => none
    | some false => match putT tm nt s.o.dst undef with
      | some tm' => match cheapA P ih ops nt s.cheap W tm' H with
        | some (W2, tm2, H2) => rest W2 tm2 H2
        | none => none
      | none => none
    | none => none) l

/-- Regions that draw their order. -/
noncomputable def drwA (P : Program) : Drw := fun ih ops nt tm H =>
  match planA ops with
  | some ⟨c0, rest⟩ => match cheapA P ih ops nt c0 [] tm H with
    | some (W, tm', H') => restA P ih ops nt rest W tm' H'
    | none => none
  | none => none

end Go.Proofs.YtkmhbfgkhalaoaaGreatDoor.LM

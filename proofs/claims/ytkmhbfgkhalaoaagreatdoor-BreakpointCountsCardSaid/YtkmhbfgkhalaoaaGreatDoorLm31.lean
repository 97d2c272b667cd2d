/- The evaluator once more, laid out for the kernel: the same answers, fewer terms. -/
import Derived.Test.YtkmhbfgkhalaoaaGreatDoorLm30
set_option linter.unusedVariables false
set_option linter.unusedSimpArgs false
set_option linter.unusedSectionVars false
namespace Go.Proofs.YtkmhbfgkhalaoaaGreatDoor.LM
open Go Go.RowKit

noncomputable def oB {α β : Type} (x : Option α) (f : α → Option β) : Option β := Option.rec (motive := fun _ => Option β) none f x
theorem oB_none {α β : Type} (f : α → Option β) : oB none f = none := rfl
theorem oB_some {α β : Type} (a : α) (f : α → Option β) : oB (some a) f = f a := rfl

noncomputable def cstQ (v : Value) : Option Value := Bool.rec (motive := fun _ => Option Value) none (some v) (cst v)
noncomputable def evQ (o : Operand) : Tr Value → Option Value :=
  Operand.rec (motive := fun _ => Tr Value → Option Value) (fun t s => s.get t) (fun v _ => cstQ v) (fun _ _ => none) (fun f _ => some (.func (.func f) #[] #[])) o
theorem evQ_eq (o : Operand) (s : Tr Value) : evQ o s = ev s o := by
  cases o with
  | const v => show cstQ v = (match cst v with | true => some v | false => none); unfold cstQ; cases cst v <;> rfl
  | _ => rfl
noncomputable def asBQ (v : Value) : Option Bool := Value.rec (motive_1 := fun _ => Option Bool) (motive_2 := fun _ => Unit) (motive_3 := fun _ => Unit) (fun b => some b) (fun _ _ => none) (fun _ _ => none) (fun _ _ _ => none) (fun _ => none) (fun _ => none) (fun _ _ _ => none) (fun _ => none) (fun _ => none) (fun _ _ _ _ _ => none) none (fun _ _ _ => none) none (fun _ _ => none) (fun _ _ => none) (fun _ _ => ()) () (fun _ _ _ _ => ()) v
noncomputable def asPQ (v : Value) : Option Addr := Value.rec (motive_1 := fun _ => Option Addr) (motive_2 := fun _ => Unit) (motive_3 := fun _ => Unit) (fun _ => none) (fun _ _ => none) (fun _ _ => none) (fun _ _ _ => none) (fun _ => none) (fun a => a) (fun _ _ _ => none) (fun _ => none) (fun _ => none) (fun _ _ _ _ _ => none) none (fun _ _ _ => none) none (fun _ _ => none) (fun _ _ => none) (fun _ _ => ()) () (fun _ _ _ _ => ()) v

noncomputable def moveQ (x : Operand) (H : Heap) (tm : Tr Value) : Option (Value × Heap) := oB (evQ x tm) fun v => some (v, H)
noncomputable def selQ (b : Bool) : Operand → Operand → Tr Value → Option Value := Bool.rec (motive := fun _ => Operand → Operand → Tr Value → Option Value) (fun _ y tm => evQ y tm) (fun x _ tm => evQ x tm) b
noncomputable def pickQ (c a b : Operand) (H : Heap) (tm : Tr Value) : Option (Value × Heap) := oB (evQ c tm) fun v => oB (asBQ v) fun t => oB (selQ t a b tm) fun v => some (v, H)
noncomputable def nilQ (x : Operand) (H : Heap) (tm : Tr Value) : Option (Value × Heap) := oB (evQ x tm) fun v => oB (asPQ v) fun _ => some (v, H)
noncomputable def getQ (x : Option Value) : Value → Option Value := Option.rec (motive := fun _ => Value → Option Value) (fun z => some z) (fun v _ => some v) x
noncomputable def blkQ (B : Blk) : Nat → Option Value :=
  Blk.rec (motive := fun _ => Nat → Option Value) (fun n z c _ _ _ o => Bool.rec (motive := fun _ => Option Value) none (getQ (c.get o) z) (Nat.blt o n)) B
noncomputable def rd1Q (a : Addr) : Heap → Option Value :=
  Addr.rec (motive := fun _ => Heap → Option Value) (fun b o s => Option.rec (motive := fun _ => Nat → Nat → Heap → Option Value) (fun b o H => oB (H.bl.get b) fun B => blkQ B o) (fun _ _ _ _ => none) s b o) a
theorem rd1Q_eq (a : Addr) (H : Heap) : rd1Q a H = rd1 H a := by
  obtain ⟨b, o, s⟩ := a
  obtain ⟨nx, bl⟩ := H
  cases s with
  | some _ => rfl
  | none =>
    show oB (bl.get b) (fun B => blkQ B o) = _
    unfold rd1
    dsimp only
    cases bl.get b with
    | none => rfl
    | some B =>
      obtain ⟨n, z, c, ch, st, an⟩ := B
      show Bool.rec (motive := fun _ => Option Value) none (getQ (c.get o) z) (Nat.blt o n) = bif Nat.blt o n then _ else none
      cases Nat.blt o n
      · rfl
      · show getQ (c.get o) z = _
        cases c.get o <;> rfl
noncomputable def ldQ (x : Option Bool) : Program → Heap → TypeId → Addr → Option Value :=
  Option.rec (motive := fun _ => Program → Heap → TypeId → Addr → Option Value) (fun _ _ _ _ => none) (fun b => Bool.rec (motive := fun _ => Program → Heap → TypeId → Addr → Option Value) (fun _ H _ a => rd1Q a H) (fun P H t a => ldT P H t a) b) x
theorem ldQ_eq (P : Program) (H : Heap) (t : TypeId) (a : Addr) : ldQ (aggP P t) P H t a = ldT P H t a := by
  cases h : aggP P t with
  | none => show none = ldT P H t a; unfold ldT; rw [h]
  | some b =>
    cases b with
    | true => rfl
    | false => show rd1Q a H = _; rw [rd1Q_eq]; unfold ldT; rw [h]
noncomputable def loadQ (t : TypeId) (x : Operand) (P : Program) (H : Heap) (tm : Tr Value) : Option (Value × Heap) := oB (evQ x tm) fun v => oB (asPQ v) fun a => oB (ldQ (aggP P t) P H t a) fun u => some (u, H)

noncomputable def calQ (x : Option Value) : Program → Ctx → Heap → FuncId → List Value → Option (Value × Heap) :=
  Option.rec (motive := fun _ => Program → Ctx → Heap → FuncId → List Value → Option (Value × Heap)) (fun P ih H k l => callA P ih.call H k l) (fun v _ _ H _ _ => some (v, H)) x
noncomputable def callQ (c : Call) (P : Program) (ih : Ctx) (H : Heap) (tm : Tr Value) : Option (Value × Heap) := sCall P ih H tm c

noncomputable def opQ (o : Op) : Program → Ctx → Heap → Tr Value → Option (Value × Heap) :=
  Op.rec (motive := fun _ => Program → Ctx → Heap → Tr Value → Option (Value × Heap))
    (fun x P ih H tm => moveQ x H tm)
    (fun x P ih H tm => moveQ x H tm)
    (fun c a b P ih H tm => pickQ c a b H tm)
    (fun t P ih H tm => sAlloc P H t)
    (fun t x P ih H tm => sBox P H tm x)
    (fun t ps P ih H tm => sBuild P H tm t ps)
    (fun t n ps P ih H tm => sBuildSlice P H tm t n ps)
    (fun _ _ _ _ _ _ _ _ => none)
    (fun t x P ih H tm => loadQ t x P H tm)
    (fun t x y P ih H tm => sStore P H tm t x y)
    (fun _ _ _ _ _ => none)
    (fun _ _ _ _ _ => none)
    (fun x P ih H tm => nilQ x H tm)
    (fun op t x y yt P ih H tm => sBin P H tm op t x y)
    (fun op t x P ih H tm => sUn P H tm op x)
    (fun s d x P ih H tm => sConv P H tm s d x)
    (fun _ _ _ _ _ _ => none)
    (fun _ _ _ _ _ _ => none)
    (fun fn a b P ih H tm => sFunc P H tm fn a b)
    (fun _ _ _ _ _ _ => none)
    (fun _ _ _ _ _ _ => none)
    (fun t l c P ih H tm => sMake P H tm t l c)
    (fun t x lo hi mx P ih H tm => sSlice P H tm t x lo hi mx)
    (fun t x f P ih H tm => sFieldAddr P H tm t x f)
    (fun t x f P ih H tm => sField P H tm t x f)
    (fun t x i P ih H tm => sIndexAddr P H tm t x i)
    (fun t x i P ih H tm => sIndex P H tm t x i)
    (fun _ _ _ _ _ _ _ _ => none)
    (fun _ _ _ _ _ _ _ _ => none)
    (fun _ _ _ _ _ _ _ => none)
    (fun _ _ _ _ _ _ _ _ => none)
    (fun _ _ _ _ _ _ => none)
    (fun _ _ _ _ _ _ => none)
    (fun _ _ _ _ _ => none)
    (fun _ _ _ _ _ _ _ _ => none)
    (fun x i P ih H tm => sExtract P H tm x i)
    (fun c P ih H tm => callQ c P ih H tm)
    (fun _ _ _ _ _ => none)
    (fun _ _ _ _ _ => none)
    (fun _ _ _ _ _ => none)
    (fun _ _ _ _ _ _ => none)
    (fun _ _ _ _ _ _ _ => none)
    (fun _ _ _ _ _ _ => none) o

theorem moveQ_eq (x : Operand) (H : Heap) (tm : Tr Value) : moveQ x H tm = sMove H tm x := by
  unfold moveQ sMove; rw [evQ_eq]; cases ev tm x <;> rfl
theorem pickQ_eq (P : Program) (c a b : Operand) (H : Heap) (tm : Tr Value) : pickQ c a b H tm = sPick P H tm c a b := by
  unfold pickQ sPick
  rw [evQ_eq]
  cases ev tm c with
  | none => rfl
  | some v =>
    rw [oB_some]
    cases v <;> first | rfl | skip
    case bool b' =>
      show oB (selQ b' a b tm) _ = _
      cases b'
      · show oB (evQ b tm) _ = _
        rw [evQ_eq]; cases ev tm b <;> rfl
      · show oB (evQ a tm) _ = _
        rw [evQ_eq]; cases ev tm a <;> rfl
theorem nilQ_eq (P : Program) (x : Operand) (H : Heap) (tm : Tr Value) : nilQ x H tm = sNil P H tm x := by
  unfold nilQ sNil
  rw [evQ_eq]
  cases ev tm x with
  | none => rfl
  | some v =>
    rw [oB_some]
    cases v <;> first | rfl | skip
    case pointer a => cases a <;> rfl
theorem loadQ_eq (P : Program) (t : TypeId) (x : Operand) (H : Heap) (tm : Tr Value) : loadQ t x P H tm = sLoad P H tm t x := by
  unfold loadQ sLoad
  rw [evQ_eq]
  cases ev tm x with
  | none => rfl
  | some v =>
    rw [oB_some]
    cases v <;> first | rfl | skip
    case pointer a =>
      cases a with
      | none => rfl
      | some a =>
        show oB (ldQ (aggP P t) P H t a) _ = _
        rw [ldQ_eq]
        dsimp only
        cases ldT P H t a <;> rfl

theorem opQ_eq (P : Program) (ih : Ctx) (H : Heap) (tm : Tr Value) (o : Oper) : opQ o.op P ih H tm = opA P ih H tm o := by
  unfold opA
  cases o.op <;> first
    | rfl
    | exact moveQ_eq _ _ _
    | exact pickQ_eq P _ _ _ _ _
    | exact nilQ_eq P _ _ _
    | exact loadQ_eq P _ _ _ _

noncomputable def convKQ (P : Program) (s d : TypeId) : Kind := match P.underlying s, P.underlying d with
    | some .string, some (.slice _) => .makes
    | some (.slice _), _ => .reads
    | _, _ => .pure
noncomputable def callKQ (c : Call) : Kind := match c with
  | ⟨.builtin .len, _, _⟩ => .pure
  | ⟨.builtin .max, _, _⟩ => .pure
  | ⟨.builtin .min, _, _⟩ => .pure
  | _ => .chain
noncomputable def kindQ (o : Op) : Program → Kind :=
  Op.rec (motive := fun _ => Program → Kind)
    (fun _ _ => .pure)
    (fun _ _ => .pure)
    (fun _ _ _ _ => .pure)
    (fun _ _ => .makes)
    (fun _ _ _ => .makes)
    (fun _ _ _ => .pure)
    (fun _ _ _ _ => .makes)
    (fun _ _ _ _ _ => .pure)
    (fun _ _ _ => .reads)
    (fun _ _ _ _ => .chain)
    (fun _ _ => .pure)
    (fun _ _ => .pure)
    (fun _ _ => .pure)
    (fun _ _ _ _ _ _ => .pure)
    (fun _ _ _ _ => .pure)
    (fun s d _ P => convKQ P s d)
    (fun _ _ _ => .pure)
    (fun _ _ _ => .pure)
    (fun _ _ _ _ => .pure)
    (fun _ _ _ => .pure)
    (fun _ _ _ => .pure)
    (fun _ _ _ _ => .makes)
    (fun _ _ _ _ _ _ => .pure)
    (fun _ _ _ _ => .pure)
    (fun _ _ _ _ => .pure)
    (fun _ _ _ _ => .pure)
    (fun _ _ _ _ => .pure)
    (fun _ _ _ _ _ => .pure)
    (fun _ _ _ _ _ => .pure)
    (fun _ _ _ _ => .pure)
    (fun _ _ _ _ _ => .pure)
    (fun _ _ _ => .pure)
    (fun _ _ _ => .pure)
    (fun _ _ => .pure)
    (fun _ _ _ _ _ => .pure)
    (fun _ _ _ => .pure)
    (fun c _ => callKQ c)
    (fun _ _ => .pure)
    (fun _ _ => .pure)
    (fun _ _ => .pure)
    (fun _ _ _ => .pure)
    (fun _ _ _ _ => .pure)
    (fun _ _ _ => .pure) o
theorem kindQ_eq (P : Program) (o : Oper) : kindQ o.op P = kindA P o := by
  unfold kindA
  cases o.op <;> first | rfl | skip
  case call c =>
    obtain ⟨cl, as, ts⟩ := c
    cases cl <;> first | rfl | skip
    case builtin b => cases b <;> rfl

/-! ### Regions -/
structure RX where
  ih : Ctx
  all : List Oper
  nt : Nat
noncomputable def putQ {β : Type} (d : Option Tmp) : Tr Value → Nat → Value → (Tr Value → Option β) → Option β :=
  Option.rec (motive := fun _ => Tr Value → Nat → Value → (Tr Value → Option β) → Option β) (fun tm _ _ f => f tm) (fun t tm nt v f => Bool.rec (motive := fun _ => Option β) none (tm.put t v f) (Nat.blt t nt)) d
theorem putQ_eq {β : Type} (d : Option Tmp) (tm : Tr Value) (nt : Nat) (v : Value) (f : Tr Value → Option β) : putQ d tm nt v f = match putT tm nt d v with | some tm' => f tm' | none => none := by
  cases d with
  | none => rfl
  | some t =>
    show Bool.rec (motive := fun _ => Option β) none (tm.put t v f) (Nat.blt t nt) = _
    unfold putT
    dsimp only
    cases Nat.blt t nt
    · rfl
    · simp only [cond_true]
      rw [Tr.put_eq, Tr.put_eq]
noncomputable def resQ {β : Type} (x : Option (Value × Heap)) (X : RX) (d : Option Tmp) (tm : Tr Value) (f : Tr Value → Heap → Option β) : Option β :=
  oB x fun p => Prod.rec (motive := fun _ => Option β) (fun v H' => putQ d tm X.nt v fun tm' => f tm' H') p
theorem resQ_eq {β : Type} (x : Option (Value × Heap)) (X : RX) (d : Option Tmp) (tm : Tr Value) (f : Tr Value → Heap → Option β) : resQ x X d tm f = match x with | some (v, H') => (match putT tm X.nt d v with | some tm' => f tm' H' | none => none) | none => none := by
  cases x with
  | none => rfl
  | some p =>
    obtain ⟨v, H'⟩ := p
    exact putQ_eq d tm X.nt v fun tm' => f tm' H'
noncomputable def runQ (P : Program) (X : RX) (o : Oper) (f : Tr Value → Heap → Option (Tr Value × Heap)) (tm : Tr Value) (H : Heap) : Option (Tr Value × Heap) := resQ (opQ o.op P X.ih H tm) X o.dst tm f
noncomputable def grdQ (P : Program) (b : Bool) : RX → Oper → (Tr Value → Heap → Option (Tr Value × Heap)) → Tr Value → Heap → Option (Tr Value × Heap) :=
  Bool.rec (motive := fun _ => RX → Oper → (Tr Value → Heap → Option (Tr Value × Heap)) → Tr Value → Heap → Option (Tr Value × Heap)) (fun X o f tm H => putQ o.dst tm X.nt undef fun tm' => f tm' H) (runQ P) b
noncomputable def stepQ (P : Program) (g : Option (Nat × Bool)) : RX → Oper → (Tr Value → Heap → Option (Tr Value × Heap)) → Tr Value → Heap → Option (Tr Value × Heap) :=
  Option.rec (motive := fun _ => RX → Oper → (Tr Value → Heap → Option (Tr Value × Heap)) → Tr Value → Heap → Option (Tr Value × Heap)) (runQ P) (fun _ X o f tm H => oB (wantedA X.all tm o) fun b => grdQ P b X o f tm H) g
theorem stepQ_eq (P : Program) (ih : Ctx) (all : List Oper) (nt : Nat) (o : Oper) (f : Tr Value → Heap → Option (Tr Value × Heap)) (tm : Tr Value) (H : Heap) : stepQ P o.guard ⟨ih, all, nt⟩ o f tm H =
    match wantedA all tm o with
    | some true => match opA P ih H tm o with
      | some (v, H') => match putT tm nt o.dst v with
        | some tm' => f tm' H'
        | none => none
      | none => none
    | some false => match putT tm nt o.dst undef with
      | some tm' => f tm' H
      | none => none
    | none => none := by
  have hrun : runQ P ⟨ih, all, nt⟩ o f tm H = match opA P ih H tm o with
      | some (v, H') => match putT tm nt o.dst v with
        | some tm' => f tm' H'
        | none => none
      | none => none := by
    unfold runQ
    rw [opQ_eq]
    exact resQ_eq _ _ _ _ _
  cases hg : o.guard with
  | none =>
    have hw : wantedA all tm o = some true := by unfold wantedA; rw [hg]
    rw [hw]
    exact hrun
  | some g =>
    show oB (wantedA all tm o) (fun b => grdQ P b ⟨ih, all, nt⟩ o f tm H) = _
    cases wantedA all tm o with
    | none => rfl
    | some b =>
      cases b with
      | true => exact hrun
      | false => exact putQ_eq o.dst tm nt undef fun tm' => f tm' H
noncomputable def opsQ (P : Program) (X : RX) (l : List Oper) : Tr Value → Heap → Option (Tr Value × Heap) :=
  List.rec (motive := fun _ => Tr Value → Heap → Option (Tr Value × Heap)) (fun tm H => some (tm, H)) (fun o _ rest tm H => stepQ P o.guard X o rest tm H) l
theorem opsQ_eq (P : Program) (ih : Ctx) (all : List Oper) (nt : Nat) : ∀ (l : List Oper) (tm : Tr Value) (H : Heap), opsQ P ⟨ih, all, nt⟩ l tm H = opsA P ih all nt l tm H := by
  intro l
  induction l with
  | nil => intro tm H; rfl
  | cons o r ihl =>
    intro tm H
    show stepQ P o.guard ⟨ih, all, nt⟩ o (opsQ P ⟨ih, all, nt⟩ r) tm H = _
    rw [stepQ_eq]
    have : opsQ P ⟨ih, all, nt⟩ r = opsA P ih all nt r := funext fun tm => funext fun H => ihl tm H
    rw [this]
    rfl

/-! ### Regions that draw -/
abbrev CK := List Rd → Tr Value → Heap → Option (List Rd × Tr Value × Heap)
noncomputable def keepQ (k : Kind) : Nat → Oper → Tr Value → Value → List Rd → CK → Tr Value → Heap → Option (List Rd × Tr Value × Heap) :=
  Kind.rec (motive := fun _ => Nat → Oper → Tr Value → Value → List Rd → CK → Tr Value → Heap → Option (List Rd × Tr Value × Heap)) (fun _ _ _ _ W f tm H => f W tm H) (fun i o t0 v W f tm H => f (⟨i, o, t0, v⟩ :: W) tm H) (fun _ _ _ _ W f tm H => f W tm H) (fun _ _ _ _ _ _ _ _ => none) k
noncomputable def chQ (P : Program) (X : RX) (i : Nat) (o : Oper) (f : CK) (W : List Rd) (tm : Tr Value) (H : Heap) : Option (List Rd × Tr Value × Heap) :=
  oB (opQ o.op P X.ih H tm) fun p => Prod.rec (motive := fun _ => Option (List Rd × Tr Value × Heap)) (fun v H' => putQ o.dst tm X.nt v fun tm' => keepQ (kindQ o.op P) i o tm v W f tm' H') p
noncomputable def cgQ (P : Program) (b : Bool) : RX → Nat → Oper → CK → List Rd → Tr Value → Heap → Option (List Rd × Tr Value × Heap) :=
  Bool.rec (motive := fun _ => RX → Nat → Oper → CK → List Rd → Tr Value → Heap → Option (List Rd × Tr Value × Heap)) (fun X _ o f W tm H => putQ o.dst tm X.nt undef fun tm' => f W tm' H) (chQ P) b
noncomputable def csQ (P : Program) (g : Option (Nat × Bool)) : RX → Nat → Oper → CK → List Rd → Tr Value → Heap → Option (List Rd × Tr Value × Heap) :=
  Option.rec (motive := fun _ => RX → Nat → Oper → CK → List Rd → Tr Value → Heap → Option (List Rd × Tr Value × Heap)) (chQ P) (fun _ X i o f W tm H => oB (wantedA X.all tm o) fun b => cgQ P b X i o f W tm H) g
noncomputable def cheapQ (P : Program) (X : RX) (l : List Pl) : CK :=
  List.rec (motive := fun _ => CK) (fun W tm H => some (W, tm, H)) (fun p _ rest W tm H => Prod.rec (motive := fun _ => Option (List Rd × Tr Value × Heap)) (fun i o => csQ P o.guard X i o rest W tm H) p) l
theorem cheapQ_eq (P : Program) (ih : Ctx) (ops : List Oper) (nt : Nat) : ∀ (l : List Pl) (W : List Rd) (tm : Tr Value) (H : Heap), cheapQ P ⟨ih, ops, nt⟩ l W tm H = cheapA P ih ops nt l W tm H := by
  intro l
  induction l with
  | nil => intro W tm H; rfl
  | cons p r ihl =>
    obtain ⟨i, o⟩ := p
    intro W tm H
    have hr : cheapQ P ⟨ih, ops, nt⟩ r = cheapA P ih ops nt r := funext fun W => funext fun tm => funext fun H => ihl W tm H
    show csQ P o.guard ⟨ih, ops, nt⟩ i o (cheapQ P ⟨ih, ops, nt⟩ r) W tm H = _
    rw [hr]
    show _ = (match wantedA ops tm o with
    | some true => match opA P ih H tm o with
      | some (v, H') => match putT tm nt o.dst v with
        | some tm' => match kindA P o with
          | .pure => cheapA P ih ops nt r W tm' H'
          | .makes => cheapA P ih ops nt r W tm' H'
          | .reads => cheapA P ih ops nt r (⟨i, o, tm, v⟩ :: W) tm' H'
          | .chain => none
        | none => none
      | none => none
    | some false => match putT tm nt o.dst undef with
      | some tm' => cheapA P ih ops nt r W tm' H
      | none => none
    | none => none)
    have hrun : chQ P ⟨ih, ops, nt⟩ i o (cheapA P ih ops nt r) W tm H = (match opA P ih H tm o with
      | some (v, H') => match putT tm nt o.dst v with
        | some tm' => match kindA P o with
          | .pure => cheapA P ih ops nt r W tm' H'
          | .makes => cheapA P ih ops nt r W tm' H'
          | .reads => cheapA P ih ops nt r (⟨i, o, tm, v⟩ :: W) tm' H'
          | .chain => none
        | none => none
      | none => none) := by
      unfold chQ
      rw [opQ_eq]
      cases opA P ih H tm o with
      | none => rfl
      | some p =>
        obtain ⟨v, H'⟩ := p
        show putQ o.dst tm nt v (fun tm' => keepQ (kindQ o.op P) i o tm v W (cheapA P ih ops nt r) tm' H') = _
        rw [putQ_eq, kindQ_eq]
        dsimp only
        cases putT tm nt o.dst v with
        | none => rfl
        | some tm' => cases kindA P o <;> rfl
    cases hg : o.guard with
    | none =>
      have hw : wantedA ops tm o = some true := by unfold wantedA; rw [hg]
      rw [hw]
      exact hrun
    | some g =>
      show oB (wantedA ops tm o) (fun b => cgQ P b ⟨ih, ops, nt⟩ i o (cheapA P ih ops nt r) W tm H) = _
      cases wantedA ops tm o with
      | none => rfl
      | some b =>
        cases b with
        | true => exact hrun
        | false => exact putQ_eq o.dst tm nt undef fun tm' => cheapA P ih ops nt r W tm' H

noncomputable def restQ (P : Program) (X : RX) (l : List Stage) : List Rd → Tr Value → Heap → Option (Tr Value × Heap) :=
  List.rec (motive := fun _ => List Rd → Tr Value → Heap → Option (Tr Value × Heap)) (fun _ tm H => some (tm, H)) (fun s _ rest W tm H =>
    match wantedA X.all tm s.o with
    | some true => match opQ s.o.op P X.ih H tm with
      | some (v, H') => match putT tm X.nt s.o.dst v with
        | some tm' => match again P X.ih H' s.R W with
          | some W' => match cheapQ P X s.cheap W' tm' H' with
            | some (W2, tm2, H2) => rest W2 tm2 H2
            | none => none
          | none => none
        | none => none
      | none => none
    | some false => match putT tm X.nt s.o.dst undef with
      | some tm' => match cheapQ P X s.cheap W tm' H with
        | some (W2, tm2, H2) => rest W2 tm2 H2
        | none => none
      | none => none
    | none => none) l
theorem restQ_eq (P : Program) (ih : Ctx) (ops : List Oper) (nt : Nat) : ∀ (l : List Stage) (W : List Rd) (tm : Tr Value) (H : Heap), restQ P ⟨ih, ops, nt⟩ l W tm H = restA P ih ops nt l W tm H := by
  intro l
  induction l with
  | nil => intro W tm H; rfl
  | cons s r ihl =>
    intro W tm H
    have hr : restQ P ⟨ih, ops, nt⟩ r = restA P ih ops nt r := funext fun W => funext fun tm => funext fun H => ihl W tm H
    have hc : cheapQ P ⟨ih, ops, nt⟩ s.cheap = cheapA P ih ops nt s.cheap := funext fun W => funext fun tm => funext fun H => cheapQ_eq P ih ops nt s.cheap W tm H
    show (match wantedA ops tm s.o with
    | some true => match opQ s.o.op P ih H tm with
      | some (v, H') => match putT tm nt s.o.dst v with
        | some tm' => match again P ih H' s.R W with
          | some W' => match cheapQ P ⟨ih, ops, nt⟩ s.cheap W' tm' H' with
            | some (W2, tm2, H2) => restQ P ⟨ih, ops, nt⟩ r W2 tm2 H2
            | none => none
          | none => none
        | none => none
      | none => none
    | some false => match putT tm nt s.o.dst undef with
      | some tm' => match cheapQ P ⟨ih, ops, nt⟩ s.cheap W tm' H with
        | some (W2, tm2, H2) => restQ P ⟨ih, ops, nt⟩ r W2 tm2 H2
        | none => none
      | none => none
    | none => none) = _
    rw [hr, hc, opQ_eq]
    rfl
noncomputable def drwQ (P : Program) : Drw := fun ih ops nt tm H =>
  match planA ops with
  | some ⟨c0, rest⟩ => match cheapQ P ⟨ih, ops, nt⟩ c0 [] tm H with
    | some (W, tm', H') => restQ P ⟨ih, ops, nt⟩ rest W tm' H'
    | none => none
  | none => none
theorem drwQ_eq (P : Program) : drwQ P = drwA P := by
  funext ih ops nt tm H
  unfold drwQ drwA
  cases planA ops with
  | none => rfl
  | some p =>
    obtain ⟨c0, rest⟩ := p
    dsimp only
    rw [cheapQ_eq]
    cases cheapA P ih ops nt c0 [] tm H with
    | none => rfl
    | some x => obtain ⟨W, tm', H'⟩ := x; exact restQ_eq P ih ops nt rest W tm' H'

/-! ### Code -/
structure CX where
  nat : FuncId → List Value → Option Value
  drw : Drw
  all : Env → Bool → Eval
  env : Env
  inR : Bool
  ih : Eval
abbrev EvR := Option (Ex × Tr Value × Heap)
noncomputable def seqQ (x : EvR) (ih : Eval) (b : Code) (nt : Nat) : EvR :=
  oB x fun p => Prod.rec (motive := fun _ => EvR) (fun e y => Ex.rec (motive := fun _ => Tr Value × Heap → Eval → Code → Nat → EvR) (fun y ih b nt => Prod.rec (motive := fun _ => EvR) (fun tm H => ih b tm nt H) y) (fun i y _ _ _ => some (.exit i, y)) (fun y _ _ _ => some (.ret, y)) e y ih b nt) p
theorem seqQ_eq (x : EvR) (ih : Eval) (b : Code) (nt : Nat) : seqQ x ih b nt = match x with
    | some (.normal, tm', H') => ih b tm' nt H'
    | r => r := by
  cases x with
  | none => rfl
  | some p => obtain ⟨e, tm, H⟩ := p; cases e <;> rfl
noncomputable def blockQ (x : EvR) (id : Nat) : EvR :=
  oB x fun p => Prod.rec (motive := fun _ => EvR) (fun e y => Ex.rec (motive := fun _ => Tr Value × Heap → Nat → EvR) (fun y _ => some (.normal, y)) (fun j y id => Bool.rec (motive := fun _ => EvR) (some (.exit j, y)) (some (.normal, y)) (Nat.beq j id)) (fun y _ => some (.ret, y)) e y id) p
theorem blockQ_eq (x : EvR) (id : Nat) : blockQ x id = match x with
    | some (.exit j, tm', H') => bif Nat.beq j id then some (.normal, tm', H') else some (.exit j, tm', H')
    | r => r := by
  cases x with
  | none => rfl
  | some p =>
    obtain ⟨e, tm, H⟩ := p
    cases e with
    | exit j => show Bool.rec (motive := fun _ => EvR) _ _ (Nat.beq j id) = _; dsimp only; cases Nat.beq j id <;> rfl
    | _ => rfl
noncomputable def condQ (b : Bool) : Eval → Code → Code → Tr Value → Nat → Heap → EvR :=
  Bool.rec (motive := fun _ => Eval → Code → Code → Tr Value → Nat → Heap → EvR) (fun ih _ y tm nt H => ih y tm nt H) (fun ih x _ tm nt H => ih x tm nt H) b
noncomputable def norQ (x : Option (Tr Value × Heap)) : EvR := oB x fun y => some (.normal, y)
noncomputable def rgQ (P : Program) (d : Bool) : Array Oper → CX → Tr Value → Nat → Heap → EvR :=
  Bool.rec (motive := fun _ => Array Oper → CX → Tr Value → Nat → Heap → EvR) (fun ops X tm nt H => norQ (opsQ P ⟨ctxA X.nat X.all X.env, ops.toList, nt⟩ ops.toList tm H)) (fun ops X tm nt H => norQ (X.drw (ctxA X.nat X.all X.env) ops.toList nt tm H)) d
noncomputable def codeQ (P : Program) (c : Code) : CX → Tr Value → Nat → Heap → EvR :=
  Code.rec (motive := fun _ => CX → Tr Value → Nat → Heap → EvR)
    (fun _ tm _ H => some (.normal, tm, H))
    (fun _ ops d => rgQ P d ops)
    (fun a b _ _ X tm nt H => seqQ (X.ih a tm nt H) X.ih b nt)
    (fun o a b _ _ X tm nt H => oB (evQ o tm) fun v => oB (asBQ v) fun t => condQ t X.ih a b tm nt H)
    (fun id b _ X tm nt H => blockQ (X.ih b tm nt H) id)
    (fun b _ X tm nt H => seqQ (X.ih b tm nt H) X.ih (.loop b) nt)
    (fun g ps assign body _ _ X tm nt H => exF P X.nat X.drw X.all X.env X.inR X.ih (.rangeFunc g ps assign body) tm nt H)
    (fun id _ tm _ H => some (.exit id, tm, H))
    (fun b _ X tm nt H => X.ih b tm nt H)
    (fun _ _ tm _ H => some (.normal, tm, H))
    (fun _ _ _ _ _ => none)
    (fun _ tm _ H => some (.ret, tm, H))
    (fun _ _ _ _ _ => none) c
theorem codeQ_eq (P : Program) (nat : FuncId → List Value → Option Value) (drw : Drw) (all : Env → Bool → Eval) (env : Env) (inR : Bool) (ih : Eval) (c : Code) (tm : Tr Value) (nt : Nat) (H : Heap) :
    codeQ P c ⟨nat, drw, all, env, inR, ih⟩ tm nt H = exF P nat drw all env inR ih c tm nt H := by
  cases c with
  | seq a b => exact seqQ_eq _ _ _ _
  | block id b => exact blockQ_eq _ _
  | loop b => exact seqQ_eq _ _ _ _
  | cond o a b =>
    show oB (evQ o tm) (fun v => oB (asBQ v) fun t => condQ t ih a b tm nt H) = (match ev tm o with
    | some (.bool true) => ih a tm nt H
    | some (.bool false) => ih b tm nt H
    | _ => none)
    rw [evQ_eq]
    cases ev tm o with
    | none => rfl
    | some v =>
      cases v <;> first | rfl | skip
      case bool b' => cases b' <;> rfl
  | region id ops d =>
    cases d with
    | false =>
      show norQ (opsQ P ⟨ctxA nat all env, ops.toList, nt⟩ ops.toList tm H) = (match opsA P (ctxA nat all env) ops.toList nt ops.toList tm H with
    | some (tm', H') => some (.normal, tm', H')
    | none => none)
      rw [opsQ_eq]
      cases opsA P (ctxA nat all env) ops.toList nt ops.toList tm H <;> rfl
    | true =>
      show norQ (drw (ctxA nat all env) ops.toList nt tm H) = (match drw (ctxA nat all env) ops.toList nt tm H with
    | some (tm', H') => some (.normal, tm', H')
    | none => none)
      cases drw (ctxA nat all env) ops.toList nt tm H <;> rfl
  | _ => rfl
noncomputable def exQ (P : Program) (nat : FuncId → List Value → Option Value) (drw : Drw) (n : Nat) : Env → Bool → Eval :=
  Nat.rec (motive := fun _ => Env → Bool → Eval) (fun _ _ _ _ _ _ => none) (fun _ ih env inR c tm nt H => codeQ P c ⟨nat, drw, ih, env, inR, ih env inR⟩ tm nt H) n
theorem exQ_eq (P : Program) (nat : FuncId → List Value → Option Value) (drw : Drw) : ∀ n, exQ P nat drw n = ex P nat drw n := by
  intro n
  induction n with
  | zero => rfl
  | succ n ih =>
    have e : exQ P nat drw (n + 1) = fun env inR c tm nt H => codeQ P c ⟨nat, drw, exQ P nat drw n, env, inR, exQ P nat drw n env inR⟩ tm nt H := rfl
    rw [e, ih]
    funext env inR c tm nt H
    exact codeQ_eq P nat drw _ env inR _ c tm nt H

noncomputable def runQ0 (P : Program) (ki kc n : Nat) (f : FuncId) (vs : List Value) : Option (Value × Heap) := callA P (exQ P (natA ki kc) (drwQ P) n [] false) ⟨0, .nil⟩ f vs
theorem runQ0_eq (P : Program) (ki kc n : Nat) (f : FuncId) (vs : List Value) : runQ0 P ki kc n f vs = run0 P ki kc n f vs := by
  unfold runQ0 run0
  rw [exQ_eq, drwQ_eq]

end Go.Proofs.YtkmhbfgkhalaoaaGreatDoor.LM

/- The evaluator of closed runs over logical heaps. -/
import Derived.Test.YtkmhbfgkhalaoaaGreatDoorLm1
set_option linter.unusedVariables false
set_option linter.unusedSimpArgs false
namespace Go.Proofs.YtkmhbfgkhalaoaaGreatDoor.LM
open Go Go.RowKit

/-- A capacity from here on is not known; what is added is the size of an element. -/
def U : Nat := 1267650600228229401496703205376

noncomputable def fNat {β : Type} (n : Nat) (f : Nat → β) : β := Nat.rec (motive := fun _ => β) (f 0) (fun k _ => f (Nat.succ k)) n
noncomputable def fInt {β : Type} (n : Int) (f : Int → β) : β :=
  match n with
  | .ofNat m => fNat m fun m => f (.ofNat m)
  | .negSucc m => fNat m fun m => f (.negSucc m)
noncomputable def fBool {β : Type} (b : Bool) (f : Bool → β) : β := match b with | true => f true | false => f false
theorem fNat_eq {β : Type} (n : Nat) (f : Nat → β) : fNat n f = f n := by cases n <;> rfl
theorem fInt_eq {β : Type} (n : Int) (f : Int → β) : fInt n f = f n := by cases n <;> simp [fInt, fNat_eq]
theorem fBool_eq {β : Type} (b : Bool) (f : Bool → β) : fBool b f = f b := by cases b <;> rfl

noncomputable def fU8 {β : Type} (b : UInt8) (f : UInt8 → β) : β := fNat b.toNat fun n => f (UInt8.ofNat n)
theorem fU8_eq {β : Type} (b : UInt8) (f : UInt8 → β) : fU8 b f = f b := by simp [fU8, fNat_eq]
noncomputable def fBs {β : Type} : List UInt8 → (List UInt8 → β) → β
  | [], f => f []
  | b :: r, f => fU8 b fun b' => fBs r fun r' => f (b' :: r')
theorem fBs_eq {β : Type} (l : List UInt8) : ∀ (f : List UInt8 → β), fBs l f = f l := by
  induction l with
  | nil => intro f; rfl
  | cons b r ih => intro f; simp only [fBs, fU8_eq, ih]
noncomputable def fA {β : Type} (a : Option Addr) (f : Option Addr → β) : β :=
  match a with
  | none => f none
  | some ⟨b, o, s⟩ => match s with
    | none => fNat b fun b => fNat o fun o => f (some ⟨b, o, none⟩)
    | some n => f (some ⟨b, o, some n⟩)
theorem fA_eq {β : Type} (a : Option Addr) (f : Option Addr → β) : fA a f = f a := by
  rcases a with _ | ⟨b, o, _ | s⟩ <;> simp [fA, fNat_eq]
/-- A value that is no struct and no tuple, its parts computed. -/
noncomputable def fV0 {β : Type} (v : Value) (f : Value → β) : β :=
  match v with
  | .int k n => fInt n fun n => f (.int k n)
  | .bool b => fBool b fun b => f (.bool b)
  | .string ⟨⟨l⟩⟩ => fBs l fun l => f (.string ⟨⟨l⟩⟩)
  | .pointer a => fA a fun a => f (.pointer a)
  | .slice a l c => fA a fun a => fNat l fun l => fNat c fun c => f (.slice a l c)
  | .func fn x y => f (.func fn x y)
  | .agg x => f (.agg x)
  | .tuple x => f (.tuple x)
  | .float k b => f (.float k b)
  | .complex k x y => f (.complex k x y)
  | .map r => f (.map r)
  | .chan r => f (.chan r)
  | .nilFunc => f .nilFunc
  | .iface t v => f (.iface t v)
  | .nilIface => f .nilIface
theorem fV0_eq {β : Type} (v : Value) (f : Value → β) : fV0 v f = f v := by
  cases v <;> simp [fV0, fInt_eq, fBool_eq, fA_eq, fNat_eq, fBs_eq]
noncomputable def fL0 {β : Type} : List Value → (List Value → β) → β
  | [], f => f []
  | v :: r, f => fV0 v fun v' => fL0 r fun r' => f (v' :: r')
theorem fL0_eq {β : Type} (l : List Value) : ∀ (f : List Value → β), fL0 l f = f l := by
  induction l with
  | nil => intro f; rfl
  | cons b r ih => intro f; simp only [fL0, fV0_eq, ih]
structure Blk where
  n : Nat
  z : Value
  c : Tr Value
  chain : Nat
  stale : Bool
  anc : List Nat

noncomputable def Blk.cell (B : Blk) (i : Nat) : Value :=
  match B.c.get i with
  | some v => v
  | none => B.z

structure Heap where
  next : Nat
  bl : Tr Blk

structure St where
  tm : Tr Value
  nt : Nat
  hp : Heap

/-! ### Reading -/
noncomputable def nth {α : Type} (l : List α) : Nat → Option α :=
  List.rec (motive := fun _ => Nat → Option α) (fun _ => none) (fun a _ ih k => Nat.rec (motive := fun _ => Option α) (some a) (fun k' _ => ih k') k) l
theorem nth_eq {α : Type} (l : List α) : ∀ k, nth l k = l[k]? := by
  induction l with
  | nil => intro k; rfl
  | cons a r ih =>
    intro k
    cases k with
    | zero => rfl
    | succ k => rw [List.getElem?_cons_succ, ← ih k]; rfl

/-- Values without addresses. -/
def flat : Value → Bool
  | .bool _ | .int _ _ | .float _ _ | .complex _ _ _ | .string _ | .nilFunc | .nilIface => true
  | .pointer none | .map none | .chan none => true
  | .slice none 0 0 => true
  | _ => false
noncomputable def flats (l : List Value) : Bool := List.rec (motive := fun _ => Bool) true (fun v _ ih => match flat v with | true => ih | false => false) l
/-- Functions that are no yield of a loop. -/
def plainF : Fn → Bool
  | .yield _ => false
  | _ => true
noncomputable def cst : Value → Bool
  | .agg ⟨l⟩ => flats l
  | .tuple ⟨l⟩ => flats l
  | .func f ⟨x⟩ ⟨y⟩ => match plainF f with | true => (match flats x with | true => flats y | false => false) | false => false
  | v => flat v

noncomputable def ev (s : Tr Value) : Operand → Option Value
  | .tmp t => s.get t
  | .const v => match cst v with | true => some v | false => none
  | .func f => some (.func (.func f) #[] #[])
  | .global _ => none

noncomputable def evs (s : Tr Value) (l : List Operand) : Option (List Value) :=
  List.rec (motive := fun _ => Option (List Value)) (some []) (fun o _ ih => match ev s o with
    | some v => match ih with
      | some vs => some (v :: vs)
      | none => none
    | none => none) l

/-- The cells of a block from a place on. -/
noncomputable def Blk.cells (B : Blk) : Nat → Nat → List Value
  | 0, _ => []
  | n + 1, i => B.cell i :: Blk.cells B n (i + 1)
noncomputable def Blk.cellsK {β : Type} (z : Value) (c : Tr Value) (n : Nat) : Nat → (List Value → β) → β :=
  Nat.rec (motive := fun _ => Nat → (List Value → β) → β) (fun _ f => f []) (fun _ ih i f => match c.get i with
    | some v => ih (Nat.succ i) fun r => f (v :: r)
    | none => ih (Nat.succ i) fun r => f (z :: r)) n
theorem Blk.cellsK_eq {β : Type} (B : Blk) : ∀ (n i : Nat) (f : List Value → β), Blk.cellsK B.z B.c n i f = f (B.cells n i) := by
  intro n
  induction n with
  | zero => intro i f; rfl
  | succ n ih =>
    intro i f
    show (match B.c.get i with
      | some v => Blk.cellsK B.z B.c n (i + 1) fun r => f (v :: r)
      | none => Blk.cellsK B.z B.c n (i + 1) fun r => f (B.z :: r)) = _
    simp only [Blk.cells, Blk.cell]
    cases B.c.get i <;> simp only [ih]
/-- A list laid open. -/
def fSp {α β : Type} : List α → (List α → β) → β
  | [], f => f []
  | v :: r, f => fSp r fun r' => f (v :: r')
theorem fSp_eq {α β : Type} (l : List α) : ∀ (f : List α → β), fSp l f = f l := by
  induction l with
  | nil => intro f; rfl
  | cons b r ih => intro f; simp only [fSp, ih]

noncomputable def rdN (H : Heap) (a : Addr) (n : Nat) : Option (List Value) :=
  match H, a with
  | _, ⟨_, _, some _⟩ => none
  | ⟨_, bl⟩, ⟨b, o, none⟩ => match bl.get b with
    | some ⟨bn, z, c, _, _, _⟩ => bif Nat.ble (o + n) bn then Blk.cellsK z c n o fun l => some l else none
    | none => none

noncomputable def rd1 (H : Heap) (a : Addr) : Option Value :=
  match H, a with
  | _, ⟨_, _, some _⟩ => none
  | ⟨_, bl⟩, ⟨b, o, none⟩ => match bl.get b with
    | some ⟨bn, z, c, _, _, _⟩ => bif Nat.blt o bn then (match c.get o with | some v => some v | none => some z) else none
    | none => none

/-! ### Writing -/
noncomputable def kill {β : Type} (l : List Nat) : Tr Blk → (Tr Blk → β) → β :=
  List.rec (motive := fun _ => Tr Blk → (Tr Blk → β) → β) (fun t f => f t) (fun b _ ih t f => match t.get b with
    | some ⟨_, z, c, ch, st, an⟩ => t.put b ⟨0, z, c, ch, st, an⟩ fun t' => ih t' f
    | none => ih t f) l

noncomputable def putC {β : Type} (l : List Value) : Tr Value → Nat → (Tr Value → β) → β :=
  List.rec (motive := fun _ => Tr Value → Nat → (Tr Value → β) → β) (fun c _ f => f c) (fun v _ ih c i f => c.put i v fun c' => ih c' (Nat.succ i) f) l

noncomputable def one (l : List Value) : Bool :=
  List.rec (motive := fun _ => Bool) true (fun v _ ih => match v with | .agg _ => false | .tuple _ => false | _ => ih) l

noncomputable def wrN (H : Heap) (a : Addr) (vs : List Value) : Option Heap :=
  match H, a with
  | _, ⟨_, _, some _⟩ => none
  | ⟨nx, bl⟩, ⟨b, o, none⟩ => match bl.get b with
    | some ⟨n, z, c, ch, stale, anc⟩ => match stale with
      | true => none
      | false => match one vs with
        | false => none
        | true => bif Nat.ble (Nat.add o vs.length) n then
          putC vs c o fun c' =>
          kill anc bl fun bl' =>
          bl'.put b ⟨n, z, c', ch, false, []⟩ fun bl'' => some ⟨nx, bl''⟩
        else none
    | none => none

/-- A new block: its cells; what lies behind them. -/
noncomputable def newB {β : Type} (H : Heap) (n : Nat) (z : Value) (c : Tr Value) (f : Heap → Nat → β) : β :=
  match H with
  | ⟨nx, bl⟩ => fNat n fun n => bl.put nx ⟨n, z, c, nx, false, []⟩ fun bl' => f ⟨Nat.succ nx, bl'⟩ nx
/-- A new block of a list of cells. -/
noncomputable def newL {β : Type} (H : Heap) (cs : List Value) (f : Heap → Nat → β) : β :=
  putC cs .nil 0 fun c => newB H cs.length (.bool false) c f

/-! ### Types -/
noncomputable def aggP (P : Program) (t : TypeId) : Option Bool :=
  match P.underlying t with
  | some (.struct _) => some true
  | some (.array _ _) => some true
  | some _ => some false
  | none => none
noncomputable def sizeP (P : Program) (t : TypeId) : Option Nat := match P.info? t with | some i => some i.size | none => none

noncomputable def ldT (P : Program) (H : Heap) (t : TypeId) (a : Addr) : Option Value :=
  match aggP P t with
  | some true =>
    match sizeP P t with
    | some n => match rdN H a n with
      | some cs => some (.agg ⟨cs⟩)
      | none => none
    | none => none
  | some false => rd1 H a
  | none => none

def cellsOf : Value → List Value
  | .agg cs => cs.toList
  | v => [v]

noncomputable def stT (P : Program) (H : Heap) (t : TypeId) (a : Addr) (v : Value) : Option Heap :=
  match sizeP P t with
  | some n => match cellsOf v with
    | cs => bif Nat.beq cs.length n then wrN H a cs else none
  | none => none

/-! ### Operations on numbers -/
noncomputable def ieq (a b : Int) : Bool :=
  match a, b with
  | .ofNat m, .ofNat n => Nat.beq m n
  | .negSucc m, .negSucc n => Nat.beq m n
  | _, _ => false
noncomputable def ilt (a b : Int) : Bool :=
  match a, b with
  | .ofNat m, .ofNat n => Nat.blt m n
  | .negSucc m, .negSucc n => Nat.blt n m
  | .negSucc _, .ofNat _ => true
  | .ofNat _, .negSucc _ => false
noncomputable def keq : IntKind → IntKind → Bool
  | .i64, .i64 => true | .u8, .u8 => true | .u64, .u64 => true | .i32, .i32 => true | .u32, .u32 => true | .u16, .u16 => true | .i16, .i16 => true | .i8, .i8 => true
  | _, _ => false
noncomputable def beqB (x : List UInt8) : List UInt8 → Bool :=
  List.rec (motive := fun _ => List UInt8 → Bool) (fun y => match y with | [] => true | _ :: _ => false)
    (fun a _ ih y => match y with | [] => false | b :: s => bif Nat.beq a.toNat b.toNat then ih s else false) x

/-- What is small does not wrap. -/
noncomputable def wrp {β : Type} (k : IntKind) (n : Int) (f : Int → β) : β :=
  match k, n with
  | .i64, .ofNat m => fNat m fun m => bif Nat.blt m 4611686018427387904 then f (.ofNat m) else fInt (IntKind.i64.wrap (.ofNat m)) f
  | k, n => fInt (k.wrap n) f
noncomputable def addI (a b : Int) : Int :=
  match a, b with
  | .ofNat m, .ofNat n => .ofNat (Nat.add m n)
  | a, b => a + b
noncomputable def subI (a b : Int) : Int :=
  match a, b with
  | .ofNat m, .ofNat n => bif Nat.ble n m then .ofNat (Nat.sub m n) else .negSucc (Nat.sub (Nat.sub n m) 1)
  | a, b => a - b
noncomputable def mulI (a b : Int) : Int :=
  match a, b with
  | .ofNat m, .ofNat n => .ofNat (Nat.mul m n)
  | a, b => a * b
noncomputable def divI (a b : Int) : Int :=
  match a, b with
  | .ofNat m, .ofNat n => .ofNat (Nat.div m n)
  | a, b => a.tdiv b
noncomputable def modI (a b : Int) : Int :=
  match a, b with
  | .ofNat m, .ofNat n => .ofNat (Nat.mod m n)
  | a, b => a.tmod b

noncomputable def partA (P : Program) (t : TypeId) (xs : List Value) (off : Nat) : Option Value :=
  match aggP P t with
  | some true => match sizeP P t with
    | some n => some (.agg ⟨(xs.drop off).take n⟩)
    | none => none
  | some false => nth xs off
  | none => none
noncomputable def eqFs (P : Program) (ih : TypeId → Value → Value → Option Bool) (xs ys : List Value) (fs : List Field) : Option Bool :=
  List.rec (motive := fun _ => Option Bool) (some true) (fun f _ rest => match f.name == "_" with
    | true => rest
    | false => match partA P f.type xs f.offset with
      | some a => match partA P f.type ys f.offset with
        | some b => match ih f.type a b with
          | some true => rest
          | r => r
        | none => none
      | none => none) fs
/-- Two values of a type held against each other: numbers, bools, strings and structs of such. -/
noncomputable def eqT (P : Program) (n : Nat) : TypeId → Value → Value → Option Bool :=
  Nat.rec (motive := fun _ => TypeId → Value → Value → Option Bool) (fun _ _ _ => none) (fun _ ih t x y =>
    match P.underlying t with
    | some (.struct fs) => match x, y with
      | .agg xs, .agg ys => match P.stoodInHeld t with
        | true => none
        | false => eqFs P ih xs.toList ys.toList fs.toList
      | _, _ => none
    | some (.int _) => match x, y with
      | .int k a, .int k' b => bif keq k k' then some (ieq a b) else none
      | _, _ => none
    | some .bool => match x, y with
      | .bool a, .bool b => some (a == b)
      | _, _ => none
    | some .string => match x, y with
      | .string a, .string b => some (beqB a.data.toList b.data.toList)
      | _, _ => none
    | _ => none) n

noncomputable def binI (op : BinOp) (k : IntKind) (a b : Int) : Option Value :=
  match op with
  | .add => wrp k (addI a b) fun n => some (.int k n)
  | .sub => wrp k (subI a b) fun n => some (.int k n)
  | .mul => wrp k (mulI a b) fun n => some (.int k n)
  | .quo => bif ieq b 0 then none else wrp k (divI a b) fun n => some (.int k n)
  | .rem => bif ieq b 0 then none else fInt (modI a b) fun n => some (.int k n)
  | .and => fInt (k.wrap ((BitVec.ofInt k.bits a &&& BitVec.ofInt k.bits b).toNat)) fun n => some (.int k n)
  | .or => fInt (k.wrap ((BitVec.ofInt k.bits a ||| BitVec.ofInt k.bits b).toNat)) fun n => some (.int k n)
  | .xor => fInt (k.wrap ((BitVec.ofInt k.bits a ^^^ BitVec.ofInt k.bits b).toNat)) fun n => some (.int k n)
  | .andNot => fInt (k.wrap ((BitVec.ofInt k.bits a &&& ~~~ BitVec.ofInt k.bits b).toNat)) fun n => some (.int k n)
  | .eql => fBool (ieq a b) fun c => some (.bool c)
  | .neq => fBool (!ieq a b) fun c => some (.bool c)
  | .lss => fBool (ilt a b) fun c => some (.bool c)
  | .leq => fBool (!ilt b a) fun c => some (.bool c)
  | .gtr => fBool (ilt b a) fun c => some (.bool c)
  | .geq => fBool (!ilt a b) fun c => some (.bool c)
  | _ => none

noncomputable def binA (P : Program) (op : BinOp) (t : TypeId) (x y : Value) : Option Value :=
  match x, y with
  | .int k a, .int k' b =>
    match op with
    | .shl => bif ilt b 0 then none else fInt (k.wrap (a * 2 ^ (min b.toNat k.bits))) fun n => some (.int k n)
    | .shr => bif ilt b 0 then none else fInt (a.fdiv (2 ^ (min b.toNat k.bits))) fun n => some (.int k n)
    | _ => bif keq k k' then binI op k a b else none
  | .string a, .string b =>
    match op with
    | .eql => fBool (beqB a.data.toList b.data.toList) fun c => some (.bool c)
    | .neq => fBool (!beqB a.data.toList b.data.toList) fun c => some (.bool c)
    | .add => bif Nat.ble (a.data.toList.length + b.data.toList.length) 9223372036854775807 then fBs (a.data.toList ++ b.data.toList) fun l => some (.string ⟨⟨l⟩⟩) else none
    | _ => none
  | .bool a, .bool b =>
    match P.underlying t with
    | some .bool => match op with
      | .eql => fBool (a == b) fun c => some (.bool c)
      | .neq => fBool (!(a == b)) fun c => some (.bool c)
      | _ => none
    | _ => none
  | .agg a, .agg b =>
    match op with
    | .eql => match P.eqGuardType P.depth t with | true => none | false => match eqT P 10000 t (.agg a) (.agg b) with | some c => fBool c fun c => some (.bool c) | none => none
    | .neq => match P.eqGuardType P.depth t with | true => none | false => match eqT P 10000 t (.agg a) (.agg b) with | some c => fBool (!c) fun c => some (.bool c) | none => none
    | _ => none
  | .pointer a, .pointer none =>
    match P.underlying t with
    | some (.pointer _) => match op with
      | .eql => fBool a.isNone fun c => some (.bool c)
      | .neq => fBool a.isSome fun c => some (.bool c)
      | _ => none
    | _ => none
  | _, _ => none

noncomputable def unA (op : UnOp) (x : Value) : Option Value :=
  match op, x with
  | .not, .bool b => fBool (!b) fun c => some (.bool c)
  | .neg, .int k n => fInt (k.wrap (0 - n)) fun n => some (.int k n)
  | .xor, .int k n => fInt (k.wrap ((BitVec.ofInt k.bits (if k.signed then -1 else k.max) ^^^ BitVec.ofInt k.bits n).toNat)) fun n => some (.int k n)
  | _, _ => none

/-! ### Addresses and slices -/
noncomputable def fld (P : Program) (s : TypeId) (f : Nat) : Option (Nat × Bool) :=
  match P.underlying s with
  | some (.struct fs) => match fs[f]? with
    | some x => match sizeP P x.type with
      | some n => some (x.offset, Nat.beq n 0)
      | none => none
    | none => none
  | _ => none

noncomputable def addA {β : Type} (a : Addr) (n : Nat) (f : Addr → β) : β := match a with | ⟨b, o, _⟩ => fNat (Nat.add o n) fun o => f ⟨b, o, none⟩

noncomputable def inR (i : Int) (n : Nat) : Option Nat :=
  match i with
  | .ofNat m => bif Nat.blt m n then some m else none
  | .negSucc _ => none
noncomputable def inQ (i : Int) (n : Nat) : Option Nat :=
  match i with
  | .ofNat m => bif Nat.ble m n then some m else none
  | .negSucc _ => none

noncomputable def idx (P : Program) (t : TypeId) (x i : Value) : Option Value :=
  match i with
  | .int _ n =>
    match P.underlying t, x with
    | some (.array l e), .pointer (some a) =>
      match inR n l, sizeP P e with
      | some m, some z => match a with | ⟨_, _, none⟩ => addA a (Nat.mul m z) fun a => some (.pointer (some a)) | _ => none
      | _, _ => none
    | some (.slice e), .slice (some a) l _ =>
      match inR n l, sizeP P e with
      | some m, some z => match a with | ⟨_, _, none⟩ => addA a (Nat.mul m z) fun a => some (.pointer (some a)) | _ => none
      | _, _ => none
    | _, _ => none
  | _ => none

/-- A slice of a slice. -/
noncomputable def cut (P : Program) (e : TypeId) (x : Option Addr) (l c : Nat) (lo hi mx : Option Value) : Option Value :=
  match mx with
  | some _ => none
  | none =>
    match (match hi with | none => some l | some (.int _ n) => inQ n (bif Nat.ble U c then l else c) | _ => none) with
    | none => none
    | some h =>
      match (match lo with | none => some 0 | some (.int _ n) => inQ n h | _ => none) with
      | none => none
      | some k =>
        match sizeP P e with
        | none => none
        | some z =>
          bif Nat.ble U c then
            bif Nat.beq k h then some (.slice none 0 U)
            else bif Nat.beq c (Nat.add U z) then (match x with
              | some a => match a with | ⟨_, _, none⟩ => fNat (Nat.sub h k) fun l' => addA a (Nat.mul k z) fun a => some (.slice (some a) l' c) | _ => none
              | none => none) else none
          else bif Nat.beq k c then fNat (Nat.sub h k) fun l' => fNat (Nat.sub c k) fun c' => some (.slice x l' c')
          else match x with
            | some a => match a with | ⟨_, _, none⟩ => fNat (Nat.sub h k) fun l' => fNat (Nat.sub c k) fun c' => addA a (Nat.mul k z) fun a => some (.slice (some a) l' c') | _ => none
            | none => none

noncomputable def fillA (place : Nat → Option (Nat × Nat)) (cs : List Value) : List (Nat × Value) → Option (List Value)
  | [] => some cs
  | (i, v) :: rest =>
    match place i with
    | none => none
    | some (off, size) =>
      match cellsOf v with
      | ws => bif Nat.beq ws.length size && Nat.ble (off + size) cs.length then fillA place (cs.take off ++ ws ++ cs.drop (off + size)) rest else none

noncomputable def zeroP (P : Program) (t : TypeId) : Option (List Value) :=
  match P.info? t with
  | some i => match i.zero with
    | some z => some (cellsOf z)
    | none => none
  | none => none

noncomputable def placesL (P : Program) (fs : List Field) : Option (List (Nat × Nat)) :=
  List.rec (motive := fun _ => Option (List (Nat × Nat))) (some []) (fun f _ ih => match sizeP P f.type with
    | some n => match ih with
      | some l => some ((f.offset, n) :: l)
      | none => none
    | none => none) fs
noncomputable def placesP (P : Program) (t : TypeId) : Option (Nat → Option (Nat × Nat)) :=
  match P.underlying t with
  | some (.struct fs) => match placesL P fs.toList with | some l => some fun i => nth l i | none => none
  | some (.array _ e) => match sizeP P e with
    | some n => some fun i => some (Nat.mul i n, n)
    | none => none
  | _ => none

noncomputable def buildA (P : Program) (t : TypeId) (parts : List (Nat × Value)) : Option Value :=
  match zeroP P t, placesP P t with
  | some z, some pl => match flats z with
    | true => match fillA pl z parts with
      | some cs => fSp cs fun cs => some (.agg ⟨cs⟩)
      | none => none
    | false => none
  | _, _ => none

noncomputable def evParts (s : Tr Value) : List (Nat × Operand) → Option (List (Nat × Value))
  | [] => some []
  | (i, o) :: r => match ev s o, evParts s r with
    | some v, some vs => some ((i, v) :: vs)
    | _, _ => none

noncomputable def rep (z : List Value) : Nat → List Value
  | 0 => []
  | n + 1 => z ++ rep z n

/-! ### append -/
noncomputable def firstA (H : Heap) (size n : Nat) : Value → Option (List Value)
  | .slice (some a) _ _ => rdN H a (n * size)
  | .slice none _ _ => bif Nat.beq n 0 then some [] else none
  | .string s => bif Nat.beq n s.data.toList.length then (fL0 (s.data.toList.map fun b => .int .u8 b.toNat) fun l => some l) else none
  | _ => none
noncomputable def lenA : Value → Option Nat
  | .slice _ n _ => some n
  | .string s => some s.data.toList.length
  | _ => none

/-- The capacity is not known. -/
noncomputable def appU (H : Heap) (base : Option Addr) (l c m z : Nat) (new : List Value) : Option (Value × Heap) :=
  match base, H with
  | some ⟨b, o, none⟩, ⟨nx, bl⟩ =>
    bif Nat.beq c (Nat.add U z) then
      match bl.get b with
      | some ⟨n, bz, bc, ch, stale, anc⟩ =>
        match stale with
        | true => none
        | false =>
          bif Nat.ble (o + l * z) n then
            fNat (l + m) fun l' =>
            fNat (l' * z) fun n' =>
            Blk.cellsK bz bc (l * z) o fun old =>
            putC old .nil 0 fun c' => putC new c' (l * z) fun c' =>
            bif Nat.beq (o + l * z) n then
              bl.put b ⟨n, bz, bc, ch, true, []⟩ fun bl =>
              bl.put nx ⟨n', .bool false, c', ch, false, b :: anc⟩ fun bl =>
              some (.slice (some ⟨nx, 0, none⟩) l' c, ⟨Nat.succ nx, bl⟩)
            else
              kill anc bl fun bl =>
              bl.put b ⟨0, bz, bc, ch, true, []⟩ fun bl =>
              bl.put nx ⟨n', .bool false, c', ch, false, []⟩ fun bl =>
              some (.slice (some ⟨nx, 0, none⟩) l' c, ⟨Nat.succ nx, bl⟩)
          else none
      | none => none
    else none
  | _, _ => none

noncomputable def appA (P : Program) (H : Heap) (e : TypeId) (s x : Value) : Option (Value × Heap) :=
  match s, lenA x, sizeP P e, P.info? e with
  | .slice base l c, some m, some z, some i =>
    match i.zero with
    | none => none
    | some zv =>
      match m with
      | 0 => some (s, H)
      | _ =>
        match firstA H z m x with
        | none => none
        | some new =>
          bif Nat.beq (cellsOf zv).length z && Nat.ble 1 z && Nat.ble ((l + m) * i.bytes) 140737488355328 && Nat.blt (l + m) 4611686018427387904 && one new && Nat.beq new.length (m * z) then
            bif Nat.ble U c then appU H base l c m z new
            else bif Nat.ble (l + m) c then
              match base with
              | none => none
              | some a => match a with
                | ⟨_, _, none⟩ => addA a (l * z) fun a' => match wrN H a' new with
                  | some H' => fNat (l + m) fun l' => some (.slice base l' c, H')
                  | none => none
                | _ => none
            else
              match firstA H z l s with
              | none => none
              | some old =>
                bif one old && Nat.beq old.length (l * z) then
                  fNat (l + m) fun l' => newL H (old ++ new) fun H' b => fNat (Nat.add U z) fun u => some (.slice (some ⟨b, 0, none⟩) l' u, H')
                else none
          else none
  | _, _, _, _ => none

/-! ### One operation that is no call of a function -/
noncomputable def convA (P : Program) (src dst : TypeId) (x : Value) : Option Value :=
  match P.underlying src, P.underlying dst, x with
  | some (.int _), some (.int k), .int _ n => fInt (k.wrap n) fun m => some (.int k m)
  | some .string, some .string, .string _ => some x
  | _, _, _ => none

noncomputable def nums (H : Heap) : List Value → Option (List UInt8)
  | [] => some []
  | .int .u8 n :: r => match nums H r with | some l => some (UInt8.ofNat n.toNat :: l) | none => none
  | _ => none

noncomputable def convH (P : Program) (H : Heap) (src dst : TypeId) (x : Value) : Option (Value × Heap) :=
  match P.underlying src, P.underlying dst, x with
  | some (.slice e), some .string, .slice a n _ =>
    match P.underlying e with
    | some (.int .u8) =>
      match a with
      | none => some (.string ⟨⟨[]⟩⟩, H)
      | some a => match rdN H a n with
        | some cs => match nums H cs with | some l => fBs l fun l => some (.string ⟨⟨l⟩⟩, H) | none => none
        | none => none
    | _ => none
  | some .string, some (.slice e), .string s =>
    match P.underlying e with
    | some (.int .u8) =>
      match s.data.toList with
      | l => fL0 (l.map fun b => .int .u8 b.toNat) fun cs => newL H cs fun H' b => fNat l.length fun n => some (.slice (some ⟨b, 0, none⟩) n (U + 1), H')
    | _ => none
  | some (.slice _), some (.slice e), .slice (some a) _ _ =>
    match Nat.beq src dst, P.underlying e with
    | true, some (.int .u8) => match a with
      | ⟨b, _, none⟩ => match H with
        | ⟨_, bl⟩ => match bl.get b with
          | some _ => some (x, H)
          | none => none
      | _ => none
    | _, _ => none
  | _, _, _ => match convA P src dst x with | some v => some (v, H) | none => none

noncomputable def idxV (P : Program) (t : TypeId) (x i : Value) : Option Value :=
  match i with
  | .int _ n =>
    match P.underlying t, x with
    | some .string, .string s => match n with
      | .ofNat m => match nth s.data.toList m with | some b => fNat b.toNat fun k => some (.int .u8 (.ofNat k)) | none => none
      | .negSucc _ => none
    | some (.array l e), .agg cs =>
      match inR n l, sizeP P e with
      | some m, some z => match aggP P e with
        | some false => bif Nat.beq z 1 then nth cs.toList m else none
        | _ => none
      | _, _ => none
    | _, _ => none
  | _ => none

noncomputable def optEv (s : Tr Value) : Option Operand → Option (Option Value)
  | none => some none
  | some o => match ev s o with | some v => some (some v) | none => none

noncomputable def sMove (H : Heap) (tm : Tr Value) (x : Operand) : Option (Value × Heap) :=
  match ev tm x with | some v => some (v, H) | none => none

noncomputable def sPick (P : Program) (H : Heap) (tm : Tr Value) (c : Operand) (a : Operand) (b : Operand) : Option (Value × Heap) :=
  match ev tm c with
    | some (.bool true) => match ev tm a with | some v => some (v, H) | none => none
    | some (.bool false) => match ev tm b with | some v => some (v, H) | none => none
    | _ => none

noncomputable def alleq (z : Value) (l : List Value) : Bool :=
  List.rec (motive := fun _ => Bool) true (fun v _ ih => match z, v with
    | .int k a, .int k' b => match keq k k' && ieq a b with | true => ih | false => false
    | .bool a, .bool b => match a == b with | true => ih | false => false
    | _, _ => false) l
noncomputable def sAlloc (P : Program) (H : Heap) (t : TypeId) : Option (Value × Heap) :=
  match zeroP P t with
  | some (z :: cs) => match flats (z :: cs) with
    | true => bif Nat.blt 64 (z :: cs).length then (match alleq z cs with
        | true => newB H (z :: cs).length z .nil fun H' b => some (.pointer (some ⟨b, 0, none⟩), H')
        | false => none)
      else newL H (z :: cs) fun H' b => some (.pointer (some ⟨b, 0, none⟩), H')
    | false => none
  | some [] => newL H [] fun H' b => some (.pointer (some ⟨b, 0, none⟩), H')
  | none => none

noncomputable def sBox (P : Program) (H : Heap) (tm : Tr Value) (x : Operand) : Option (Value × Heap) :=
  match ev tm x with
    | some v => match one (cellsOf v) with
      | true => newL H (cellsOf v) fun H' b => some (.pointer (some ⟨b, 0, none⟩), H')
      | false => none
    | none => none

noncomputable def sBuild (P : Program) (H : Heap) (tm : Tr Value) (t : TypeId) (ps : Array (Nat × Operand)) : Option (Value × Heap) :=
  match evParts tm ps.toList with
    | some l => match buildA P t l with | some v => some (v, H) | none => none
    | none => none

noncomputable def sBuildSlice (P : Program) (H : Heap) (tm : Tr Value) (t : TypeId) (n : Nat) (ps : Array (Nat × Operand)) : Option (Value × Heap) :=
  match evParts tm ps.toList, P.underlying t with
    | some l, some (.slice e) => match sizeP P e, zeroP P e with
      | some z, some zs => bif Nat.ble (Nat.mul n z) 16777216 && Nat.blt n 4294967296 && Nat.beq zs.length z && flats zs then (match fillA (fun i => some (Nat.mul i z, z)) (rep zs n) l with
        | some cs => match one cs with
          | true => fSp cs fun cs => newL H cs fun H' b => some (.slice (some ⟨b, 0, none⟩) n n, H')
          | false => none
        | none => none) else none
      | _, _ => none
    | _, _ => none

noncomputable def sLoad (P : Program) (H : Heap) (tm : Tr Value) (t : TypeId) (x : Operand) : Option (Value × Heap) :=
  match ev tm x with
    | some (.pointer (some a)) => match ldT P H t a with | some v => some (v, H) | none => none
    | _ => none

noncomputable def sStore (P : Program) (H : Heap) (tm : Tr Value) (t : TypeId) (x : Operand) (y : Operand) : Option (Value × Heap) :=
  match ev tm x, ev tm y with
    | some (.pointer (some a)), some v => match stT P H t a v with | some H' => some (.tuple #[], H') | none => none
    | _, _ => none

noncomputable def sNil (P : Program) (H : Heap) (tm : Tr Value) (x : Operand) : Option (Value × Heap) :=
  match ev tm x with
    | some (.pointer (some a)) => some (.pointer (some a), H)
    | _ => none

noncomputable def sBin (P : Program) (H : Heap) (tm : Tr Value) (op : BinOp) (t : TypeId) (x : Operand) (y : Operand) : Option (Value × Heap) :=
  match ev tm x, ev tm y with
    | some a, some b => match binA P op t a b with | some v => some (v, H) | none => none
    | _, _ => none

noncomputable def sUn (P : Program) (H : Heap) (tm : Tr Value) (op : UnOp) (x : Operand) : Option (Value × Heap) :=
  match ev tm x with
    | some a => match unA op a with | some v => some (v, H) | none => none
    | none => none

noncomputable def sConv (P : Program) (H : Heap) (tm : Tr Value) (s : TypeId) (d : TypeId) (x : Operand) : Option (Value × Heap) :=
  match ev tm x with
    | some a => convH P H s d a
    | none => none

noncomputable def sMake (P : Program) (H : Heap) (tm : Tr Value) (t : TypeId) (l : Operand) (c : Operand) : Option (Value × Heap) :=
  match ev tm l, ev tm c, P.underlying t with
    | some (.int _ (.ofNat n)), some (.int _ (.ofNat m)), some (.slice e) => match zeroP P e, P.info? e with
      | some zs, some i => bif Nat.ble n m && Nat.ble (m * i.bytes) 140737488355328 && Nat.blt m 4294967296 && Nat.beq zs.length i.size && flats zs then
          match rep zs m with
          | cs => newL H cs fun H' b => some (.slice (some ⟨b, 0, none⟩) n m, H')
        else none
      | _, _ => none
    | _, _, _ => none

noncomputable def sSlice (P : Program) (H : Heap) (tm : Tr Value) (t : TypeId) (x : Operand) (lo : Option Operand) (hi : Option Operand) (mx : Option Operand) : Option (Value × Heap) :=
  match ev tm x, optEv tm lo, optEv tm hi, optEv tm mx with
    | some v, some l, some h, some m =>
      match P.underlying t, v with
      | some (.slice e), .slice a n c => match cut P e a n c l h m with | some v => some (v, H) | none => none
      | some (.array n e), .pointer (some a) => bif Nat.blt n U then (match cut P e (some a) n n l h m with | some v => some (v, H) | none => none) else none
      | some .string, .string s =>
        match m with
        | some _ => none
        | none =>
          match s.data.toList with
          | bs =>
          match (match h with | none => some bs.length | some (.int _ n) => inQ n bs.length | _ => none) with
          | none => none
          | some h' => match (match l with | none => some 0 | some (.int _ n) => inQ n h' | _ => none) with
            | none => none
            | some l' => fBs ((bs.drop l').take (h' - l')) fun l => some (.string ⟨⟨l⟩⟩, H)
      | _, _ => none
    | _, _, _, _ => none

noncomputable def sFieldAddr (P : Program) (H : Heap) (tm : Tr Value) (t : TypeId) (x : Operand) (f : Nat) : Option (Value × Heap) :=
  match ev tm x, fld P t f with
    | some (.pointer (some a)), some (off, false) => match a with | ⟨_, _, none⟩ => addA a off fun a => some (.pointer (some a), H) | _ => none
    | _, _ => none

noncomputable def sField (P : Program) (H : Heap) (tm : Tr Value) (t : TypeId) (x : Operand) (f : Nat) : Option (Value × Heap) :=
  match ev tm x, P.underlying t with
    | some (.agg cs), some (.struct fs) => match fs[f]? with
      | some g => match aggP P g.type with
        | some true =>
          match sizeP P g.type with
          | some n => fSp ((cs.toList.drop g.offset).take n) fun l => some (.agg ⟨l⟩, H)
          | none => none
        | some false => match nth cs.toList g.offset with | some v => some (v, H) | none => none
        | none => none
      | none => none
    | _, _ => none

noncomputable def sIndexAddr (P : Program) (H : Heap) (tm : Tr Value) (t : TypeId) (x : Operand) (i : Operand) : Option (Value × Heap) :=
  match ev tm x, ev tm i with
    | some a, some b => match idx P t a b with | some v => some (v, H) | none => none
    | _, _ => none

noncomputable def sIndex (P : Program) (H : Heap) (tm : Tr Value) (t : TypeId) (x : Operand) (i : Operand) : Option (Value × Heap) :=
  match ev tm x, ev tm i with
    | some a, some b => match idxV P t a b with | some v => some (v, H) | none => none
    | _, _ => none

noncomputable def sExtract (P : Program) (H : Heap) (tm : Tr Value) (x : Operand) (i : Nat) : Option (Value × Heap) :=
  match ev tm x with
    | some (.tuple vs) => match nth vs.toList i with | some v => some (v, H) | none => none
    | _ => none

noncomputable def sFunc (P : Program) (H : Heap) (tm : Tr Value) (fn : Fn) (first : Array Operand) (captured : Array Operand) : Option (Value × Heap) :=
  match plainF fn with
  | true => match evs tm first.toList, evs tm captured.toList with
    | some a, some b => some (.func fn ⟨a⟩ ⟨b⟩, H)
    | _, _ => none
  | false => none

noncomputable def sBuiltin (P : Program) (H : Heap) (b : Builtin) (vs : List Value) (ts : Array TypeId) : Option (Value × Heap) :=
  match b with
  | .len => match vs, ts[0]? with
    | [x], some t => match P.underlying t, x with
      | some (.slice _), .slice _ n _ => some (.int .i64 (.ofNat n), H)
      | some .string, .string s => fNat s.data.toList.length fun n => some (.int .i64 (.ofNat n), H)
      | some (.array n _), _ => fNat n fun n => some (.int .i64 (.ofNat n), H)
      | _, _ => none
    | _, _ => none
  | .append => match vs, ts[0]?, ts[1]? with
    | [s, x], some t, some t' => match P.underlying t, P.underlying t' with
      | some (.slice e), some (.slice _) => appA P H e s x
      | some (.slice e), some .string => appA P H e s x
      | _, _ => none
    | _, _, _ => none
  | .max => match vs with
    | [.int k n, .int _ m] => match (bif ilt n m then m else n) with | r => fInt r fun r => some (.int k r, H)
    | [.int k n, .int _ m, .int _ l] => match (bif ilt n m then m else n) with | r => match (bif ilt r l then l else r) with | q => fInt q fun q => some (.int k q, H)
    | _ => none
  | .min => match vs with
    | [.int k n, .int _ m] => match (bif ilt m n then m else n) with | r => fInt r fun r => some (.int k r, H)
    | [.int k n, .int _ m, .int _ l] => match (bif ilt m n then m else n) with | r => match (bif ilt l r then l else r) with | q => fInt q fun q => some (.int k q, H)
    | _ => none
  | .copy => match vs, ts[0]? with
    | [.slice (some a) n _, x], some t => match P.underlying t, lenA x with
      | some (.slice e), some m => match sizeP P e with
        | some z => fNat (min m n) fun k => match firstA H z k x with
          | some cs => match wrN H a cs with | some H' => some (.int .i64 (.ofNat k), H') | none => none
          | none => none
        | none => none
      | _, _ => none
    | _, _ => none
  | _ => none

noncomputable def stepA (P : Program) (H : Heap) (tm : Tr Value) (o : Op) : Option (Value × Heap) :=
  match o with
  | .move x => sMove H tm x
  | .assign x => sMove H tm x
  | .pick c a b => sPick P H tm c a b
  | .alloc t => sAlloc P H t
  | .box _ x => sBox P H tm x
  | .build t ps => sBuild P H tm t ps
  | .buildSlice t n ps => sBuildSlice P H tm t n ps
  | .load t x => sLoad P H tm t x
  | .store t x y => sStore P H tm t x y
  | .nilCheck x => sNil P H tm x
  | .binOp op t x y _ => sBin P H tm op t x y
  | .unOp op _ x => sUn P H tm op x
  | .convert s d x => sConv P H tm s d x
  | .makeSlice t l c => sMake P H tm t l c
  | .slice t x lo hi mx => sSlice P H tm t x lo hi mx
  | .fieldAddr t x f => sFieldAddr P H tm t x f
  | .field t x f => sField P H tm t x f
  | .indexAddr t x i => sIndexAddr P H tm t x i
  | .index t x i => sIndex P H tm t x i
  | .extract x i => sExtract P H tm x i
  | .makeFunc fn first captured => sFunc P H tm fn first captured
  | _ => none

/-! ### Code -/
inductive Ex where
  | normal | exit (id : Nat) | ret

def Ex.isExit : Ex → Nat → Bool
  | .exit i, j => Nat.beq i j
  | _, _ => false

noncomputable def wantedA (ops : List Oper) (tm : Tr Value) (o : Oper) : Option Bool :=
  match o.guard with
  | none => some true
  | some (j, want) => match nth ops j with
    | some g => match g.dst with
      | some d => match tm.get d with
        | some (.bool b) => some (b == want)
        | some _ => some false
        | none => none
      | none => none
    | none => none

noncomputable def putT (tm : Tr Value) (nt : Nat) (d : Option Tmp) (v : Value) : Option (Tr Value) :=
  match d with
  | none => some tm
  | some t => bif Nat.blt t nt then tm.put t v fun t' => some t' else none

def isChain (o : Oper) : Bool :=
  match o.op with
  | .store .. => true
  | .mapUpdate .. => true
  | .call { callee := .builtin .len, .. } => false
  | .call { callee := .builtin .max, .. } => false
  | .call { callee := .builtin .min, .. } => false
  | .call _ => true
  | _ => false

noncomputable def ldRes (P : Program) (H : Heap) (tm : Tr Value) : List ResultVar → Option (List Value)
  | [] => some []
  | .tmp t :: r => match tm.get t, ldRes P H tm r with
    | some v, some l => some (v :: l)
    | _, _ => none
  | .cell a t :: r => match tm.get a with
    | some (.pointer (some p)) => match ldT P H t p, ldRes P H tm r with
      | some v, some l => some (v :: l)
      | _, _ => none
    | _ => none

noncomputable def resA (P : Program) (H : Heap) (tm : Tr Value) (rs : List ResultVar) : Option (Value × Heap) :=
  match ldRes P H tm rs with
  | some [v] => some (v, H)
  | some vs => some (.tuple ⟨vs⟩, H)
  | none => none
noncomputable def finA (P : Program) (rs : List ResultVar) (x : Option (Ex × Tr Value × Heap)) : Option (Value × Heap) :=
  match x with
  | some (.exit _, _, _) => none
  | some (.normal, tm, H) => resA P H tm rs
  | some (.ret, tm, H) => resA P H tm rs
  | none => none

abbrev Eval := Code → Tr Value → Nat → Heap → Option (Ex × Tr Value × Heap)

/-- A call of a function of the program. -/
noncomputable def callA (P : Program) (ih : Eval) (H : Heap) (f : FuncId) (args : List Value) : Option (Value × Heap) :=
  match P.funcs[f]? with
  | none => none
  | some fn => match fn.body with
    | none => none
    | some c => bif Nat.ble args.length fn.ntmps then
      putC args .nil 0 fun tm0 => finA P fn.results.toList (ih c tm0 fn.ntmps H)
      else none

/-- What a frame calls: functions of the program; the rounds of the loops around. -/
structure Ctx where
  call : Eval
  yl : Nat → List Value → Heap → Option (Value × Heap)
  nat : FuncId → List Value → Option Value

noncomputable def sCall (P : Program) (ih : Ctx) (H : Heap) (tm : Tr Value) (c : Call) : Option (Value × Heap) :=
  match c with
  | ⟨.value f, args, _⟩ => match ev tm f, evs tm args.toList with
    | some (.func (.func k) first captured), some vs => match first.toList ++ vs ++ captured.toList with
      | l => match ih.nat k l with
        | some v => some (v, H)
        | none => callA P ih.call H k l
    | some (.func (.yield b) ⟨[]⟩ ⟨[]⟩), some vs => ih.yl b vs H
    | _, _ => none
  | ⟨.builtin b, args, ts⟩ => match evs tm args.toList with
    | some vs => sBuiltin P H b vs ts
    | none => none
  | _ => none

noncomputable def opA (P : Program) (ih : Ctx) (H : Heap) (tm : Tr Value) (o : Oper) : Option (Value × Heap) :=
  match o.op with
  | .call c => sCall P ih H tm c
  | op => stepA P H tm op

noncomputable def opsA (P : Program) (ih : Ctx) (all : List Oper) (nt : Nat) (l : List Oper) : Tr Value → Heap → Option (Tr Value × Heap) :=
  List.rec (motive := fun _ => Tr Value → Heap → Option (Tr Value × Heap)) (fun tm H => some (tm, H)) (fun o _ rest tm H =>
    match wantedA all tm o with
    | some true => match opA P ih H tm o with
      | some (v, H') => match putT tm nt o.dst v with
        | some tm' => rest tm' H'
        | none => none
      | none => none
    | some false => match putT tm nt o.dst undef with
      | some tm' => rest tm' H
      | none => none
    | none => none) l

/-- How a region that draws its order is run. -/
abbrev Drw := Ctx → List Oper → Nat → Tr Value → Heap → Option (Tr Value × Heap)

/-- The first place of a byte; how often it stands there. -/
noncomputable def firstB (c : Nat) (l : List UInt8) : Nat → Option Nat :=
  List.rec (motive := fun _ => Nat → Option Nat) (fun _ => none) (fun b _ ih i => match Nat.beq b.toNat c with | true => some i | false => ih (Nat.succ i)) l
noncomputable def countB (c : Nat) (l : List UInt8) : Nat := List.rec (motive := fun _ => Nat) 0 (fun b _ ih => match Nat.beq b.toNat c with | true => Nat.succ ih | false => ih) l
/-- internal/bytealg.IndexByteString and CountString, whose numbers are ki and kc. -/
noncomputable def natA (ki kc : Nat) (k : FuncId) (vs : List Value) : Option Value :=
  match Nat.beq k ki with
  | true => match vs with
    | [.string s, .int .u8 (.ofNat c)] => bif Nat.blt c 256 then (match firstB c s.data.toList 0 with | some i => some (.int .i64 (.ofNat i)) | none => some (.int .i64 (.negSucc 0))) else none
    | _ => none
  | false => match Nat.beq k kc with
    | true => match vs with
      | [.string s, .int .u8 (.ofNat c)] => bif Nat.blt c 256 then fNat (countB c s.data.toList) fun n => some (.int .i64 (.ofNat n)) else none
      | _ => none
    | false => none

/-- A loop over a function that is under way: its number; yield's parameters; the round; the temporaries. -/
structure LoopR where
  b : Nat
  ps : List Tmp
  assign : Code
  body : Code
  tm : Tr Value
  nt : Nat
abbrev Env := List LoopR
noncomputable def findE (b : Nat) (env : Env) : Option LoopR :=
  List.rec (motive := fun _ => Option LoopR) none (fun e _ ih => match Nat.beq e.b b with | true => some e | false => ih) env
noncomputable def dropE (b : Nat) (env : Env) : Env :=
  List.rec (motive := fun _ => Env) [] (fun e _ ih => match Nat.beq e.b b with | true => ih | false => e :: ih) env
noncomputable def putP (nt : Nat) (ps : List Tmp) : List Value → Tr Value → Option (Tr Value) :=
  List.rec (motive := fun _ => List Value → Tr Value → Option (Tr Value)) (fun vs tm => match vs with | [] => some tm | _ :: _ => none)
    (fun p _ ih vs tm => match vs with
      | [] => none
      | v :: r => match putT tm nt (some p) v with
        | some tm' => ih r tm'
        | none => none) ps
/-- A round. -/
noncomputable def yieldA (ih : Env → Bool → Eval) (env : Env) : Nat → List Value → Heap → Option (Value × Heap) := fun b vs H =>
  match findE b env with
  | some ⟨_, ps, assign, body, tm, nt⟩ => match putP nt ps vs tm with
    | some tm1 => match ih (dropE b env) true assign tm1 nt H with
      | some (.normal, tm2, H2) => match ih (dropE b env) true body tm2 nt H2 with
        | some (.normal, _, H3) => some (.bool true, H3)
        | _ => none
      | _ => none
    | none => none
  | none => none
noncomputable def rangeA (P : Program) (ih : Env → Bool → Eval) (env : Env) (g : Operand) (ps : Array Tmp) (assign body : Code) (tm : Tr Value) (nt : Nat) (H : Heap) : Option (Ex × Tr Value × Heap) :=
  match H with
  | ⟨nx, bl⟩ => match ev tm g with
    | some (.func (.func k) first captured) =>
      match callA P (ih (⟨nx, ps.toList, assign, body, tm, nt⟩ :: env) false) ⟨Nat.succ nx, bl⟩ k (first.toList ++ [.func (.yield nx) ⟨[]⟩ ⟨[]⟩] ++ captured.toList) with
      | some (_, H') => some (.normal, tm, H')
      | none => none
    | _ => none
noncomputable def ctxA (nat : FuncId → List Value → Option Value) (ih : Env → Bool → Eval) (env : Env) : Ctx := ⟨ih env false, yieldA ih env, nat⟩
noncomputable def exF (P : Program) (nat : FuncId → List Value → Option Value) (drw : Drw) (all : Env → Bool → Eval) (env : Env) (inR : Bool) (ih : Eval) (c : Code) (tm : Tr Value) (nt : Nat) (H : Heap) : Option (Ex × Tr Value × Heap) :=
  match c with
  | .skip => some (.normal, tm, H)
  | .label _ => some (.normal, tm, H)
  | .ret => some (.ret, tm, H)
  | .exit id => some (.exit id, tm, H)
  | .seq a b => match ih a tm nt H with
    | some (.normal, tm', H') => ih b tm' nt H'
    | r => r
  | .cond o a b => match ev tm o with
    | some (.bool true) => ih a tm nt H
    | some (.bool false) => ih b tm nt H
    | _ => none
  | .block id b => match ih b tm nt H with
    | some (.exit j, tm', H') => bif Nat.beq j id then some (.normal, tm', H') else some (.exit j, tm', H')
    | r => r
  | .loop b => match ih b tm nt H with
    | some (.normal, tm', H') => ih (.loop b) tm' nt H'
    | r => r
  | .scope b => ih b tm nt H
  | .region _ ops false => match opsA P (ctxA nat all env) ops.toList nt ops.toList tm H with
    | some (tm', H') => some (.normal, tm', H')
    | none => none
  | .region _ ops true => match drw (ctxA nat all env) ops.toList nt tm H with
    | some (tm', H') => some (.normal, tm', H')
    | none => none
  | .rangeFunc g ps assign body => match inR with
    | true => none
    | false => rangeA P all env g ps assign body tm nt H
  | _ => none

noncomputable def ex (P : Program) (nat : FuncId → List Value → Option Value) (drw : Drw) (n : Nat) : Env → Bool → Eval :=
  Nat.rec (motive := fun _ => Env → Bool → Eval) (fun _ _ _ _ _ _ => none) (fun _ ih env inR => exF P nat drw ih env inR (ih env inR)) n

end Go.Proofs.YtkmhbfgkhalaoaaGreatDoor.LM

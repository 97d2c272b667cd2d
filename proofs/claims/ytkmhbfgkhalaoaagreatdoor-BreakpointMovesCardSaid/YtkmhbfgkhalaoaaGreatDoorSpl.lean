/- strings.Split at "\n": its contract (the shelf's walk of genSplit, laid over this program), and what the pieces are. Condition: a text of less than 4294967281 bytes. -/
import Derived.Test.YtkmhbfgkhalaoaaGreatDoorProg
import Derived.Shelf.Strings.SplitCore
import Derived.Shelf.Strings.Search3
import Derived.Shelf.Strings.Count
import Derived.Lib.SplitLaws
import Derived.Lib.IndexBytes
import Derived.Below
import Derived.Tactics
import Derived.Laws.OwnMore
import Derived.Test.YtkmhbfgkhalaoaaGreatDoorWWords
namespace Go.Proofs
open Go.Shelf

set_option maxRecDepth 100000 in
def Tryz.lays221_ren : Go.Shelf.Ren := ⟨fun | 221 => 34 | 268 => 54 | 138 => 55 | 143 => 56 | 195 => 97 | 197 => 98 | 218 => 99 | 219 => 100 | 260 => 176 | 217 => 177 | 225 => 178 | 224 => 179 | 267 => 180 | 266 => 261 | 314 => 262 | n => n, fun | 9 => 9 | 3 => 3 | 31 => 33 | 4 => 4 | 0 => 0 | 105 => 237 | 21 => 21 | 5 => 5 | 46 => 317 | 119 => 421 | 139 => 424 | 138 => 423 | 146 => 425 | 51 => 419 | n => n, fun | 1 => 0 | 3 => 3 | 4 => 4 | n => n⟩
set_option maxRecDepth 100000 in
theorem Tryz.lays221 : Lays.n221 Tryz.prog Tryz.lays221_ren where
  mixed := by kernel_rfl
  f138 := Tryz.func55.trans (congrArg some (by kernel_rfl))
  f143 := Tryz.func56.trans (congrArg some (by kernel_rfl))
  f195 := Tryz.func97.trans (congrArg some (by kernel_rfl))
  f197 := Tryz.func98.trans (congrArg some (by kernel_rfl))
  f217 := Tryz.func177.trans (congrArg some (by kernel_rfl))
  f218 := Tryz.func99.trans (congrArg some (by kernel_rfl))
  f219 := Tryz.func100.trans (congrArg some (by kernel_rfl))
  f221 := Tryz.func34.trans (congrArg some (by kernel_rfl))
  f224 := Tryz.func179.trans (congrArg some (by kernel_rfl))
  f225 := Tryz.func178.trans (congrArg some (by kernel_rfl))
  f260 := Tryz.func176.trans (congrArg some (by kernel_rfl))
  f266 := Tryz.func261.trans (congrArg some (by kernel_rfl))
  f267 := Tryz.func180.trans (congrArg some (by kernel_rfl))
  f268 := Tryz.func54.trans (congrArg some (by kernel_rfl))
  f314 := Tryz.func262.trans (congrArg some (by kernel_rfl))
  t0 := Tryz.underlying0
  a0 := Tryz.isAgg0
  z0 := Tryz.sizeOf0
  v0 := Tryz.zeroValue0
  t3 := Tryz.underlying3
  a3 := Tryz.isAgg3
  z3 := Tryz.sizeOf3
  v3 := Tryz.zeroValue3
  t4 := Tryz.underlying4
  a4 := Tryz.isAgg4
  z4 := Tryz.sizeOf4
  v4 := Tryz.zeroValue4
  t5 := Tryz.underlying5
  a5 := Tryz.isAgg5
  z5 := Tryz.sizeOf5
  v5 := Tryz.zeroValue5
  t9 := Tryz.underlying9
  a9 := Tryz.isAgg9
  z9 := Tryz.sizeOf9
  v9 := Tryz.zeroValue9
  t21 := Tryz.underlying21
  a21 := Tryz.isAgg21
  z21 := Tryz.sizeOf21
  v21 := Tryz.zeroValue21
  t31 := Tryz.underlying33
  a31 := Tryz.isAgg33
  z31 := Tryz.sizeOf33
  v31 := Tryz.zeroValue33
  t46 := Tryz.underlying317
  a46 := Tryz.isAgg317
  z46 := Tryz.sizeOf317
  v46 := Tryz.zeroValue317
  t51 := Tryz.underlying419
  a51 := Tryz.isAgg419
  z51 := Tryz.sizeOf419
  v51 := Tryz.zeroValue419
  t105 := Tryz.underlying237
  a105 := Tryz.isAgg237
  z105 := Tryz.sizeOf237
  v105 := Tryz.zeroValue237
  t119 := Tryz.underlying421
  a119 := Tryz.isAgg421
  z119 := Tryz.sizeOf421
  t138 := Tryz.underlying423
  a138 := Tryz.isAgg423
  z138 := Tryz.sizeOf423
  v138 := Tryz.zeroValue423
  t139 := Tryz.underlying424
  a139 := Tryz.isAgg424
  z139 := Tryz.sizeOf424
  v139 := Tryz.zeroValue424
  t146 := Tryz.underlying425
  a146 := Tryz.isAgg425
  z146 := Tryz.sizeOf425
  v146 := Tryz.zeroValue425
  g1 := by kernel_rfl
  g3 := by kernel_rfl
  g4 := by kernel_rfl
end Go.Proofs

namespace Go.Proofs.YtkmhbfgkhalaoaaGreatDoor.Spl
open Go.Shelf Go.RowKit Go.Lib Go.Proofs.YtkmhbfgkhalaoaaGreatDoorW.PrintWords

/-- The pieces of a text between its line ends. -/
def cut (s : ByteArray) : List ByteArray := Lib.splitB ⟨#[10]⟩ 0 (Lib.countB s ⟨#[10]⟩) s

/-- The lines of a list of bytes. -/
def lines : List UInt8 → List (List UInt8)
  | [] => [[]]
  | c :: t => if c = 10 then [] :: lines t else match lines t with | [] => [[c]] | h :: r => (c :: h) :: r

theorem lines_ne (l : List UInt8) : lines l ≠ [] := by
  cases l with
  | nil => simp [lines]
  | cons c t =>
    rw [lines]
    by_cases h : c = 10
    · rw [if_pos h]; simp
    · rw [if_neg h]
      split <;> simp

theorem splitK_one (k : Nat) : ∀ s : List UInt8, Lib.count s [10] = k → Lib.splitK [10] 0 k s = lines s := by
  suffices h : ∀ (n : Nat) (s : List UInt8), s.length = n → ∀ k, Lib.count s [10] = k → Lib.splitK [10] 0 k s = lines s from fun s => h _ s rfl k
  intro n
  induction n with
  | zero =>
    intro s hs k hk
    obtain rfl := List.eq_nil_of_length_eq_zero hs
    have h0 : Lib.index [] [10] = -1 := by simp [Lib.index]
    cases k with
    | zero => rfl
    | succ k => unfold Lib.splitK; rw [h0]; rfl
  | succ n ih =>
    intro s hs k hk
    cases s with
    | nil => simp at hs
    | cons c t =>
      have ht : t.length = n := by simpa using hs
      by_cases hc : c = 10
      · subst hc
        rw [Lib.count_cons_eq] at hk
        obtain ⟨k', rfl⟩ : ∃ k', k = k' + 1 := ⟨k - 1, by omega⟩
        have hix : Lib.index (10 :: t) [10] = ((0 : Nat) : Int) := by rw [Lib.index]; simp [List.isPrefixOf]
        unfold Lib.splitK
        rw [hix, if_neg (by decide), lines, if_pos rfl]
        simp only [Int.toNat_natCast, List.take_zero, List.length_singleton, Nat.zero_add, List.drop_succ_cons, List.drop_zero]
        rw [ih t ht k' (by omega)]
      · rw [Lib.count_cons_ne c 10 t hc] at hk
        have hp : ([10] : List UInt8).isPrefixOf (c :: t) = false := by simp [List.isPrefixOf, Ne.symm hc]
        have hix : Lib.index (c :: t) [10] = if Lib.index t [10] == -1 then -1 else Lib.index t [10] + 1 := by rw [Lib.index, hp]; simp
        have e := ih t ht k hk
        rw [lines, if_neg hc, ← e]
        cases k with
        | zero => rfl
        | succ k =>
          by_cases hm : Lib.index t [10] = -1
          · exact absurd (Lib.count_miss hm) (by omega)
          · have hge := Lib.index_ge t [10]
            obtain ⟨j, hj⟩ : ∃ j : Nat, Lib.index t [10] = j := ⟨(Lib.index t [10]).toNat, by omega⟩
            have hix' : Lib.index (c :: t) [10] = ((j + 1 : Nat) : Int) := by rw [hix, if_neg (fun e => hm (beq_iff_eq.1 e)), hj]; omega
            have hA : Lib.splitK [10] 0 (k + 1) t = t.take j :: Lib.splitK [10] 0 k (t.drop (j + 1)) := by
              rw [Lib.splitK, hj, if_neg (by simp)]
              simp
            have hB : Lib.splitK [10] 0 (k + 1) (c :: t) = (c :: t).take (j + 1) :: Lib.splitK [10] 0 k ((c :: t).drop (j + 2)) := by
              rw [Lib.splitK, hix', if_neg (by simp; omega)]
              simp
            rw [hA, hB]
            simp

theorem cut_data (s : ByteArray) : (cut s).map (·.data.toList) = lines s.data.toList := by
  unfold cut
  rw [Lib.splitB_data]
  exact splitK_one _ _ rfl

theorem info9 : (Tryz.prog.info? 9).map (fun i => (i.zero, i.size, i.bytes)) = some (some (.string ByteArray.empty), 1, 16) := by kernel_rfl

theorem reps (l : List ByteArray) (W : World) (base : Nat) (ok : Nat → Prop) : Reps (Kd.string.M W base ok) Kd.string.sz l (l.map Value.string) := by
  refine ⟨by simp [Kd.string, Kd.scalar], fun j p h => ?_⟩
  obtain ⟨hj, hp⟩ := List.getElem?_eq_some_iff.1 h
  subst hp
  show _ = [Value.string _]
  have : ((l.map Value.string).drop (j * 1)).take 1 = [Value.string l[j]] := by
    rw [Nat.mul_one, List.drop_eq_getElem_cons (by simpa using hj)]
    simp
  exact this

set_option maxHeartbeats 4000000 in
set_option maxRecDepth 100000 in
theorem calls (s : ByteArray) (hs : s.size < 4294967281) (w : World) :
    Calls Tryz.prog 23 #[.string s, .string ⟨#[10]⟩] w fun e w' => ∃ v0_ : Value, e = .returned (v0_) ∧ Kd.R Kd.string 9 w' w.heap.size (fun _ => True) v0_ (cut s) ∧ Below w.heap.size w w' := by
  have h1 : 1 ≤ (⟨#[10]⟩ : ByteArray).size := by decide
  have hle := Lib.countB_le ⟨#[10]⟩ h1 s.size s (Nat.le_refl _)
  have hlen := Lib.splitB_all ⟨#[10]⟩ h1 0 _ s rfl
  have c := Any.strings_genSplit_core (P := Tryz.prog) (ρ := Tryz.lays221_ren) Tryz.lays221 info9 s ⟨#[10]⟩ 0 (-1) (Lib.countB s ⟨#[10]⟩ + 1) w hs h1 (Nat.zero_le _)
    (fun x c _ => (Any.strings_Index_one { Tryz.lays221 with } x 10 _).mono fun e w' ⟨he, hw⟩ => ⟨by rw [he]; show _ = Ending.returned (Value.int .i64 (Lib.index x.data.toList [10])); rw [Lib.index_one], hw⟩)
    ((Any.strings_Count_one { Tryz.lays221 with } s 10 w).mono fun e w' ⟨he, hw⟩ => ⟨by rw [he]; show _ = Ending.returned (Value.int .i64 ((Lib.count s.data.toList [10] : Nat) : Int)); rw [Lib.count_one]; rfl, hw⟩)
    (by decide) (by decide) (by rw [if_pos (by decide)]; omega)
  rw [Nat.add_sub_cancel, hlen] at c
  have e2 : Lib.cellsOf (Lib.splitB ⟨#[10]⟩ 0 (Lib.countB s ⟨#[10]⟩) s) (Lib.countB s ⟨#[10]⟩ + 1) = ((cut s).map Value.string).toArray := by unfold cut; rw [← hlen]; exact Lib.cellsOf_full _
  rw [e2] at c
  have hn : Lib.countB s ⟨#[10]⟩ + 1 = (cut s).length := hlen.symm
  rw [hn] at c
  have hbig : (cut s).length ≤ maxLen := by rw [← hn]; unfold maxLen; omega
  have c' : Calls Tryz.prog 34 #[.string s, .string ⟨#[10]⟩, .int .i64 0, .int .i64 (-1)] w fun e w' => e = .returned (.slice (some ⟨w.heap.size, 0, none⟩) (cut s).length (cut s).length) ∧ w' = w.alloc (.cells ((cut s).map Value.string).toArray 9) := c
  clear c e2 hlen hle hn
  go_enter Tryz.func23, Tryz.ntmps23
  go_wp2_with (go_at_call 34; refine c'.mono ?_; rintro e w' ⟨rfl, hw⟩; rw [hw])
  go_ret
  refine ⟨_, rfl, ⟨fun _ _ => trivial, (cut s).map Value.string, ?_, reps _ _ _ _⟩, (Below.refl _ _).alloc (Nat.le_refl _) _⟩
  have h2 := World.ownsRow_lit (base := w.heap.size) (e := 9) (size := 1) w ((cut s).map Value.string).toArray (cut s).length (Nat.le_refl _) hbig (by simp)
  simp only at h2
  exact h2
end Go.Proofs.YtkmhbfgkhalaoaaGreatDoor.Spl

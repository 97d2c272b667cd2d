/- What the small functions of law 40 answer: Mod, texts, Lines. Conditions: a modulus above zero; a text of less than 4294967281 bytes. -/
import Derived.Test.YtkmhbfgkhalaoaaGreatDoorMovP
namespace Go.Proofs.YtkmhbfgkhalaoaaGreatDoor.PB
open Go.RowKit Go.Proofs.YtkmhbfgkhalaoaaGreatDoorW.PrintWords Go.Proofs.YtkmhbfgkhalaoaaGreatDoorW.PrintLast Go.Proofs.YtkmhbfgkhalaoaaGreatDoorW.PrintMore

/-! ### Lines of bytes -/
theorem lines_append : ∀ s t : List UInt8, Spl.lines (s ++ 10 :: t) = Spl.lines s ++ Spl.lines t
  | [], t => by
    show Spl.lines (10 :: t) = [] :: Spl.lines t
    rw [Spl.lines, if_pos rfl]
  | c :: s, t => by
    have ih := lines_append s t
    rw [List.cons_append, Spl.lines, Spl.lines]
    by_cases hc : c = 10
    · rw [if_pos hc, if_pos hc, ih, List.cons_append]
    · rw [if_neg hc, if_neg hc, ih]
      cases h : Spl.lines s with
      | nil => exact absurd h (Spl.lines_ne s)
      | cons x r => rfl
theorem lines_none : ∀ s : List UInt8, (∀ c ∈ s, c ≠ 10) → Spl.lines s = [s]
  | [], _ => rfl
  | c :: s, h => by
    rw [Spl.lines, if_neg (h c List.mem_cons_self), lines_none s (fun d hd => h d (List.mem_cons_of_mem _ hd))]
theorem lines_length : ∀ s : List UInt8, (Spl.lines s).length ≤ s.length + 1
  | [] => Nat.le_refl _
  | c :: s => by
    have ih := lines_length s
    rw [Spl.lines]
    by_cases hc : c = 10
    · rw [if_pos hc, List.length_cons, List.length_cons]; omega
    · rw [if_neg hc]
      cases h : Spl.lines s with
      | nil => exact absurd h (Spl.lines_ne s)
      | cons x r => rw [h] at ih; simp only [List.length_cons] at ih ⊢; omega
theorem lines_mem : ∀ (s l : List UInt8), l ∈ Spl.lines s → ∀ c ∈ l, c ∈ s
  | [], l, h, c, hc => by
    rw [Spl.lines, List.mem_singleton] at h
    rw [h] at hc; exact hc
  | d :: s, l, h, c, hc => by
    rw [Spl.lines] at h
    by_cases hd : d = 10
    · rw [if_pos hd] at h
      rcases List.mem_cons.1 h with h | h
      · rw [h] at hc; exact absurd hc List.not_mem_nil
      · exact List.mem_cons_of_mem _ (lines_mem s l h c hc)
    · rw [if_neg hd] at h
      cases hx : Spl.lines s with
      | nil => exact absurd hx (Spl.lines_ne s)
      | cons x r =>
        rw [hx] at h
        rcases List.mem_cons.1 h with h | h
        · rw [h] at hc
          rcases List.mem_cons.1 hc with hc | hc
          · rw [hc]; exact List.mem_cons_self
          · exact List.mem_cons_of_mem _ (lines_mem s x (by rw [hx]; exact List.mem_cons_self) c hc)
        · exact List.mem_cons_of_mem _ (lines_mem s l (by rw [hx]; exact List.mem_cons_of_mem _ h) c hc)

/-! ### Mod -/
theorem mod_spec (a m : Int) (h0 : 0 < m) (h1 : m ≤ 1000000) : ∃ r, debuggerkit_Mod.f a m = some r ∧ 0 ≤ r ∧ r < m := by
  have hl := Int.tmod_lt_of_pos a h0
  have hg : -m < Int.tmod a m := Int.lt_tmod_of_pos a h0
  unfold debuggerkit_Mod.f
  rw [if_neg (by omega)]
  by_cases h : Int.tmod a m < 0
  · rw [if_pos h]
    refine ⟨_, rfl, ?_⟩
    rw [w64 (by omega) (by omega)]
    exact ⟨by omega, by omega⟩
  · rw [if_neg h]
    exact ⟨_, rfl, by omega, hl⟩

/-! ### texts -/
/-- The bytes of one line. -/
theorem letter (r : Int) (h0 : 0 ≤ r) (h4 : r < 4) : (strOfNums [(wrap64 (97 + r)) % 256, 10]).size = 2 ∧ ∀ c ∈ (strOfNums [(wrap64 (97 + r)) % 256, 10]).data.toList, c ≠ 110 := by
  have : r = 0 ∨ r = 1 ∨ r = 2 ∨ r = 3 := by omega
  rcases this with rfl | rfl | rfl | rfl <;> refine ⟨by rw [strOfNums_size]; rfl, ?_⟩ <;> rw [strOfNums_data] <;> decide +kernel

theorem append_110 {a s : ByteArray} (ha : ∀ c ∈ a.data.toList, c ≠ 110) (hs : ∀ c ∈ s.data.toList, c ≠ 110) : ∀ c ∈ (a ++ s).data.toList, c ≠ 110 := by
  intro c hc
  rw [ByteArray.toList_data_append] at hc
  rcases List.mem_append.1 hc with h | h
  · exact ha c h
  · exact hs c h

theorem rdn' (xs : List Int) (i : Nat) : rd xs (i : Int) = xs.getD i 0 := rdn xs i

theorem texts_j2 (l o : List Int) (a : ByteArray) (i : Nat) (hi : i < l.length) (hi30 : i < 30) (b : ByteArray) (hb : b.size ≤ 4 * i) (Q : ByteArray × ByteArray → Prop)
    (hn : ∀ b' : ByteArray, b'.size ≤ 4 * (i + 1) → ∃ k r, debuggerlaw40_texts.l0 k l o a b' ((i + 1 : Nat) : Int) = some r ∧ Q r) (q : Int) :
    ∃ k r, debuggerlaw40_texts.j2 k l o a b i q = some r ∧ Q r := by
  have hi1 : i ≤ 1000 := by omega
  obtain ⟨r, hr, h0, h4⟩ := mod_spec (l.getD i 0) 4 (by decide) (by decide)
  obtain ⟨hs, _⟩ := letter r h0 h4
  have s2 : (⟨#[122, 10]⟩ : ByteArray).size = 2 := rfl
  have s3 : (⟨#[121, 10]⟩ : ByteArray).size = 2 := rfl
  by_cases q1 : q = 1
  · obtain ⟨k, r, hk, hq⟩ := hn b (by omega)
    refine ⟨k + 1, r, ?_, hq⟩
    rw [debuggerlaw40_texts.j2, if_pos q1, up hi1, hk]
  by_cases q2 : q = 2
  · have hb' : (b ++ (⟨#[122, 10]⟩ : ByteArray)).size ≤ 4 * (i + 1) := by rw [ByteArray.size_append, s2]; omega
    have c : b.size + 2 ≤ 9223372036854775807 := by omega
    obtain ⟨k, r, hk, hq⟩ := hn _ hb'
    refine ⟨k + 1, r, ?_, hq⟩
    rw [debuggerlaw40_texts.j2, if_neg q1, if_pos q2, if_pos c, up hi1, hk]
  by_cases q3 : q = 3
  · have c : b.size + 2 ≤ 9223372036854775807 := by omega
    have c1 : (b ++ (⟨#[121, 10]⟩ : ByteArray)).size + (strOfNums [(wrap64 (97 + r)) % 256, 10]).size ≤ 9223372036854775807 := by rw [ByteArray.size_append, s3, hs]; omega
    have hb' : (b ++ (⟨#[121, 10]⟩ : ByteArray) ++ strOfNums [(wrap64 (97 + r)) % 256, 10]).size ≤ 4 * (i + 1) := by rw [ByteArray.size_append, ByteArray.size_append, s3, hs]; omega
    obtain ⟨k, r', hk, hq⟩ := hn _ hb'
    refine ⟨k + 1, r', ?_, hq⟩
    rw [debuggerlaw40_texts.j2, if_neg q1, if_neg q2, if_pos q3, if_pos c, if_pos (ge0 i), if_pos (lt' hi), rdn', hr, Option.bind_some, Option.bind_some, if_pos c1, up hi1, hk]
  · have c1 : b.size + (strOfNums [(wrap64 (97 + r)) % 256, 10]).size ≤ 9223372036854775807 := by rw [hs]; omega
    have hb' : (b ++ strOfNums [(wrap64 (97 + r)) % 256, 10]).size ≤ 4 * (i + 1) := by rw [ByteArray.size_append, hs]; omega
    obtain ⟨k, r', hk, hq⟩ := hn _ hb'
    refine ⟨k + 1, r', ?_, hq⟩
    rw [debuggerlaw40_texts.j2, if_neg q1, if_neg q2, if_neg q3, if_pos (ge0 i), if_pos (lt' hi), rdn', hr, Option.bind_some, Option.bind_some, if_pos c1, up hi1, hk]

theorem texts_l0 (l o : List Int) : ∀ (d i : Nat) (a b : ByteArray), i + d = min l.length 30 → a.size ≤ 2 * i → b.size ≤ 4 * i → (∀ c ∈ a.data.toList, c ≠ 110) →
    ∃ k r, debuggerlaw40_texts.l0 k l o a b i = some r ∧ (r.1.size ≤ 60 ∧ r.2.size ≤ 120 ∧ ∀ c ∈ r.1.data.toList, c ≠ 110) := by
  intro d
  induction d with
  | zero =>
    intro i a b hd ha hb hc
    have hi : i ≤ 30 := by omega
    refine ⟨2, (a, b), ?_, by show a.size ≤ 60; omega, by show b.size ≤ 120; omega, hc⟩
    rw [debuggerlaw40_texts.l0]
    by_cases h : i < l.length
    · have h30 : ¬ ((i : Int) < 30) := by omega
      rw [if_pos (lt' h), decide_eq_false h30, debuggerlaw40_texts.j1, if_neg Bool.false_ne_true]
    · have h' : ¬ ((i : Int) < (l.length : Int)) := by omega
      rw [if_neg h', debuggerlaw40_texts.j1, if_neg Bool.false_ne_true]
  | succ d ih =>
    intro i a b hd ha hb hc
    have hi : i < l.length := by omega
    have hi30 : i < 30 := by omega
    have h30 : (i : Int) < 30 := by omega
    obtain ⟨r, hr, h0, h4⟩ := mod_spec (l.getD i 0) 4 (by decide) (by decide)
    obtain ⟨hs, hs110⟩ := letter r h0 h4
    have c1 : a.size + (strOfNums [(wrap64 (97 + r)) % 256, 10]).size ≤ 9223372036854775807 := by rw [hs]; omega
    have ha' : (a ++ strOfNums [(wrap64 (97 + r)) % 256, 10]).size ≤ 2 * (i + 1) := by rw [ByteArray.size_append, hs]; omega
    have key := texts_j2 l o (a ++ strOfNums [(wrap64 (97 + r)) % 256, 10]) i hi hi30 b hb _ (fun b' hb' => ih (i + 1) _ b' (by omega) ha' hb' (append_110 hc hs110))
    by_cases ho : i < o.length
    · obtain ⟨q, hq, _, _⟩ := mod_spec (o.getD i 0) 8 (by decide) (by decide)
      obtain ⟨k, p, hk, hp⟩ := key q
      refine ⟨k + 2, p, ?_, hp⟩
      rw [debuggerlaw40_texts.l0, if_pos (lt' hi), decide_eq_true h30, debuggerlaw40_texts.j1, if_pos rfl, if_pos (ge0 i), if_pos (lt' hi), rdn', hr, Option.bind_some, Option.bind_some, if_pos c1, if_pos (lt' ho), rdn', hq, Option.bind_some, hk]
    · have ho' : ¬ ((i : Int) < (o.length : Int)) := by omega
      obtain ⟨k, p, hk, hp⟩ := key 0
      refine ⟨k + 2, p, ?_, hp⟩
      rw [debuggerlaw40_texts.l0, if_pos (lt' hi), decide_eq_true h30, debuggerlaw40_texts.j1, if_pos rfl, if_pos (ge0 i), if_pos (lt' hi), rdn', hr, Option.bind_some, Option.bind_some, if_pos c1, if_neg ho', hk]

theorem texts_spec (l o : List Int) : ∃ k r, debuggerlaw40_texts.f k l o = some r ∧ (r.1.size ≤ 60 ∧ r.2.size ≤ 120 ∧ ∀ c ∈ r.1.data.toList, c ≠ 110) := by
  obtain ⟨k, r, hk, h⟩ := texts_l0 l o (min l.length 30) 0 (⟨#[]⟩ : ByteArray) (⟨#[]⟩ : ByteArray) (Nat.zero_add _) (Nat.zero_le _) (Nat.zero_le _) (fun c hc => absurd hc (by simp))
  exact ⟨k, r, hk, h⟩

/-! ### Lines -/
theorem extract_data (s : ByteArray) (i j : Nat) : (s.extract i j).data.toList = (s.data.toList.drop i).take (j - i) := by
  rw [ByteArray.data_extract, Array.toList_extract, List.extract_eq_take_drop]

theorem size_list (s : ByteArray) : s.size = s.data.toList.length := by
  rw [← ByteArray.size_data]; rfl

theorem bt_list (s : ByteArray) (i : Nat) (h : i < s.data.toList.length) : bt s (i : Int) = (s.data.toList[i].toNat : Int) := by
  have h' : i < s.size := by rw [size_list]; exact h
  unfold bt
  rw [dif_pos (show (i : Int).toNat < s.size by rw [Int.toNat_natCast]; exact h')]
  rfl

theorem bt_ten (s : ByteArray) (i : Nat) (h : i < s.data.toList.length) : bt s (i : Int) = 10 ↔ s.data.toList[i] = 10 := by
  rw [bt_list s i h]
  generalize s.data.toList[i] = c
  constructor
  · intro e
    have : c.toNat = (10 : UInt8).toNat := by show c.toNat = 10; omega
    exact UInt8.toNat_inj.1 this
  · intro e
    rw [e]; rfl

/-- The piece from one place to another one, and what is behind it. -/
theorem piece (L : List UInt8) (f i : Nat) (hf : f ≤ i) (hi : i < L.length) : L.drop f = (L.drop f).take (i - f) ++ L[i] :: L.drop (i + 1) := by
  have h : (L.drop f).drop (i - f) = L[i] :: L.drop (i + 1) := by
    rw [List.drop_drop, Nat.add_sub_cancel' hf, List.drop_eq_getElem_cons hi]
  rw [← h, List.take_append_drop]
theorem piece_mem (L : List UInt8) (f i : Nat) (hi : i ≤ L.length) (hf : f ≤ i) (hn : ∀ q (_ : f ≤ q) (hq : q < i), L[q]'(Nat.lt_of_lt_of_le hq hi) ≠ 10) : ∀ c ∈ (L.drop f).take (i - f), c ≠ 10 := by
  intro c hc
  obtain ⟨n, hn1, rfl⟩ := List.mem_iff_getElem.1 hc
  rw [List.length_take, List.length_drop] at hn1
  rw [List.getElem_take, List.getElem_drop]
  exact hn (f + n) (Nat.le_add_right _ _) (by omega)

theorem lines_l0 (s : ByteArray) (hs : s.size < 4294967281) : ∀ (d f i : Nat) (acc : List ByteArray), i + d = s.data.toList.length → f ≤ i → acc.length ≤ i →
    (∀ q (_ : f ≤ q) (_ : q < i) (hl : q < s.data.toList.length), s.data.toList[q] ≠ 10) →
    ∃ k r, debuggerref40_Lines.l0 k s acc f i = some r ∧ dl r = dl acc ++ Spl.lines (s.data.toList.drop f) := by
  have hsl := size_list s
  intro d
  induction d with
  | zero =>
    intro f i acc hd hf ha hn
    have hi : i = s.size := by omega
    have hiI : (i : Int) = (s.size : Int) := by rw [hi]
    have hle : (i : Int) ≤ (s.size : Int) := by omega
    have hlef : (f : Int) ≤ (i : Int) := by omega
    have c : acc.length < 8796093022208 := by omega
    have cw : wrap64 ((i : Int) + 1) = ((i + 1 : Nat) : Int) := by unfold wrap64; omega
    have cn : ¬ (((i + 1 : Nat) : Int) ≤ (s.size : Int)) := by omega
    refine ⟨2, acc ++ [s.extract f i], ?_, ?_⟩
    · rw [debuggerref40_Lines.l0, if_pos hle, if_pos hiI, if_pos (ge0 f), if_pos hlef, if_pos c, cw, Int.toNat_natCast, Int.toNat_natCast, debuggerref40_Lines.l0, if_neg cn]
    · have e : (s.data.toList.drop f).take (i - f) = s.data.toList.drop f := List.take_of_length_le (by rw [List.length_drop]; omega)
      have hm := piece_mem s.data.toList f i (by omega) hf (fun q h1 h2 => hn q h1 h2 _)
      rw [e] at hm
      rw [lines_none _ hm]
      unfold dl
      rw [List.map_append, List.map_cons, List.map_nil, extract_data, e]
  | succ d ih =>
    intro f i acc hd hf ha hn
    have hil : i < s.data.toList.length := by omega
    have his : (i : Int) < (s.size : Int) := by omega
    have hne : ¬ ((i : Int) = (s.size : Int)) := by omega
    have hle : (i : Int) ≤ (s.size : Int) := by omega
    have hlef : (f : Int) ≤ (i : Int) := by omega
    have c : acc.length < 8796093022208 := by omega
    have cw : wrap64 ((i : Int) + 1) = ((i + 1 : Nat) : Int) := by unfold wrap64; omega
    have h10 := bt_ten s i hil
    by_cases hb : s.data.toList[i] = 10
    · obtain ⟨k, r, hk, hr⟩ := ih (i + 1) (i + 1) (acc ++ [s.extract f i]) (by omega) (Nat.le_refl _) (by rw [List.length_append, List.length_singleton]; omega) (fun q h1 h2 _ => absurd h2 (by omega))
      refine ⟨k + 1, r, ?_, ?_⟩
      · rw [debuggerref40_Lines.l0, if_pos hle, if_neg hne, if_pos (ge0 i), if_pos his, if_pos (h10.2 hb), if_pos (ge0 f), if_pos hlef, if_pos c, cw, Int.toNat_natCast, Int.toNat_natCast, hk]
      · have hm := piece_mem s.data.toList f i (Nat.le_of_lt hil) hf (fun q h1 h2 => hn q h1 h2 _)
        rw [hr, piece s.data.toList f i hf hil, hb, lines_append, lines_none _ hm]
        unfold dl
        rw [List.map_append, List.map_cons, List.map_nil, extract_data, List.append_assoc]
    · obtain ⟨k, r, hk, hr⟩ := ih f (i + 1) acc (by omega) (Nat.le_succ_of_le hf) (Nat.le_succ_of_le ha) (fun q h1 h2 hl => by
        by_cases e : q = i
        · subst e; exact hb
        · exact hn q h1 (by omega) hl)
      refine ⟨k + 1, r, ?_, hr⟩
      rw [debuggerref40_Lines.l0, if_pos hle, if_neg hne, if_pos (ge0 i), if_pos his, if_neg (fun h => hb (h10.1 h)), cw, hk]

theorem lines_spec (s : ByteArray) (hs : s.size < 4294967281) : ∃ k r, debuggerref40_Lines.f k s = some r ∧ dl r = Spl.lines s.data.toList := by
  obtain ⟨k, r, hk, hr⟩ := lines_l0 s hs s.data.toList.length 0 0 [] (Nat.zero_add _) (Nat.le_refl _) (Nat.le_refl _) (fun q _ h _ => absurd h (Nat.not_lt_zero _))
  exact ⟨k, r, hk, by rw [hr]; rfl⟩
end Go.Proofs.YtkmhbfgkhalaoaaGreatDoor.PB

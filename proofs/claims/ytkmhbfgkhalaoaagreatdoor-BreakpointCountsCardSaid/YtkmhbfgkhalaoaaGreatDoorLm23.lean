/- Pure operations answer the same in every heap; reading ones when a block is added; values held against each other. -/
import Derived.Test.YtkmhbfgkhalaoaaGreatDoorLm22
set_option linter.unusedVariables false
set_option linter.unusedSimpArgs false
set_option linter.unusedSectionVars false
namespace Go.Proofs.YtkmhbfgkhalaoaaGreatDoor.LM
open Go Go.RowKit

theorem pure_any {P : Program} {ih : Ctx} {H H' : Heap} {tm : Tr Value} {o : Oper} {v : Value} (hk : kindA P o = .pure) (h : opA P ih H tm o = some (v, H')) (H2 : Heap) : opA P ih H2 tm o = some (v, H2) := by
  unfold kindA at hk
  unfold opA at h ⊢
  split at h
  · rename_i c hop
    rw [hop] at hk
    unfold sCall at h ⊢
    split at h
    · cases hk
    · rename_i b args ts
      split at h
      · rename_i vs hvs
        try simp only [hvs]
        cases b <;> first
          | (cases hk; done)
          | (unfold sBuiltin at h ⊢
             dsimp only at h ⊢
             (repeat' (split at h))
             all_goals first
               | (simp only [fNat_eq, fInt_eq] at h ⊢; cases h; simp_all; done)
               | (cases h; done)
               | (cases h; simp_all; done))
      · cases h
    · cases h
  · generalize hop : o.op = op at h hk ⊢
    cases op <;> simp only [stepA] at h ⊢ <;> first
      | (cases hk; done)
      | (cases h; done)
      | skip
    case move x => unfold sMove at h ⊢; split at h <;> cases h; simp_all
    case assign x => unfold sMove at h ⊢; split at h <;> cases h; simp_all
    case pick c a b => unfold sPick at h ⊢; (repeat' (split at h)); all_goals first | (cases h; simp_all; done) | (cases h; done)
    case build t ps => unfold sBuild at h ⊢; (repeat' (split at h)); all_goals first | (cases h; simp_all; done) | (cases h; done)
    case nilCheck x => unfold sNil at h ⊢; (repeat' (split at h)); all_goals first | (cases h; simp_all; done) | (cases h; done)
    case binOp op t x y yt => unfold sBin at h ⊢; (repeat' (split at h)); all_goals first | (cases h; simp_all; done) | (cases h; done)
    case unOp op t x => unfold sUn at h ⊢; (repeat' (split at h)); all_goals first | (cases h; simp_all; done) | (cases h; done)
    case convert s d x =>
      unfold sConv at h ⊢
      split at h
      · rename_i p hp
        unfold convH at h ⊢
        split at h
        · rename_i hs hd
          simp only [hs, hd] at hk
          cases hk
        · rename_i e str hs hd
          simp only [hs, hd] at hk
          cases hk
        · rename_i e0 e a n c hs hd
          simp only [hs, hd] at hk
          cases hk
        · rename_i h1 h2 h3
          split at h
          · rename_i u hu
            cases h
            rfl
          · cases h
      · cases h
    case slice t x lo hi mx =>
      unfold sSlice at h ⊢
      split at h
      · rename_i v0 l0 h0 m0 hv0 hl0 hh0 hm0
        try simp only [hv0, hl0, hh0, hm0]
        split at h
        · rename_i hu
          try simp only [hu]
          split at h
          · rename_i hc; cases h; simp only [hc]
          · cases h
        · rename_i hu
          try simp only [hu]
          generalize Nat.blt _ U = bb at h ⊢
          cases bb <;> simp only [cond_true, cond_false] at h ⊢
          · cases h
          · split at h
            · rename_i hc; cases h; simp only [hc]
            · cases h
        · rename_i hu
          try simp only [hu]
          split at h
          · cases h
          · dsimp only at h ⊢
            split at h
            · cases h
            · rename_i h' hh'
              try simp only [hh']
              split at h
              · cases h
              · rename_i l' hl'
                try simp only [hl']
                rw [fBs_eq] at h ⊢; cases h; rfl
        · cases h
      · cases h
    case fieldAddr t x f =>
      unfold sFieldAddr at h ⊢
      (repeat' (split at h))
      all_goals first | (simp only [addA, fNat_eq] at h ⊢; cases h; simp_all [addA, fNat_eq]; done) | (cases h; done)
    case field t x f =>
      unfold sField at h ⊢
      (repeat' (split at h))
      all_goals first | (simp only [fSp_eq] at h; cases h; simp_all [fSp_eq]; done) | (cases h; simp_all; done) | (cases h; done)
    case indexAddr t x i => unfold sIndexAddr at h ⊢; (repeat' (split at h)); all_goals first | (cases h; simp_all; done) | (cases h; done)
    case index t x i => unfold sIndex at h ⊢; (repeat' (split at h)); all_goals first | (cases h; simp_all; done) | (cases h; done)
    case extract x i => unfold sExtract at h ⊢; (repeat' (split at h)); all_goals first | (cases h; simp_all; done) | (cases h; done)
    case makeFunc fn a b => unfold sFunc at h ⊢; (repeat' (split at h)); all_goals first | (cases h; simp_all; done) | (cases h; done)

theorem rd1_grow {H : Heap} (hw : HW H) {B : Blk} {a : Addr} {v : Value} (h : rd1 H a = some v) : rd1 ⟨H.next + 1, H.bl.set H.next B⟩ a = some v := by
  obtain ⟨nx, bl⟩ := H
  obtain ⟨b, o, s⟩ := a
  cases s with
  | some x => cases h
  | none =>
    unfold rd1 at h ⊢
    dsimp only at h ⊢
    cases hb : bl.get b with
    | none => rw [hb] at h; cases h
    | some K =>
      have hlt : b < nx := hw.dom b K hb
      rw [Tr.get_set, if_neg (Nat.ne_of_lt hlt)]
      exact h
theorem rdN_grow {H : Heap} (hw : HW H) {B : Blk} {a : Addr} {n : Nat} {v : List Value} (h : rdN H a n = some v) : rdN ⟨H.next + 1, H.bl.set H.next B⟩ a n = some v := by
  obtain ⟨nx, bl⟩ := H
  obtain ⟨b, o, s⟩ := a
  cases s with
  | some x => cases h
  | none =>
    unfold rdN at h ⊢
    dsimp only at h ⊢
    cases hb : bl.get b with
    | none => rw [hb] at h; cases h
    | some K =>
      have hlt : b < nx := hw.dom b K hb
      rw [Tr.get_set, if_neg (Nat.ne_of_lt hlt)]
      rw [hb] at h ⊢
      exact h
theorem nums_any (H H2 : Heap) : ∀ (l : List Value), nums H l = nums H2 l := by
  intro l
  induction l with
  | nil => rfl
  | cons x r ih =>
    unfold nums
    split
    · rename_i hx; cases hx
    · rename_i hx; cases hx; rw [ih]
    · rfl

theorem reads_grow {P : Program} {ih : Ctx} {H H' : Heap} (hw : HW H) {tm : Tr Value} {o : Oper} {v : Value} {B : Blk} (hk : kindA P o = .reads) (h : opA P ih H tm o = some (v, H')) :
    opA P ih ⟨H.next + 1, H.bl.set H.next B⟩ tm o = some (v, ⟨H.next + 1, H.bl.set H.next B⟩) := by
  unfold kindA at hk
  unfold opA at h ⊢
  split at h
  · rename_i c hop
    rw [hop] at hk
    split at hk <;> first | (cases hk; done) | (rename_i h0; cases h0)
  · generalize hop : o.op = op at h hk ⊢
    cases op <;> simp only [stepA] at h ⊢ <;> first
      | (cases hk; done)
      | (cases h; done)
      | skip
    case load t x =>
      unfold sLoad at h ⊢
      split at h
      · rename_i a ha
        split at h
        · rename_i u hu
          cases h
          try rw [ha]
          try dsimp only
          have : ldT P ⟨H.next + 1, H.bl.set H.next B⟩ t a = some v := by
            unfold ldT at hu ⊢
            split at hu
            · rename_i hag
              try rw [hag]
              try dsimp only
              split at hu
              · rename_i n hn
                try rw [hn]
                try dsimp only
                split at hu
                · rename_i cs hcs
                  rw [rdN_grow hw hcs]; exact hu
                · cases hu
              · cases hu
            · rename_i hag
              try rw [hag]
              exact rd1_grow hw hu
            · cases hu
          rw [this]
        · cases h
      · cases h
    case convert s d x =>
      unfold sConv at h ⊢
      split at h
      · rename_i p hp
        unfold convH at h ⊢
        split at h
        · rename_i e a n cc hs hd
          split at h
          · rename_i he
            try rw [he]
            try dsimp only
            split at h
            · cases h; rfl
            · rename_i a0
              split at h
              · rename_i cs hcs
                rw [rdN_grow hw hcs]
                dsimp only
                split at h
                · rename_i l hl
                  rw [← nums_any H, hl]
                  dsimp only
                  rw [fBs_eq] at h ⊢
                  cases h; rfl
                · cases h
              · cases h
          · cases h
        · rename_i e str hs hd
          simp only [hs, hd] at hk
          cases hk
        · rename_i e0 e a n c hs hd
          split at h
          · split at h
            · split at h
              rename_i nx bl
              split at h
              · rename_i K hK
                cases h
                have hlt := hw.dom _ K hK
                dsimp only
                rw [Tr.get_set, if_neg (Nat.ne_of_lt hlt)]
                simp_all
              · cases h
            · cases h
          · cases h
        · split at h
          · rename_i u hu
            cases h
            rfl
          · cases h
      · cases h

/-! ### Values held against each other -/
noncomputable def veq1 (x y : Value) : Bool :=
  match x, y with
  | .int k a, .int k' b => match keq k k' with | true => ieq a b | false => false
  | .bool a, .bool b => a == b
  | .string a, .string b => beqB a.data.toList b.data.toList
  | .pointer none, .pointer none => true
  | .pointer (some ⟨b, o, none⟩), .pointer (some ⟨b', o', none⟩) => match Nat.beq b b' with | true => Nat.beq o o' | false => false
  | .slice none l c, .slice none l' c' => match Nat.beq l l' with | true => Nat.beq c c' | false => false
  | .slice (some ⟨b, o, none⟩) l c, .slice (some ⟨b', o', none⟩) l' c' => match Nat.beq b b' with
    | true => match Nat.beq o o' with
      | true => match Nat.beq l l' with | true => Nat.beq c c' | false => false
      | false => false
    | false => false
  | .nilFunc, .nilFunc => true
  | .nilIface, .nilIface => true
  | .func (.func a) ⟨[]⟩ ⟨[]⟩, .func (.func b) ⟨[]⟩ ⟨[]⟩ => Nat.beq a b
  | _, _ => false
noncomputable def veqs (l : List Value) : List Value → Bool :=
  List.rec (motive := fun _ => List Value → Bool) (fun y => match y with | [] => true | _ => false)
    (fun a _ ih y => match y with | [] => false | b :: r => match veq1 a b with | true => ih r | false => false) l
noncomputable def veq (x y : Value) : Bool :=
  match x, y with
  | .agg ⟨a⟩, .agg ⟨b⟩ => veqs a b
  | x, y => veq1 x y

theorem bytes_eq {a b : ByteArray} (h : a.data.toList = b.data.toList) : a = b := by
  obtain ⟨⟨a⟩⟩ := a
  obtain ⟨⟨b⟩⟩ := b
  cases h
  rfl
theorem veq1_eq {x y : Value} (h : veq1 x y = true) : x = y := by
  unfold veq1 at h
  split at h
  · split at h
    · rename_i hk; rw [keq_eq hk, (ieq_eq).1 h]
    · cases h
  · have := eq_of_beq h; subst this; rfl
  · rw [beqB_eq] at h; rw [bytes_eq (eq_of_beq h)]
  · rfl
  · split at h
    · rename_i hb; rw [Nat.eq_of_beq_eq_true hb, Nat.eq_of_beq_eq_true h]
    · cases h
  · split at h
    · rename_i hb; rw [Nat.eq_of_beq_eq_true hb, Nat.eq_of_beq_eq_true h]
    · cases h
  · split at h
    · rename_i h1
      split at h
      · rename_i h2
        split at h
        · rename_i h3
          rw [Nat.eq_of_beq_eq_true h1, Nat.eq_of_beq_eq_true h2, Nat.eq_of_beq_eq_true h3, Nat.eq_of_beq_eq_true h]
        · cases h
      · cases h
    · cases h
  · rfl
  · rfl
  · rw [Nat.eq_of_beq_eq_true h]
  · cases h
theorem veqs_eq : ∀ (l m : List Value), veqs l m = true → l = m := by
  intro l
  induction l with
  | nil => intro m h; cases m with
    | nil => rfl
    | cons b r => cases h
  | cons a s ih =>
    intro m h
    cases m with
    | nil => cases h
    | cons b r =>
      have h' : (match veq1 a b with | true => veqs s r | false => false) = true := h
      split at h'
      · rename_i h1; rw [veq1_eq h1, ih r h']
      · cases h'
theorem veq_eq {x y : Value} (h : veq x y = true) : x = y := by
  unfold veq at h
  split at h
  · rw [veqs_eq _ _ h]
  · exact veq1_eq h

end Go.Proofs.YtkmhbfgkhalaoaaGreatDoor.LM

/- An operation looks at its operands alone. -/
import Derived.Test.YtkmhbfgkhalaoaaGreatDoorLm18
set_option linter.unusedVariables false
set_option linter.unusedSimpArgs false
set_option linter.unusedSectionVars false
namespace Go.Proofs.YtkmhbfgkhalaoaaGreatDoor.LM
open Go Go.RowKit

theorem evs_congr {tm tm' : Tr Value} : ∀ (l : List Operand), (∀ x ∈ l, ev tm x = ev tm' x) → evs tm l = evs tm' l := by
  intro l
  induction l with
  | nil => intro _; rfl
  | cons o r ih =>
    intro h
    have h1 := h o (by simp)
    have h2 := ih (fun x hx => h x (List.mem_cons_of_mem _ hx))
    show (match ev tm o with
      | some v => match evs tm r with
        | some vs => some (v :: vs)
        | none => none
      | none => none) = (match ev tm' o with
      | some v => match evs tm' r with
        | some vs => some (v :: vs)
        | none => none
      | none => none)
    rw [h1, h2]
theorem evParts_congr {tm tm' : Tr Value} : ∀ (l : List (Nat × Operand)), (∀ x ∈ l.map (·.2), ev tm x = ev tm' x) → evParts tm l = evParts tm' l := by
  intro l
  induction l with
  | nil => intro _; rfl
  | cons p r ih =>
    obtain ⟨i, o⟩ := p
    intro h
    have h1 := h o (by simp)
    have h2 := ih (fun x hx => h x (by simp only [List.map_cons]; exact List.mem_cons_of_mem _ hx))
    simp only [evParts, h1, h2]
theorem optEv_congr {tm tm' : Tr Value} (x : Option Operand) (h : ∀ y ∈ x.toArray, ev tm y = ev tm' y) : optEv tm x = optEv tm' x := by
  cases x with
  | none => rfl
  | some o =>
    have h1 := h o (by simp)
    show (match ev tm o with | some v => some (some v) | none => none) = (match ev tm' o with | some v => some (some v) | none => none)
    rw [h1]

theorem stepA_congr {P : Program} {H : Heap} {tm tm' : Tr Value} {op : Op} (h : ∀ x ∈ op.operands, ev tm x = ev tm' x) : stepA P H tm op = stepA P H tm' op := by
  cases op <;> simp only [stepA] <;> simp only [Op.operands] at h
  case move x => simp only [sMove, h x (by simp)]
  case assign x => simp only [sMove, h x (by simp)]
  case pick c a b => simp only [sPick, h c (by simp), h a (by simp), h b (by simp)]
  case box t x => simp only [sBox, h x (by simp)]
  case build t ps => simp only [sBuild, evParts_congr ps.toList (fun x hx => h x (by simpa using hx))]
  case buildSlice t n ps => simp only [sBuildSlice, evParts_congr ps.toList (fun x hx => h x (by simpa using hx))]
  case load t x => simp only [sLoad, h x (by simp)]
  case store t x y => simp only [sStore, h x (by simp), h y (by simp)]
  case nilCheck x => simp only [sNil, h x (by simp)]
  case binOp op t x y yt => simp only [sBin, h x (by simp), h y (by simp)]
  case unOp op t x => simp only [sUn, h x (by simp)]
  case convert s d x => simp only [sConv, h x (by simp)]
  case makeSlice t l c => simp only [sMake, h l (by simp), h c (by simp)]
  case slice t x lo hi mx =>
    have h1 := h x (by simp)
    have h2 := optEv_congr lo (fun y hy => h y (by simp; simp at hy; exact .inr (.inl hy)))
    have h3 := optEv_congr hi (fun y hy => h y (by simp; simp at hy; exact .inr (.inr (.inl hy))))
    have h4 := optEv_congr mx (fun y hy => h y (by simp; simp at hy; exact .inr (.inr (.inr hy))))
    simp only [sSlice, h1, h2, h3, h4]
  case fieldAddr t x f => simp only [sFieldAddr, h x (by simp)]
  case field t x f => simp only [sField, h x (by simp)]
  case indexAddr t x i => simp only [sIndexAddr, h x (by simp), h i (by simp)]
  case index t x i => simp only [sIndex, h x (by simp), h i (by simp)]
  case extract x i => simp only [sExtract, h x (by simp)]
  case makeFunc fn a b =>
    have h1 := evs_congr a.toList (fun x hx => h x (by simp; exact .inl (by simpa using hx)))
    have h2 := evs_congr b.toList (fun x hx => h x (by simp; exact .inr (by simpa using hx)))
    simp only [sFunc, h1, h2]

theorem opA_congr {P : Program} {ih : Ctx} {H : Heap} {tm tm' : Tr Value} {o : Oper} (h : ∀ x ∈ o.op.operands, ev tm x = ev tm' x) : opA P ih H tm o = opA P ih H tm' o := by
  unfold opA
  split
  · rename_i c hop
    rw [hop] at h
    simp only [Op.operands] at h
    unfold sCall
    split
    · rename_i f args ts
      have h1 := h f (by simp [Call.operands])
      have h2 := evs_congr args.toList (fun x hx => h x (by simp [Call.operands]; exact .inr (by simpa using hx)))
      rw [h1, h2]
    · rename_i b args ts
      have h2 := evs_congr args.toList (fun x hx => h x (by simp [Call.operands]; simpa using hx))
      rw [h2]
    · rfl
  · exact stepA_congr h

/-- A try cut to some places. -/
noncomputable def rst (tm : Tr Value) : List Tmp → Tr Value
  | [] => .nil
  | t :: ts => match tm.get t with
    | some v => (rst tm ts).set t v
    | none => rst tm ts
theorem rst_get (tm : Tr Value) : ∀ (ts : List Tmp) (t : Tmp), (rst tm ts).get t = if t ∈ ts then tm.get t else none := by
  intro ts
  induction ts with
  | nil => intro t; simp [rst, Tr.get_nil]
  | cons x r ih =>
    intro t
    simp only [rst]
    split
    · rename_i v hv
      rw [Tr.get_set]
      by_cases e : t = x
      · subst e; simp [hv]
      · rw [if_neg e, ih]; simp [e]
    · rename_i hv
      rw [ih]
      by_cases e : t = x
      · subst e; simp [hv]
      · simp [e]

end Go.Proofs.YtkmhbfgkhalaoaaGreatDoor.LM

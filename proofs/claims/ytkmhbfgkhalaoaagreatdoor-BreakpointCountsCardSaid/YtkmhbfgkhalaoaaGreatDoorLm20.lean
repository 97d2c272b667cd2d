/- Kinds of operations: those that only compute or read, those that make one block, those that stand in the chain. -/
import Derived.Test.YtkmhbfgkhalaoaaGreatDoorLm19
set_option linter.unusedVariables false
set_option linter.unusedSimpArgs false
set_option linter.unusedSectionVars false
namespace Go.Proofs.YtkmhbfgkhalaoaaGreatDoor.LM
open Go Go.RowKit

inductive Kind where
  | pure | reads | makes | chain

def Kind.quiet : Kind → Bool
  | .pure => true
  | .reads => true
  | .makes => false
  | .chain => false

def kindA (P : Program) (o : Oper) : Kind :=
  match o.op with
  | .alloc _ => .makes
  | .box _ _ => .makes
  | .buildSlice _ _ _ => .makes
  | .makeSlice _ _ _ => .makes
  | .load _ _ => .reads
  | .convert s d _ => match P.underlying s, P.underlying d with
    | some .string, some (.slice _) => .makes
    | some (.slice _), _ => .reads
    | _, _ => .pure
  | .store _ _ _ => .chain
  | .call ⟨.builtin .len, _, _⟩ => .pure
  | .call ⟨.builtin .max, _, _⟩ => .pure
  | .call ⟨.builtin .min, _, _⟩ => .pure
  | .call _ => .chain
  | _ => .pure

theorem quiet_same {P : Program} {ih : Ctx} {H H' : Heap} {tm : Tr Value} {o : Oper} {v : Value} (hk : (kindA P o).quiet = true) (h : opA P ih H tm o = some (v, H')) : H' = H := by
  unfold kindA at hk
  unfold opA at h
  split at h
  · rename_i c hop
    rw [hop] at hk
    unfold sCall at h
    split at h
    · exact absurd hk Bool.false_ne_true
    · rename_i b args ts
      split at h
      · rename_i vs hvs
        cases b <;> first
          | (exact absurd hk Bool.false_ne_true)
          | (unfold sBuiltin at h
             dsimp only at h
             repeat' split at h
             all_goals first
               | (simp only [fNat_eq, fInt_eq] at h; cases h; rfl)
               | (cases h; done)
               | (cases h; rfl))
      · cases h
    · cases h
  · generalize hop : o.op = op at h hk
    cases op <;> simp only [stepA] at h <;> first
      | (exact absurd hk Bool.false_ne_true)
      | (cases h; done)
      | skip
    case move x => unfold sMove at h; split at h <;> cases h; rfl
    case assign x => unfold sMove at h; split at h <;> cases h; rfl
    case pick c a b => unfold sPick at h; (repeat' (split at h)); all_goals first | (cases h; rfl) | (cases h; done)
    case build t ps => unfold sBuild at h; (repeat' (split at h)); all_goals first | (cases h; rfl) | (cases h; done)
    case load t x => unfold sLoad at h; (repeat' (split at h)); all_goals first | (cases h; rfl) | (cases h; done)
    case nilCheck x => unfold sNil at h; (repeat' (split at h)); all_goals first | (cases h; rfl) | (cases h; done)
    case binOp op t x y yt => unfold sBin at h; (repeat' (split at h)); all_goals first | (cases h; rfl) | (cases h; done)
    case unOp op t x => unfold sUn at h; (repeat' (split at h)); all_goals first | (cases h; rfl) | (cases h; done)
    case convert s d x =>
      unfold sConv at h
      split at h
      · rename_i p hp
        unfold convH at h
        split at h
        · repeat' split at h
          all_goals first | (simp only [fBs_eq] at h; cases h; rfl) | (cases h; rfl) | (cases h; done)
        · rename_i e str hs hd
          simp only [hs, hd] at hk
          exact absurd hk Bool.false_ne_true
        · (repeat' (split at h))
          all_goals first | (cases h; rfl) | (cases h; done)
        · repeat' split at h
          all_goals first | (cases h; rfl) | (cases h; done)
      · cases h
    case slice t x lo hi mx =>
      unfold sSlice at h
      split at h
      · split at h
        · split at h <;> cases h; rfl
        · generalize Nat.blt _ U = bb at h
          cases bb <;> simp only [cond_true, cond_false] at h
          · cases h
          · split at h <;> cases h; rfl
        · split at h
          · cases h
          · dsimp only at h
            split at h
            · cases h
            · split at h
              · cases h
              · rw [fBs_eq] at h; cases h; rfl
        · cases h
      · cases h
    case fieldAddr t x f =>
      unfold sFieldAddr at h
      repeat' split at h
      all_goals first | (simp only [addA, fNat_eq] at h; cases h; rfl) | (cases h; done)
    case field t x f =>
      unfold sField at h
      repeat' split at h
      all_goals first | (simp only [fSp_eq] at h; cases h; rfl) | (cases h; rfl) | (cases h; done)
    case indexAddr t x i => unfold sIndexAddr at h; (repeat' (split at h)); all_goals first | (cases h; rfl) | (cases h; done)
    case index t x i => unfold sIndex at h; (repeat' (split at h)); all_goals first | (cases h; rfl) | (cases h; done)
    case extract x i => unfold sExtract at h; (repeat' (split at h)); all_goals first | (cases h; rfl) | (cases h; done)
    case makeFunc fn a b => unfold sFunc at h; (repeat' (split at h)); all_goals first | (cases h; rfl) | (cases h; done)

end Go.Proofs.YtkmhbfgkhalaoaaGreatDoor.LM

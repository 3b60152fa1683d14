/- Words for a function's equations: a loop as an iteration, a loop's place in its function. -/
import Derived.Test.YtnlgciomdghfiaaFwZe
namespace Go.Proofs.Ytnlgciomdghfiaa.Fw
open Go Go.RowKit
set_option linter.unusedVariables false

/-- At most so many rounds. -/
def iterO {V R : Type} (G : (V → Option R) → V → Option R) : Nat → V → Option R
  | 0, _ => none
  | n + 1, v => G (iterO G n) v
theorem iterO_eq {V R : Type} {L : Nat → V → Option R} {G : (V → Option R) → V → Option R} (h0 : ∀ v, L 0 v = none) (h : ∀ n v, L (n + 1) v = G (L n) v) : ∀ n v, L n v = iterO G n v := by
  intro n
  induction n with
  | zero => intro v; rw [h0]; rfl
  | succ n ih => intro v; rw [h, show L n = iterO G n from funext ih]; rfl
/-- The code at a place: 0 the first or only part, 1 the second. -/
def codeAt : List Nat → Code → Code
  | 0 :: p, .seq a _ => codeAt p a
  | _ :: p, .seq _ b => codeAt p b
  | 0 :: p, .cond _ a _ => codeAt p a
  | _ :: p, .cond _ _ b => codeAt p b
  | _ :: p, .block _ c => codeAt p c
  | _ :: p, .loop c => codeAt p c
  | _, c => c
def opsAt (p : List Nat) (c : Code) : List Oper :=
  match codeAt p c with
  | .region _ ops _ => ops.toList
  | _ => []
section
variable {α : Type}
/-- What follows behind the code at a place. 'ms': for each loop around it, the rounds left and what is done at its head. -/
noncomputable def contAt (T : Tb) (C : Ca T) (fid : FuncId) (r0 n : Nat) : List Nat → List (Nat × (St → St)) → Code → (Ex → St → Option α) → Ex → St → Option α
  | 0 :: p, ms, .seq a b, k => contAt T C fid r0 n p ms a fun e ρ => match e with
    | .normal => exec T C fid r0 n b ρ k
    | e => k e ρ
  | _ :: p, ms, .seq _ b, k => contAt T C fid r0 n p ms b k
  | 0 :: p, ms, .cond _ a _, k => contAt T C fid r0 n p ms a k
  | _ :: p, ms, .cond _ _ b, k => contAt T C fid r0 n p ms b k
  | _ :: p, ms, .block id c, k => contAt T C fid r0 n p ms c fun e ρ => match e with
    | .exit j => if j = id then k .normal ρ else k (.exit j) ρ
    | e => k e ρ
  | _ :: p, m :: ms, .loop c, k => contAt T C fid r0 n p ms c fun e ρ => match e with
    | .normal => loopIt (exec T C fid r0 n c) m.2 k m.1 (m.2 ρ)
    | e => k e ρ
  | _, _, _, k => k
end
def bodyOf (f : Func) : Code := f.body.getD .skip
end Go.Proofs.Ytnlgciomdghfiaa.Fw

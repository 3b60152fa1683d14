/- The law of InversesOf over the interpreter. -/
import Derived.Test.YtnbaahpbmhhofaaDoorPLawsS
import Derived.Test.YtnbaahpbmhhofaaDoorPInvL
namespace Go.Proofs.YtnbaahpbmhhofaaDoor.Fw
open Go Go.RowKit
set_option linter.unusedVariables false

theorem plainFnExactInversesOf : ∀ (x0 : Ty.D (.sl (.int .i64))), WfD (.sl (.int .i64)) x0 → ∃ n, c_laws_FnExactInversesOf (run tb orc n) x0 = some (true : Bool) := by
  intro a h0
  refine ⟨Big + 14 + 2, ?_⟩
  generalize hN : Big + 14 = n
  have hbig := big_ge
  change List Int at a
  rw [laws_FnExactInversesOf_eq]; unfold laws_FnExactInversesOf_f laws_FnExactInversesOf_x
  by_cases c1 : (a.length : Int) > 1048576
  · rw [if_pos c1]
  rw [if_neg c1]
  have la : a.length < 1099511627776 := by omega
  obtain ⟨⟨r, t⟩, hl, hr⟩ := inversesOf_both a la
  have lr : r.length ≤ 6 := hl
  have ca : c_laws_toIntS (run tb orc (n + 1)) a = some a := toIntS_ret (by omega) la
  have ri : c_impl_InversesOf (run tb orc (n + 1)) a = some (r, t) := (hr _ (by omega)).1
  have rs : c_spec_InversesOf (run tb orc (n + 1)) a = some (r, t) := (hr _ (by omega)).2
  have er : c_laws_eqIntS (run tb orc (n + 1)) r r = some true := eqIntS_self (by omega) (by omega)
  have ea : c_laws_eqIntS (run tb orc (n + 1)) a a = some true := eqIntS_self (by omega) la
  have hh : c_laws_heldIntS (run tb orc (n + 1)) (ramp 1 r.length) 1 = some ((1 + (r.length : Int)) : Int) := heldIntS_ret (by omega) (by omega) (by omega)
  have ne : (t != t) = false := by simp
  simp only [ca, rs, ri, er, ea, Option.bind_some, ne, Bool.not_true, Bool.false_eq_true, if_false]
  refine (mark_loop (l := a) (k0 := 1) _ (fun _ _ => rfl) (by omega) (by omega) (by omega)).trans ?_
  dsimp only
  rw [if_neg (by omega)]
  simp only [er, Option.bind_some, ne, Bool.not_true, Bool.false_eq_true, if_false]
  refine (mark_loop (l := r) (k0 := 1) _ (fun _ _ => rfl) (by omega) (by omega) (by omega)).trans ?_
  dsimp only
  have hneg : ¬ (1 + (r.length : Int) < 0) := by omega
  simp only [hh, ca, ri, er, Option.bind_some, ne, hneg, Bool.not_true, Bool.false_eq_true, if_false, if_true]
end Go.Proofs.YtnbaahpbmhhofaaDoor.Fw

/- The law of TurnRing over the interpreter. -/
import Derived.Test.YtnbaahpbmhhofaaDoorPLawsS
import Derived.Test.YtnbaahpbmhhofaaDoorPRingT
import Derived.Test.YtnbaahpbmhhofaaDoorPTurnL
import Derived.Test.YtnbaahpbmhhofaaDoorEqLTurnRing
namespace Go.Proofs.YtnbaahpbmhhofaaDoor.Fw
open Go Go.RowKit
set_option linter.unusedVariables false

theorem plainFnExactTurnRing : ∀ (x0 : Ty.D (.pr (.int .i64) (.pr (.int .i64) (.int .i64)))) (x1 : Ty.D (.sl (.int .i64))) (x2 : Ty.D (.int .i64)), WfD (.pr (.int .i64) (.pr (.int .i64) (.int .i64))) x0 → WfD (.sl (.int .i64)) x1 → WfD (.int .i64) x2 → ∃ n, c_laws_FnExactTurnRing (run tb orc n) x0.1 x0.2.1 x0.2.2 x1 x2 = some (true : Bool) := by
  rintro ⟨p, m, v⟩ a e h0 h1 h2
  refine ⟨Big + 14 + 2, ?_⟩
  generalize hN : Big + 14 = n
  have hbig := big_ge
  dsimp only
  change List Int at a
  change Int at e
  rw [laws_FnExactTurnRing_eq]; unfold laws_FnExactTurnRing_f laws_FnExactTurnRing_x
  by_cases c1 : (a.length : Int) > 1048576
  · rw [if_pos c1]
  rw [if_neg c1]
  have la : a.length < 1099511627776 := by omega
  obtain ⟨⟨r, t⟩, hl, hr⟩ := turnRing_both p m v a e la
  have lr : r.length ≤ 16 := hl
  have ca : c_laws_toIntS (run tb orc (n + 1)) a = some a := toIntS_ret (by omega) la
  have cr : c_laws_toRing (run tb orc (n + 1)) p m v = some (p, m, v) := toRing_ret (by omega)
  have ri : c_impl_TurnRing (run tb orc (n + 1)) p m v a e = some (r, t) := (hr _ (by omega)).1
  have rs : c_spec_TurnRing (run tb orc (n + 1)) p m v a e = some (r, t) := (hr _ (by omega)).2
  have er : c_laws_eqIntS (run tb orc (n + 1)) r r = some true := eqIntS_self (by omega) (by omega)
  have ea : c_laws_eqIntS (run tb orc (n + 1)) a a = some true := eqIntS_self (by omega) la
  have hh : c_laws_heldIntS (run tb orc (n + 1)) (ramp 1 r.length) 1 = some ((1 + (r.length : Int)) : Int) := heldIntS_ret (by omega) (by omega) (by omega)
  have ne : (t != t) = false := by simp
  simp only [ca, cr, rs, ri, er, ea, Option.bind_some, ne, Bool.not_true, Bool.false_eq_true, if_false]
  refine (mark_loop (l := a) (k0 := 1) _ (fun _ _ => rfl) (by omega) (by omega) (by omega)).trans ?_
  dsimp only
  rw [if_neg (by omega)]
  simp only [er, Option.bind_some, ne, Bool.not_true, Bool.false_eq_true, if_false]
  refine (mark_loop (l := r) (k0 := 1) _ (fun _ _ => rfl) (by omega) (by omega) (by omega)).trans ?_
  dsimp only
  have hneg : ¬ (1 + (r.length : Int) < 0) := by omega
  simp only [hh, ca, cr, ri, er, Option.bind_some, ne, hneg, Bool.not_true, Bool.false_eq_true, if_false, if_true]
end Go.Proofs.YtnbaahpbmhhofaaDoor.Fw

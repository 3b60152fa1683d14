/- The law of ResiduesOf over the interpreter. -/
import Derived.Test.YtnbaahpbmhhofaaDoorPLawsS
import Derived.Test.YtnbaahpbmhhofaaDoorPLawsW
import Derived.Test.YtnbaahpbmhhofaaDoorPResL
namespace Go.Proofs.YtnbaahpbmhhofaaDoor.Fw
open Go Go.RowKit
set_option linter.unusedVariables false

theorem plainFnExactResiduesOf : ∀ (x0 : Ty.D (.pr (.bool) (.sl (.int .i64)))) (x1 : Ty.D (.sl (.int .i64))), WfD (.pr (.bool) (.sl (.int .i64))) x0 → WfD (.sl (.int .i64)) x1 → ∃ n, c_laws_FnExactResiduesOf (run tb orc n) x0.1 x0.2 x1 = some (true : Bool) := by
  rintro ⟨s, a⟩ b h0 h1
  refine ⟨Big + 14 + 3, ?_⟩
  generalize hN : Big + 14 = n
  have hbig := big_ge
  have hla : a.length ≤ 9223372036854775807 := h0.2.1
  dsimp only
  change List Int at a b
  rw [laws_FnExactResiduesOf_eq]; unfold laws_FnExactResiduesOf_f laws_FnExactResiduesOf_x
  by_cases c1 : (b.length : Int) > 1048576
  · rw [if_pos c1]
  rw [if_neg c1, szWhole_ret (by omega) hla (by omega) (by omega)]
  simp only [Option.bind_some]
  by_cases c2 : (1048576 : Int) - (a.length : Int) < 0
  · rw [if_pos c2]; rfl
  rw [if_neg c2, if_neg c2]
  have la : a.length < 1099511627776 := by omega
  have lb : b.length < 1099511627776 := by omega
  obtain ⟨⟨r, t⟩, hl, hr⟩ := residuesOf_both s a b la lb
  have lr : r.length ≤ 6 := hl
  have ca : c_laws_toWhole (run tb orc (n + 2)) s a = some (s, a) := toWhole_ret (by omega) la
  have cb : c_laws_toIntS (run tb orc (n + 2)) b = some b := toIntS_ret (by omega) lb
  have ri : c_impl_ResiduesOf (run tb orc (n + 2)) s a b = some (r, t) := (hr _ (by omega)).1
  have rs : c_spec_ResiduesOf (run tb orc (n + 2)) s a b = some (r, t) := (hr _ (by omega)).2
  have er : c_laws_eqIntS (run tb orc (n + 2)) r r = some true := eqIntS_self (by omega) (by omega)
  have ea : c_laws_eqWhole (run tb orc (n + 2)) s a s a = some true := eqWhole_self (by omega) la
  have eb : c_laws_eqIntS (run tb orc (n + 2)) b b = some true := eqIntS_self (by omega) lb
  have hh : c_laws_heldIntS (run tb orc (n + 2)) (ramp 1 r.length) 1 = some ((1 + (r.length : Int)) : Int) := heldIntS_ret (by omega) (by omega) (by omega)
  have ne : (t != t) = false := by simp
  simp only [ca, cb, rs, ri, er, ea, eb, Option.bind_some, ne, Bool.not_true, Bool.false_eq_true, if_false]
  refine (mark_loop (l := a) (k0 := 1) _ (fun _ _ => rfl) (by omega) (by omega) (by omega)).trans ?_
  dsimp only
  refine (mark_loop (l := b) (k0 := 1 + (a.length : Int)) _ (fun _ _ => rfl) (by omega) (by omega) (by omega)).trans ?_
  dsimp only
  rw [if_neg (by omega)]
  simp only [er, Option.bind_some, ne, Bool.not_true, Bool.false_eq_true, if_false]
  refine (mark_loop (l := r) (k0 := 1) _ (fun _ _ => rfl) (by omega) (by omega) (by omega)).trans ?_
  dsimp only
  have hneg : ¬ (1 + (r.length : Int) < 0) := by omega
  simp only [hh, ca, cb, ri, er, Option.bind_some, ne, hneg, Bool.not_true, Bool.false_eq_true, if_false, if_true]
end Go.Proofs.YtnbaahpbmhhofaaDoor.Fw

/- The law of Inverse over the interpreter. Printed by mklaw.py. -/
import Derived.Test.YthanbjnpfenniaaDoorPLawsS
import Derived.Test.YthanbjnpfenniaaDoorPRingT
import Derived.Test.YthanbjnpfenniaaDoorPInvR
import Derived.Test.YthanbjnpfenniaaDoorEqLInverse
namespace Go.Proofs.YthanbjnpfenniaaDoor.Fw
open Go Go.RowKit
set_option linter.unusedVariables false
set_option linter.unusedSimpArgs false

theorem plainFnExactInverse : ∀ (x0 : Ty.D (.pr (.int .i64) (.pr (.int .i64) (.int .i64)))) (x1 : Ty.D (.sl (.int .i64))), WfD (.pr (.int .i64) (.pr (.int .i64) (.int .i64))) x0 → WfD (.sl (.int .i64)) x1 → ∃ n, c_laws_FnExactInverse (run tb orc n) x0.1 x0.2.1 x0.2.2 x1 = some (true : Bool) := by
  rintro ⟨p0, m0, v0⟩ l1 h0 h1
  refine ⟨Big + 40 + 3, ?_⟩
  generalize hN : Big + 40 = n
  have hbig := big_ge
  dsimp only
  change List Int at l1
  rw [laws_FnExactInverse_eq]; unfold laws_FnExactInverse_f laws_FnExactInverse_x
  by_cases c1 : (l1.length : Int) > 1048576
  · rw [if_pos c1]
  rw [if_neg c1]
  have ll1 : l1.length < 1099511627776 := by omega
  obtain ⟨⟨r, t⟩, hl, hr⟩ := inverseR_both p0 m0 v0 l1 ll1
  have lr : r.length ≤ 1000 := hl
  have ca0 : c_laws_toRing (run tb orc (n + 2)) p0 m0 v0 = some (p0, m0, v0) := toRing_ret (by omega)
  have ca1 : c_laws_toIntS (run tb orc (n + 2)) l1 = some l1 := toIntS_ret (by omega) ll1
  have ea1 : c_laws_eqIntS (run tb orc (n + 2)) l1 l1 = some true := eqIntS_self (by omega) ll1
  have ri : c_impl_Inverse (run tb orc (n + 2)) p0 m0 v0 l1 = some (r, t) := (hr _ (by omega)).1
  have rs : c_spec_Inverse (run tb orc (n + 2)) p0 m0 v0 l1 = some (r, t) := (hr _ (by omega)).2
  have er : c_laws_eqIntS (run tb orc (n + 2)) r r = some true := eqIntS_self (by omega) (by omega)
  have hh : c_laws_heldIntS (run tb orc (n + 2)) (ramp 1 r.length) 1 = some ((1 + (r.length : Int)) : Int) := heldIntS_ret (by omega) (by omega) (by omega)
  have ne : (t != t) = false := by simp
  simp only [ca0, ca1, ea1, ri, rs, er, Option.bind_some, ne, Bool.not_true, Bool.false_eq_true, if_false]
  refine (mark_loop (l := l1) (k0 := 1) _ (fun _ _ => rfl) (by omega) (by omega) (by omega)).trans ?_
  dsimp only
  rw [if_neg (by omega)]
  simp only [er, Option.bind_some, ne, Bool.not_true, Bool.false_eq_true, if_false]
  refine (mark_loop (l := r) (k0 := 1) _ (fun _ _ => rfl) (by omega) (by omega) (by omega)).trans ?_
  dsimp only
  have hneg : ¬ (1 + (r.length : Int) < 0) := by omega
  simp only [ca0, ca1, ea1, ri, er, hh, hneg, Option.bind_some, ne, Bool.not_true, Bool.false_eq_true, if_false, if_true]
end Go.Proofs.YthanbjnpfenniaaDoor.Fw

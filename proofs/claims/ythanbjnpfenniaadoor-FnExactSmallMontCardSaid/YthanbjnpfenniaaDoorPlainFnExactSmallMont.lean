/- The law of SmallMont over the interpreter. Printed by mklaw.py. -/
import Derived.Test.YthanbjnpfenniaaDoorPLawsS
import Derived.Test.YthanbjnpfenniaaDoorPMontL
import Derived.Test.YthanbjnpfenniaaDoorEqLSmallMont
namespace Go.Proofs.YthanbjnpfenniaaDoor.Fw
open Go Go.RowKit
set_option linter.unusedVariables false
set_option linter.unusedSimpArgs false

theorem plainFnExactSmallMont : ∀ (x0 : Ty.D (.sl (.int .i64))) (x1 : Ty.D (.int .i64)) (x2 : Ty.D (.sl (.int .i64))) (x3 : Ty.D (.int .i64)) (x4 : Ty.D (.sl (.int .i64))), WfD (.sl (.int .i64)) x0 → WfD (.int .i64) x1 → WfD (.sl (.int .i64)) x2 → WfD (.int .i64) x3 → WfD (.sl (.int .i64)) x4 → ∃ n, c_laws_FnExactSmallMont (run tb orc n) x0 x1 x2 x3 x4 = some (true : Bool) := by
  rintro l0 e1 l2 e3 l4 h0 h1 h2 h3 h4
  refine ⟨Big + 40 + 3, ?_⟩
  generalize hN : Big + 40 = n
  have hbig := big_ge
  have he1 := i64_wf h1
  have he3 := i64_wf h3
  change List Int at l0
  change Int at e1
  change List Int at l2
  change Int at e3
  change List Int at l4
  rw [laws_FnExactSmallMont_eq]; unfold laws_FnExactSmallMont_f laws_FnExactSmallMont_x
  by_cases c0 : (l0.length : Int) > 1048576
  · rw [if_pos c0]
  rw [if_neg c0]
  by_cases c2 : (l2.length : Int) > 1048576
  · rw [if_pos c2]
  rw [if_neg c2]
  by_cases c4 : (l4.length : Int) > 1048576
  · rw [if_pos c4]
  rw [if_neg c4]
  have ll0 : l0.length < 1099511627776 := by omega
  have ll2 : l2.length < 1099511627776 := by omega
  have ll4 : l4.length < 1099511627776 := by omega
  obtain ⟨⟨r, t⟩, hl, hr⟩ := smallMont_both l0 e1 l2 e3 l4 ll0 he1.1 he1.2 ll2 he3.1 he3.2 ll4
  have lr : r.length ≤ 1000 := hl
  have ca0 : c_laws_toIntS (run tb orc (n + 2)) l0 = some l0 := toIntS_ret (by omega) ll0
  have ea0 : c_laws_eqIntS (run tb orc (n + 2)) l0 l0 = some true := eqIntS_self (by omega) ll0
  have ca2 : c_laws_toIntS (run tb orc (n + 2)) l2 = some l2 := toIntS_ret (by omega) ll2
  have ea2 : c_laws_eqIntS (run tb orc (n + 2)) l2 l2 = some true := eqIntS_self (by omega) ll2
  have ca4 : c_laws_toIntS (run tb orc (n + 2)) l4 = some l4 := toIntS_ret (by omega) ll4
  have ea4 : c_laws_eqIntS (run tb orc (n + 2)) l4 l4 = some true := eqIntS_self (by omega) ll4
  have ri : c_impl_SmallMont (run tb orc (n + 2)) l0 e1 l2 e3 l4 = some (r, t) := (hr _ (by omega)).1
  have rs : c_spec_SmallMont (run tb orc (n + 2)) l0 e1 l2 e3 l4 = some (r, t) := (hr _ (by omega)).2
  have er : c_laws_eqIntS (run tb orc (n + 2)) r r = some true := eqIntS_self (by omega) (by omega)
  have hh : c_laws_heldIntS (run tb orc (n + 2)) (ramp 1 r.length) 1 = some ((1 + (r.length : Int)) : Int) := heldIntS_ret (by omega) (by omega) (by omega)
  have ne : (t != t) = false := by simp
  simp only [ca0, ea0, ca2, ea2, ca4, ea4, ri, rs, er, Option.bind_some, ne, Bool.not_true, Bool.false_eq_true, if_false]
  refine (mark_loop (l := l0) (k0 := 1) _ (fun _ _ => rfl) (by omega) (by omega) (by omega)).trans ?_
  dsimp only
  refine (mark_loop (l := l2) (k0 := 1 + (l0.length : Int)) _ (fun _ _ => rfl) (by omega) (by omega) (by omega)).trans ?_
  dsimp only
  refine (mark_loop (l := l4) (k0 := 1 + (l0.length : Int) + (l2.length : Int)) _ (fun _ _ => rfl) (by omega) (by omega) (by omega)).trans ?_
  dsimp only
  rw [if_neg (by omega)]
  simp only [er, Option.bind_some, ne, Bool.not_true, Bool.false_eq_true, if_false]
  refine (mark_loop (l := r) (k0 := 1) _ (fun _ _ => rfl) (by omega) (by omega) (by omega)).trans ?_
  dsimp only
  have hneg : ¬ (1 + (r.length : Int) < 0) := by omega
  simp only [ca0, ea0, ca2, ea2, ca4, ea4, ri, er, hh, hneg, Option.bind_some, ne, Bool.not_true, Bool.false_eq_true, if_false, if_true]
end Go.Proofs.YthanbjnpfenniaaDoor.Fw

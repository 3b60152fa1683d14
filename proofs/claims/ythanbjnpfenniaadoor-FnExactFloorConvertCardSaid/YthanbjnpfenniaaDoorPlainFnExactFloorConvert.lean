/- The law of FloorConvert over the interpreter. Printed by mklaw.py. -/
import Derived.Test.YthanbjnpfenniaaDoorPLawsS
import Derived.Test.YthanbjnpfenniaaDoorPFloorL
import Derived.Test.YthanbjnpfenniaaDoorEqLFloorConvert
namespace Go.Proofs.YthanbjnpfenniaaDoor.Fw
open Go Go.RowKit
set_option linter.unusedVariables false
set_option linter.unusedSimpArgs false

theorem plainFnExactFloorConvert : ∀ (x0 : Ty.D (.sl (.int .i64))) (x1 : Ty.D (.sl (.int .i64))) (x2 : Ty.D (.sl (.int .i64))) (x3 : Ty.D (.sl (.int .i64))), WfD (.sl (.int .i64)) x0 → WfD (.sl (.int .i64)) x1 → WfD (.sl (.int .i64)) x2 → WfD (.sl (.int .i64)) x3 → ∃ n, c_laws_FnExactFloorConvert (run tb orc n) x0 x1 x2 x3 = some (true : Bool) := by
  rintro l0 l1 l2 l3 h0 h1 h2 h3
  refine ⟨Big + 40 + 3, ?_⟩
  generalize hN : Big + 40 = n
  have hbig := big_ge
  change List Int at l0
  change List Int at l1
  change List Int at l2
  change List Int at l3
  rw [laws_FnExactFloorConvert_eq]; unfold laws_FnExactFloorConvert_f laws_FnExactFloorConvert_x
  by_cases c0 : (l0.length : Int) > 1048576
  · rw [if_pos c0]
  rw [if_neg c0]
  by_cases c1 : (l1.length : Int) > 1048576
  · rw [if_pos c1]
  rw [if_neg c1]
  by_cases c2 : (l2.length : Int) > 1048576
  · rw [if_pos c2]
  rw [if_neg c2]
  by_cases c3 : (l3.length : Int) > 1048576
  · rw [if_pos c3]
  rw [if_neg c3]
  have ll0 : l0.length < 1099511627776 := by omega
  have ll1 : l1.length < 1099511627776 := by omega
  have ll2 : l2.length < 1099511627776 := by omega
  have ll3 : l3.length < 1099511627776 := by omega
  obtain ⟨⟨r, t⟩, hl, hr⟩ := floorConvert_both l0 l1 l2 l3 ll0 ll1 ll2 ll3
  have lr : r.length ≤ 1000 := hl
  have ca0 : c_laws_toIntS (run tb orc (n + 2)) l0 = some l0 := toIntS_ret (by omega) ll0
  have ea0 : c_laws_eqIntS (run tb orc (n + 2)) l0 l0 = some true := eqIntS_self (by omega) ll0
  have ca1 : c_laws_toIntS (run tb orc (n + 2)) l1 = some l1 := toIntS_ret (by omega) ll1
  have ea1 : c_laws_eqIntS (run tb orc (n + 2)) l1 l1 = some true := eqIntS_self (by omega) ll1
  have ca2 : c_laws_toIntS (run tb orc (n + 2)) l2 = some l2 := toIntS_ret (by omega) ll2
  have ea2 : c_laws_eqIntS (run tb orc (n + 2)) l2 l2 = some true := eqIntS_self (by omega) ll2
  have ca3 : c_laws_toIntS (run tb orc (n + 2)) l3 = some l3 := toIntS_ret (by omega) ll3
  have ea3 : c_laws_eqIntS (run tb orc (n + 2)) l3 l3 = some true := eqIntS_self (by omega) ll3
  have ri : c_impl_FloorConvert (run tb orc (n + 2)) l0 l1 l2 l3 = some (r, t) := (hr _ (by omega)).1
  have rs : c_spec_FloorConvert (run tb orc (n + 2)) l0 l1 l2 l3 = some (r, t) := (hr _ (by omega)).2
  have er : c_laws_eqIntS (run tb orc (n + 2)) r r = some true := eqIntS_self (by omega) (by omega)
  have hh : c_laws_heldIntS (run tb orc (n + 2)) (ramp 1 r.length) 1 = some ((1 + (r.length : Int)) : Int) := heldIntS_ret (by omega) (by omega) (by omega)
  have ne : (t != t) = false := by simp
  simp only [ca0, ea0, ca1, ea1, ca2, ea2, ca3, ea3, ri, rs, er, Option.bind_some, ne, Bool.not_true, Bool.false_eq_true, if_false]
  refine (mark_loop (l := l0) (k0 := 1) _ (fun _ _ => rfl) (by omega) (by omega) (by omega)).trans ?_
  dsimp only
  refine (mark_loop (l := l1) (k0 := 1 + (l0.length : Int)) _ (fun _ _ => rfl) (by omega) (by omega) (by omega)).trans ?_
  dsimp only
  refine (mark_loop (l := l2) (k0 := 1 + (l0.length : Int) + (l1.length : Int)) _ (fun _ _ => rfl) (by omega) (by omega) (by omega)).trans ?_
  dsimp only
  refine (mark_loop (l := l3) (k0 := 1 + (l0.length : Int) + (l1.length : Int) + (l2.length : Int)) _ (fun _ _ => rfl) (by omega) (by omega) (by omega)).trans ?_
  dsimp only
  rw [if_neg (by omega)]
  simp only [er, Option.bind_some, ne, Bool.not_true, Bool.false_eq_true, if_false]
  refine (mark_loop (l := r) (k0 := 1) _ (fun _ _ => rfl) (by omega) (by omega) (by omega)).trans ?_
  dsimp only
  have hneg : ¬ (1 + (r.length : Int) < 0) := by omega
  simp only [ca0, ea0, ca1, ea1, ca2, ea2, ca3, ea3, ri, er, hh, hneg, Option.bind_some, ne, Bool.not_true, Bool.false_eq_true, if_false, if_true]
end Go.Proofs.YthanbjnpfenniaaDoor.Fw

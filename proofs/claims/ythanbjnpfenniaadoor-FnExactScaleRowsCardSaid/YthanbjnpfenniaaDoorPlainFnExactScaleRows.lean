/- The law of ScaleRows over the interpreter. Printed by mklaw.py. -/
import Derived.Test.YthanbjnpfenniaaDoorPMark
import Derived.Test.YthanbjnpfenniaaDoorPLawsW
import Derived.Test.YthanbjnpfenniaaDoorPScaleR
import Derived.Test.YthanbjnpfenniaaDoorEqLScaleRows
namespace Go.Proofs.YthanbjnpfenniaaDoor.Fw
open Go Go.RowKit
set_option linter.unusedVariables false
set_option linter.unusedSimpArgs false

theorem plainFnExactScaleRows : ∀ (x0 : Ty.D (.pr (.int .i64) (.sl (.int .i64)))) (x1 : Ty.D (.pr (.bool) (.sl (.sl (.int .i64))))) (x2 : Ty.D (.pr (.bool) (.sl (.int .i64)))), WfD (.pr (.int .i64) (.sl (.int .i64))) x0 → WfD (.pr (.bool) (.sl (.sl (.int .i64)))) x1 → WfD (.pr (.bool) (.sl (.int .i64))) x2 → ∃ n, c_laws_FnExactScaleRows (run tb orc n) x0.1 x0.2 x1.1 x1.2 x2.1 x2.2 = some (true : Bool) := by
  rintro ⟨m0, l0⟩ ⟨b1, r1⟩ ⟨s2, l2⟩ h0 h1 h2
  refine ⟨Big + 40 + 6, ?_⟩
  generalize hN : Big + 40 = n
  have hbig := big_ge
  have hl0 : l0.length ≤ 9223372036854775807 := h0.2.1
  have hr1 : r1.length ≤ 9223372036854775807 := h1.2.1
  have hx1 : ∀ x ∈ r1, x.length ≤ 9223372036854775807 := fun x hx => (h1.2.2 x hx).1
  have hl2 : l2.length ≤ 9223372036854775807 := h2.2.1
  dsimp only
  change List Int at l0
  change List (List Int) at r1
  change List Int at l2
  rw [laws_FnExactScaleRows_eq]; unfold laws_FnExactScaleRows_f laws_FnExactScaleRows_x
  rw [szSpace_ret (by omega) hl0 (by omega) (by omega)]
  simp only [Option.bind_some]
  by_cases c0 : (1048576 : Int) - (l0.length : Int) < 0
  · rw [if_pos c0]; rfl
  rw [if_neg c0, if_neg c0]
  rw [szRows_ret (by omega) hx1 hr1 (by omega) (by omega)]
  simp only [Option.bind_some]
  by_cases c1 : (1048576 : Int) - (l0.length : Int) - (totL r1 : Int) < 0
  · rw [if_pos c1]; rfl
  rw [if_neg c1, if_neg c1]
  rw [szWhole_ret (by omega) hl2 (by omega) (by omega)]
  simp only [Option.bind_some]
  by_cases c2 : (1048576 : Int) - (l0.length : Int) - (totL r1 : Int) - (l2.length : Int) < 0
  · rw [if_pos c2]; rfl
  rw [if_neg c2, if_neg c2]
  have ll0 : l0.length < 1099511627776 := by omega
  have lt1 : totL r1 ≤ 1048576 := by omega
  have lr1 : r1.length < 1099511627776 := by unfold totL at lt1; omega
  have lu1 : sumL r1 ≤ 1048576 := by unfold totL at lt1; omega
  have lx1 : ∀ x ∈ r1, x.length < 1099511627776 := fun x hx => by have := sumL_mem hx; omega
  have ll2 : l2.length < 1099511627776 := by omega
  obtain ⟨⟨⟨q, r⟩, t⟩, hl, hr⟩ := scaleRows_both m0 l0 b1 r1 s2 l2 ll0 lx1 ll2
  have lr : SmallR r := hl
  have lq := lr.sum
  have lr6 := lr.len
  have lrx : ∀ x ∈ r, x.length < 1099511627776 := fun x hx => by have := lr.row x hx; omega
  have ca0 : c_laws_toSpace (run tb orc (n + 5)) m0 l0 = some (m0, l0) := toSpace_ret (by omega) ll0
  have ea0 : c_laws_eqSpace (run tb orc (n + 5)) m0 l0 m0 l0 = some true := eqSpace_self (by omega) ll0
  have ca1 : c_laws_toRows (run tb orc (n + 5)) b1 r1 = some (b1, r1) := toRows_ret (by omega) lx1 lr1
  have ea1 : c_laws_eqRows (run tb orc (n + 5)) b1 r1 b1 r1 = some true := eqRows_self (by omega) lx1 lr1
  have ca2 : c_laws_toWhole (run tb orc (n + 5)) s2 l2 = some (s2, l2) := toWhole_ret (by omega) ll2
  have ea2 : c_laws_eqWhole (run tb orc (n + 5)) s2 l2 s2 l2 = some true := eqWhole_self (by omega) ll2
  have ri : c_impl_ScaleRows (run tb orc (n + 5)) m0 l0 b1 r1 s2 l2 = some ((q, r), t) := (hr _ (by omega)).1
  have rs : c_spec_ScaleRows (run tb orc (n + 5)) m0 l0 b1 r1 s2 l2 = some ((q, r), t) := (hr _ (by omega)).2
  have er : c_laws_eqRows (run tb orc (n + 5)) q r q r = some true := eqRows_self (by omega) lrx (by omega)
  have hh : c_laws_heldRows (run tb orc (n + 5)) q (rampR 1 r) 1 = some ((1 + (sumL r : Int)) : Int) := heldRows_ret (by omega) (by omega) (by omega) (by omega)
  have ne : (t != t) = false := by simp
  simp only [ca0, ea0, ca1, ea1, ca2, ea2, ri, rs, er, Option.bind_some, ne, Bool.not_true, Bool.false_eq_true, if_false]
  refine (mark_loop (l := l0) (k0 := 1) _ (fun _ _ => rfl) (by omega) (by omega) (by omega)).trans ?_
  dsimp only
  refine Eq.trans (mark_rows (l := r1) (k := 1 + (l0.length : Int)) _ _ (fun _ _ => rfl) (fun _ _ _ _ => rfl) (by omega) (by omega) (by omega) (by omega) (by omega)) ?_
  dsimp only
  refine (mark_loop (l := l2) (k0 := 1 + (l0.length : Int) + (sumL r1 : Int)) _ (fun _ _ => rfl) (by omega) (by omega) (by omega)).trans ?_
  dsimp only
  rw [if_neg (by omega)]
  simp only [er, Option.bind_some, ne, Bool.not_true, Bool.false_eq_true, if_false]
  refine Eq.trans (mark_rows (l := r) (k := 1) _ _ (fun _ _ => rfl) (fun _ _ _ _ => rfl) (by omega) (by omega) (by omega) (by omega) (by omega)) ?_
  dsimp only
  have hneg : ¬ (1 + (sumL r : Int) < 0) := by omega
  simp only [ca0, ea0, ca1, ea1, ca2, ea2, ri, er, hh, hneg, Option.bind_some, ne, Bool.not_true, Bool.false_eq_true, if_false, if_true]
end Go.Proofs.YthanbjnpfenniaaDoor.Fw

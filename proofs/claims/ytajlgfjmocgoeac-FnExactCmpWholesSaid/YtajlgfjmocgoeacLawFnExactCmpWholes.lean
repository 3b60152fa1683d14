/- The row of FnExactCmpWholes: for every input the law returns true and each argument reads as it did: out of the plain statement and the printed walk. No condition. -/
import Derived.Test.YtajlgfjmocgoeacRows
import Derived.Test.YtajlgfjmocgoeacPFnExactCmpWholesx4
import Derived.Test.YtajlgfjmocgoeacPureFnExactCmpWholes
import Derived.Test.YtajlgfjmocgoeacOpenArgs
import Derived.WalkKit
import Derived.ProofKit
import Derived.OpenShut
import Derived.ShutString
import Derived.ChangeOld
import Derived.Below
import Derived.SizedLaws
import Derived.Lib.SmallJoins
namespace Go.Proofs.Ytajlgfjmocgoeac.fnExactCmpWholes
open Go.ChangeShapes Go.WideShapes Go.ChangeAt Go.RowKit
open Go.ChangeMaps (open_string shut_string)
set_option linter.unusedVariables false
theorem own : ownKnob Try.prog.godebug = none := by kernel_rfl
theorem laidOut : laidOutB Try.prog = true := by kernel_rfl
set_option maxRecDepth 100000 in
theorem lifted (os : Os) (started : os.Started) (H : Type) (enc : TypeId × Value → H) :
    ReturnsInHanded {} Try.checked os 4 .any (Rows.fnExactCmpWholesSpec.pre6 enc Try.prog Try.f4 Rows.fnExactCmpWholesRow.domain false) (Rows.fnExactCmpWholesSpec.post enc Try.prog Try.f4 false true false false) := by
  refine returnsInHanded_of_change_sized (C := Try.checked) own started (by kernel_rfl) Try.func4
    (ChangeSpec.witness6 (enc := enc) (C := Try.checked) false ⟨#[], #[.agg #[.bool false, .slice none 0 0], .agg #[.bool false, .slice none 0 0]], []⟩ 8 (by kernel_rfl) (by kernel_rfl) (by kernel_rfl) (by kernel_rfl)) ?_
  intro W base args ds gs before hval0 hW hcnd hsz0 _
  have hval : ∀ (j : Nat) t v, Try.f4.params[j]? = some t → args[j]? = some v → Value.okWide Try.prog W .any base t v := hval0
  have hW' := hW
  obtain ⟨p, q, hA0, hV, rfl, hfz, hnd⟩ := hW
  have hA : DataW.TrodAll enc Try.prog W 0 (fun _ => true) true Try.f4.params.toList args.toList ds p := hA0
  rw [Try.params4] at hA hval
  obtain ⟨v0, vs0, d0, ds0, p0, q0, hargs, rfl, rfl, h0, r0⟩ := trodAll_cons hA
  obtain ⟨v1, vs1, d1, ds1, p1, q1, rfl, rfl, rfl, h1, r1⟩ := trodAll_cons r0
  obtain ⟨rfl, rfl, rfl⟩ := trodAll_nil r1
  obtain rfl : args = #[v0, v1] := by cases args; simp_all
  obtain ⟨rfl, rfl⟩ := trodVars_none hV
  have k0 := h0
  have lt0 : ∀ x ∈ p0, x.block < W.heap.size := by obtain ⟨m, hm⟩ := k0; exact DataW.trod_lt m _ _ _ hm
  obtain ⟨c0_0, c0_1, y0_0, y0_1, m0, rfl, hd0, hp0, t0_0, t0_1⟩ := Joins.open_agg2 Try.underlying30 (by kernel_rfl) (by kernel_rfl) (hval 0 30 v0 rfl rfl) h0
  obtain ⟨a0_0, e0_0, _⟩ := DataW.trod_bool Try.underlying4 t0_0
  simp at e0_0
  subst e0_0
  obtain ⟨A0_1, c0_1, l0_1, e0_1, hr0_1, hc0_1, w0_1⟩ := OpenArgs.row_of Try.underlying22 Try.underlying3 (by kernel_rfl) t0_1
  subst e0_1
  have k1 := h1
  have lt1 : ∀ x ∈ p1, x.block < W.heap.size := by obtain ⟨m, hm⟩ := k1; exact DataW.trod_lt m _ _ _ hm
  obtain ⟨c1_0, c1_1, y1_0, y1_1, m1, rfl, hd1, hp1, t1_0, t1_1⟩ := Joins.open_agg2 Try.underlying30 (by kernel_rfl) (by kernel_rfl) (hval 1 30 v1 rfl rfl) h1
  obtain ⟨a1_0, e1_0, _⟩ := DataW.trod_bool Try.underlying4 t1_0
  simp at e1_0
  subst e1_0
  obtain ⟨A1_1, c1_1, l1_1, e1_1, hr1_1, hc1_1, w1_1⟩ := OpenArgs.row_of Try.underlying22 Try.underlying3 (by kernel_rfl) t1_1
  subst e1_1
  clear hA0 hval0 hsz0
  obtain ⟨k, h⟩ := Pure.FnExactCmpWholes a0_0 l0_1 a1_0 l1_1 hr0_1.2.1 w0_1 hr1_1.2.1 w1_1
  refine (PFnExactCmpWholes.laws_FnExactCmpWholes.calls k a0_0 A0_1 c0_1 l0_1 a1_0 A1_1 c1_1 l1_1 true W hr0_1 hc0_1 hr1_1 hc1_1 h).mono fun e W' ⟨he, bel⟩ => ?_
  subst he
  exact ⟨_, rfl, _, _, _, [], _, [], hW', trodAll_mk1 (shut_bool Try.underlying4 _), (trodAll_cons_mk (Below.trod laidOut (by kernel_rfl) (of_decide_eq_true (by kernel_rfl)) k0 bel lt0) (trodAll_cons_mk (Below.trod laidOut (by kernel_rfl) (of_decide_eq_true (by kernel_rfl)) k1 bel lt1) trodAll_mk0)), rfl, bel.frame _, fun h => by cases h⟩
theorem over : Rows.fnExactCmpWholesRow.holds Try.pinned (OpenSpec.ofChange Rows.fnExactCmpWholesSpec) :=
  OpenClaim.holds_of_wide 4 Try.f4 rfl rfl rfl rfl rfl rfl rfl ⟨rfl, rfl, rfl, rfl, rfl⟩ rfl rfl rfl rfl rfl (by kernel_rfl) Try.func4 (by kernel_rfl)
    (of_decide_eq_true (by kernel_rfl)) (by unfold Func.isWrapper; first | (rw [if_pos (by decide +kernel)]; kernel_rfl) | (rw [if_neg (by decide +kernel)]; exact ⟨rfl, rfl⟩))
    (fun os started H enc _ => lifted os started H enc)
theorem proved : Rows.FnExactCmpWholesSaid := over
#print axioms proved
end Go.Proofs.Ytajlgfjmocgoeac.fnExactCmpWholes
namespace Go.Proofs.Ytajlgfjmocgoeac
/-- The row, under a short name, for the claim. -/
theorem fnExactCmpWholes_holds : Rows.FnExactCmpWholesSaid := fnExactCmpWholes.proved
end Go.Proofs.Ytajlgfjmocgoeac

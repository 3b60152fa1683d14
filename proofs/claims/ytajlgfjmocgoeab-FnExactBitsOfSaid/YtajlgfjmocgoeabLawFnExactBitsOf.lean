/- The row of FnExactBitsOf: for every input the law returns true and each argument reads as it did: out of the plain statement and the printed walk. No condition. -/
import Derived.Test.YtajlgfjmocgoeabRows
import Derived.Test.YtajlgfjmocgoeabPFnExactBitsOfx3
import Derived.Test.YtajlgfjmocgoeabPureFnExactBitsOf
import Derived.Test.YtajlgfjmocgoeabOpenArgs
import Derived.WalkKit
import Derived.ProofKit
import Derived.OpenShut
import Derived.ShutString
import Derived.ChangeOld
import Derived.Below
import Derived.SizedLaws
import Derived.Lib.SmallJoins
namespace Go.Proofs.Ytajlgfjmocgoeab.fnExactBitsOf
open Go.ChangeShapes Go.WideShapes Go.ChangeAt Go.RowKit
open Go.ChangeMaps (open_string shut_string)
set_option linter.unusedVariables false
theorem own : ownKnob Try.prog.godebug = none := by kernel_rfl
theorem laidOut : laidOutB Try.prog = true := by kernel_rfl
set_option maxRecDepth 100000 in
theorem lifted (os : Os) (started : os.Started) (H : Type) (enc : TypeId × Value → H) :
    ReturnsInHanded {} Try.checked os 5 .any (Rows.fnExactBitsOfSpec.pre6 enc Try.prog Try.f5 Rows.fnExactBitsOfRow.domain false) (Rows.fnExactBitsOfSpec.post enc Try.prog Try.f5 false true false false) := by
  refine returnsInHanded_of_change_sized (C := Try.checked) own started (by kernel_rfl) Try.func5
    (ChangeSpec.witness6 (enc := enc) (C := Try.checked) false ⟨#[], #[.agg #[.bool false, .slice none 0 0]], []⟩ 8 (by kernel_rfl) (by kernel_rfl) (by kernel_rfl) (by kernel_rfl)) ?_
  intro W base args ds gs before hval0 hW hcnd hsz0 _
  have hval : ∀ (j : Nat) t v, Try.f5.params[j]? = some t → args[j]? = some v → Value.okWide Try.prog W .any base t v := hval0
  have hW' := hW
  obtain ⟨p, q, hA0, hV, rfl, hfz, hnd⟩ := hW
  have hA : DataW.TrodAll enc Try.prog W 0 (fun _ => true) true Try.f5.params.toList args.toList ds p := hA0
  rw [Try.params5] at hA hval
  obtain ⟨v0, vs0, d0, ds0, p0, q0, hargs, rfl, rfl, h0, r0⟩ := trodAll_cons hA
  obtain ⟨rfl, rfl, rfl⟩ := trodAll_nil r0
  obtain rfl : args = #[v0] := by cases args; simp_all
  obtain ⟨rfl, rfl⟩ := trodVars_none hV
  have k0 := h0
  have lt0 : ∀ x ∈ p0, x.block < W.heap.size := by obtain ⟨m, hm⟩ := k0; exact DataW.trod_lt m _ _ _ hm
  obtain ⟨c0_0, c0_1, y0_0, y0_1, m0, rfl, hd0, hp0, t0_0, t0_1⟩ := Joins.open_agg2 Try.underlying33 (by kernel_rfl) (by kernel_rfl) (hval 0 33 v0 rfl rfl) h0
  obtain ⟨a0_0, e0_0, _⟩ := DataW.trod_bool Try.underlying4 t0_0
  simp at e0_0
  subst e0_0
  obtain ⟨A0_1, c0_1, l0_1, e0_1, hr0_1, hc0_1, w0_1⟩ := OpenArgs.row_of Try.underlying22 Try.underlying3 (by kernel_rfl) t0_1
  subst e0_1
  clear hA0 hval0 hsz0
  obtain ⟨k, h⟩ := Pure.FnExactBitsOf a0_0 l0_1 hr0_1.2.1 w0_1
  refine (PFnExactBitsOf.laws_FnExactBitsOf.calls k a0_0 A0_1 c0_1 l0_1 true W hr0_1 hc0_1 h).mono fun e W' ⟨he, bel⟩ => ?_
  subst he
  exact ⟨_, rfl, _, _, _, [], _, [], hW', trodAll_mk1 (shut_bool Try.underlying4 _), (trodAll_cons_mk (Below.trod laidOut (by kernel_rfl) (of_decide_eq_true (by kernel_rfl)) k0 bel lt0) trodAll_mk0), rfl, bel.frame _, fun h => by cases h⟩
theorem over : Rows.fnExactBitsOfRow.holds Try.pinned (OpenSpec.ofChange Rows.fnExactBitsOfSpec) :=
  OpenClaim.holds_of_wide 5 Try.f5 rfl rfl rfl rfl rfl rfl rfl ⟨rfl, rfl, rfl, rfl, rfl⟩ rfl rfl rfl rfl rfl (by kernel_rfl) Try.func5 (by kernel_rfl)
    (of_decide_eq_true (by kernel_rfl)) (by unfold Func.isWrapper; first | (rw [if_pos (by decide +kernel)]; kernel_rfl) | (rw [if_neg (by decide +kernel)]; exact ⟨rfl, rfl⟩))
    (fun os started H enc _ => lifted os started H enc)
theorem proved : Rows.FnExactBitsOfSaid := over
#print axioms proved
end Go.Proofs.Ytajlgfjmocgoeab.fnExactBitsOf
namespace Go.Proofs.Ytajlgfjmocgoeab
/-- The row, under a short name, for the claim. -/
theorem fnExactBitsOf_holds : Rows.FnExactBitsOfSaid := fnExactBitsOf.proved
end Go.Proofs.Ytajlgfjmocgoeab

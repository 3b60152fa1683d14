/- The row of FnExactRoundWholes: for every input the law returns true and each argument reads as it did: out of the plain law over the interpreter, which is proved right. No condition. -/
import Derived.Test.YtnlgciomdghfiaaRows
import Derived.Test.YtnlgciomdghfiaaFwZf
import Derived.Test.YtnlgciomdghfiaaFwTok
import Derived.Test.YtnlgciomdghfiaaPlainFnExactRoundWholes
import Derived.WalkKit
import Derived.ProofKit
import Derived.OpenShut
import Derived.ShutString
import Derived.ChangeOld
import Derived.Below
import Derived.SizedLaws
namespace Go.Proofs.Ytnlgciomdghfiaa.fnExactRoundWholes
open Go.ChangeShapes Go.WideShapes Go.ChangeAt Go.RowKit Go.Proofs.Ytnlgciomdghfiaa.Fw
set_option linter.unusedVariables false
theorem own : ownKnob Try.prog.godebug = none := by kernel_rfl
theorem laidOut : laidOutB Try.prog = true := by kernel_rfl
set_option maxRecDepth 100000 in
theorem lifted (os : Os) (started : os.Started) (H : Type) (enc : TypeId × Value → H) :
    ReturnsInHanded {} Try.checked os 14 .any (Rows.fnExactRoundWholesSpec.pre6 enc Try.prog Try.f14 Rows.fnExactRoundWholesRow.domain false) (Rows.fnExactRoundWholesSpec.post enc Try.prog Try.f14 false true false false) := by
  refine returnsInHanded_of_change_sized (C := Try.checked) own started (by kernel_rfl) Try.func14
    (ChangeSpec.witness6 (enc := enc) (C := Try.checked) false ⟨#[], #[.agg #[.bool false, .slice none 0 0], .agg #[.bool false, .slice none 0 0]], []⟩ 8 (by kernel_rfl) (by kernel_rfl) (by kernel_rfl) (by kernel_rfl)) ?_
  intro W base args ds gs before hval0 hW hcnd hsz0 _
  have hval : ∀ (j : Nat) t v, Try.f14.params[j]? = some t → args[j]? = some v → Value.okWide Try.prog W .any base t v := hval0
  have hW' := hW
  obtain ⟨p, q, hA0, hV, rfl, hfz, hnd⟩ := hW
  have hA : DataW.TrodAll enc Try.prog W 0 (fun _ => true) true Try.f14.params.toList args.toList ds p := hA0
  rw [Try.params14] at hA hval
  obtain ⟨v0, vs0, d0, ds0, p0, q0, hargs, rfl, rfl, h0, r0⟩ := trodAll_cons hA
  obtain ⟨v1, vs1, d1, ds1, p1, q1, rfl, rfl, rfl, h1, r1⟩ := trodAll_cons r0
  obtain ⟨rfl, rfl, rfl⟩ := trodAll_nil r1
  obtain rfl : args = #[v0, v1] := by cases args; simp_all
  obtain ⟨rfl, rfl⟩ := trodVars_none hV
  have lt0 : ∀ x ∈ p0, x.block < W.heap.size := by obtain ⟨m, hm⟩ := h0; exact DataW.trod_lt m _ _ _ hm
  obtain ⟨x0, a0, w0⟩ := arg_rel (ty := .pr (.bool) (.sl (.int .i64))) (.st0 Try.underlying36 rfl (.bool Try.underlying4) rfl (by kernel_rfl) (.one (.sl Try.underlying22 (.int Try.underlying3) (by kernel_rfl)) rfl (by kernel_rfl)) (by kernel_rfl)) (by obtain ⟨cs, rfl, _⟩ := okWide_struct Try.underlying36 (hval 0 36 v0 rfl rfl); exact ⟨cs, rfl⟩) h0
  have lt1 : ∀ x ∈ p1, x.block < W.heap.size := by obtain ⟨m, hm⟩ := h1; exact DataW.trod_lt m _ _ _ hm
  obtain ⟨x1, a1, w1⟩ := arg_rel (ty := .pr (.bool) (.sl (.int .i64))) (.st0 Try.underlying36 rfl (.bool Try.underlying4) rfl (by kernel_rfl) (.one (.sl Try.underlying22 (.int Try.underlying3) (by kernel_rfl)) rfl (by kernel_rfl)) (by kernel_rfl)) (by obtain ⟨cs, rfl, _⟩ := okWide_struct Try.underlying36 (hval 1 36 v1 rfl rfl); exact ⟨cs, rfl⟩) h1
  clear hA0 hval0 hsz0
  obtain ⟨n, h⟩ := plainFnExactRoundWholes x0 x1 w0 w1
  refine (law_calls (vals := [v0, v1]) ((run_sound tbOk orc_ok n).pure _ _ _ h) (by simp only [RelL]; exact ⟨v0, _, rfl, a0, ⟨v1, _, rfl, a1, rfl⟩⟩) (fun _ _ _ _ _ hr => res_bool hr)).mono fun e W' ⟨he, bel⟩ => ?_
  subst he
  exact ⟨_, rfl, _, _, _, [], _, [], hW', trodAll_mk1 (shut_bool Try.underlying4 _), (trodAll_cons_mk (Below.trod laidOut (by kernel_rfl) (of_decide_eq_true (by kernel_rfl)) h0 bel lt0) (trodAll_cons_mk (Below.trod laidOut (by kernel_rfl) (of_decide_eq_true (by kernel_rfl)) h1 bel lt1) trodAll_mk0)), rfl, bel.frame _, fun h => by cases h⟩
theorem over : Rows.fnExactRoundWholesRow.holds Try.pinned (OpenSpec.ofChange Rows.fnExactRoundWholesSpec) :=
  OpenClaim.holds_of_wide 14 Try.f14 rfl rfl rfl rfl rfl rfl rfl ⟨rfl, rfl, rfl, rfl, rfl⟩ rfl rfl rfl rfl rfl (by kernel_rfl) Try.func14 (by kernel_rfl)
    (of_decide_eq_true (by kernel_rfl)) (by unfold Func.isWrapper; first | (rw [if_pos (by decide +kernel)]; kernel_rfl) | (rw [if_neg (by decide +kernel)]; exact ⟨rfl, rfl⟩))
    (fun os started H enc _ => lifted os started H enc)
theorem proved : Rows.FnExactRoundWholesSaid := over
#print axioms proved
end Go.Proofs.Ytnlgciomdghfiaa.fnExactRoundWholes
namespace Go.Proofs.Ytnlgciomdghfiaa
/-- The row, under a short name, for the claim. -/
theorem fnExactRoundWholes_holds : Rows.FnExactRoundWholesSaid := fnExactRoundWholes.proved
end Go.Proofs.Ytnlgciomdghfiaa

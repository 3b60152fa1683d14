/- The row of FnExactScaleRows: for every input the law returns true and each argument reads as it did: out of the plain law over the interpreter, which is proved right. No condition. -/
import Derived.Test.YthanbjnpfenniaaDoorRows
import Derived.Test.YthanbjnpfenniaaDoorFwZf
import Derived.Test.YthanbjnpfenniaaDoorFwTok
import Derived.Test.YthanbjnpfenniaaDoorPlainFnExactScaleRows
import Derived.Test.YthanbjnpfenniaaDoorFwDoor
import Derived.Test.YthanbjnpfenniaaDoorTie
import Derived.Test.YthanbjnpfenniaaDoorCards
import Derived.WalkKit
import Derived.ProofKit
import Derived.OpenShut
import Derived.ShutString
import Derived.ChangeOld
import Derived.Below
import Derived.SizedLaws
import Derived.LaidMore
import Derived.Stop.Joined
import Derived.SevenTiedAt
namespace Go.Proofs.YthanbjnpfenniaaDoor.fnExactScaleRows
open Go.ChangeShapes Go.WideShapes Go.ChangeAt Go.RowKit Go.Proofs.YthanbjnpfenniaaDoor.Fw
set_option linter.unusedVariables false
theorem own : ownKnob Tryd.prog.godebug = none := by kernel_rfl
theorem laidOut : laidOutB Tryd.prog = true := by kernel_rfl
theorem door_met (os : Os) (args : Array Value) : laidMetH Tryd.prog [("math/bits.deBruijn64tab", Rows.laid_math_bits_deBruijn64tab)] ((World.doorLaid Tryd.prog 14 os).forCall (fun _ _ => 0) ⟨#[], args, []⟩).memory :=
  laidMetH_of_parts3 (fuel := 8) (laidMet_of_run' 8 (by kernel_rfl) (by kernel_rfl)) (by kernel_rfl) (by kernel_rfl)
set_option maxRecDepth 100000 in
theorem lifted (os : Os) (started : os.Started) (H : Type) (enc : TypeId × Value → H) :
    ReturnsInHanded {} Tryd.checked os 12 .any (fun w args => (Rows.fnExactScaleRowsSpec.pre enc Tryd.prog Tryd.f12 [] false w args ∧ laidMetH Tryd.prog [("math/bits.deBruijn64tab", Rows.laid_math_bits_deBruijn64tab)] w) ∧ sizedMet enc Tryd.prog Tryd.f12 (OpenSpec.ofChange Rows.fnExactScaleRowsSpec) false w args) (Rows.fnExactScaleRowsSpec.post enc Tryd.prog Tryd.f12 false true false false) := by
  refine returnsInHanded_of_change_and (C := Tryd.checked) (X := fun w _ => laidMetH Tryd.prog [("math/bits.deBruijn64tab", Rows.laid_math_bits_deBruijn64tab)] w) (fun _ _ _ hh h => h.of_heap hh) own started (by kernel_rfl) Tryd.func12
    (ChangeSpec.witness_shaped (enc := enc) (C := Tryd.checked) (os := os) (X := fun w _ => laidMetH Tryd.prog [("math/bits.deBruijn64tab", Rows.laid_math_bits_deBruijn64tab)] w) false (World.doorLaid Tryd.prog 14 os) #[.agg #[.int .i64 0, .slice none 0 0], .agg #[.bool false, .slice none 0 0], .agg #[.bool false, .slice none 0 0]] 8 rfl (World.shaped_of_RefB (by kernel_rfl) (by kernel_rfl)) (by kernel_rfl) (by kernel_rfl) (by kernel_rfl) (door_met os _)) ?_
  intro W base args ds gs before hval0 hW hcnd hsz0 hL _
  have hval : ∀ (j : Nat) t v, Tryd.f12.params[j]? = some t → args[j]? = some v → Value.okWide Tryd.prog W .any base t v := hval0
  have hW' := hW
  obtain ⟨p, q, hA0, hV, rfl, hfz, hnd⟩ := hW
  have hA : DataW.TrodAll enc Tryd.prog W 0 (fun _ => true) true Tryd.f12.params.toList args.toList ds p := hA0
  rw [Tryd.params12] at hA hval
  obtain ⟨v0, vs0, d0, ds0, p0, q0, hargs, rfl, rfl, h0, r0⟩ := trodAll_cons hA
  obtain ⟨v1, vs1, d1, ds1, p1, q1, rfl, rfl, rfl, h1, r1⟩ := trodAll_cons r0
  obtain ⟨v2, vs2, d2, ds2, p2, q2, rfl, rfl, rfl, h2, r2⟩ := trodAll_cons r1
  obtain ⟨rfl, rfl, rfl⟩ := trodAll_nil r2
  obtain rfl : args = #[v0, v1, v2] := by cases args; simp_all
  obtain ⟨rfl, rfl⟩ := trodVars_none hV
  have lt0 : ∀ x ∈ p0, x.block < W.heap.size := by obtain ⟨m, hm⟩ := h0; exact DataW.trod_lt m _ _ _ hm
  obtain ⟨x0, a0, w0⟩ := arg_rel (ty := .pr (.int .i64) (.sl (.int .i64))) (.st0 Tryd.underlying40 rfl (.int Tryd.underlying3) rfl (by kernel_rfl) (.one (.sl Tryd.underlying22 (.int Tryd.underlying3) (by kernel_rfl)) rfl (by kernel_rfl)) (by kernel_rfl)) (by obtain ⟨cs, rfl, _⟩ := okWide_struct Tryd.underlying40 (hval 0 40 v0 rfl rfl); exact ⟨cs, rfl⟩) h0
  have lt1 : ∀ x ∈ p1, x.block < W.heap.size := by obtain ⟨m, hm⟩ := h1; exact DataW.trod_lt m _ _ _ hm
  obtain ⟨x1, a1, w1⟩ := arg_rel (ty := .pr (.bool) (.sl (.sl (.int .i64)))) (.st0 Tryd.underlying43 rfl (.bool Tryd.underlying4) rfl (by kernel_rfl) (.one (.sl Tryd.underlying41 (.sl Tryd.underlying22 (.int Tryd.underlying3) (by kernel_rfl)) (by kernel_rfl)) rfl (by kernel_rfl)) (by kernel_rfl)) (by obtain ⟨cs, rfl, _⟩ := okWide_struct Tryd.underlying43 (hval 1 43 v1 rfl rfl); exact ⟨cs, rfl⟩) h1
  have lt2 : ∀ x ∈ p2, x.block < W.heap.size := by obtain ⟨m, hm⟩ := h2; exact DataW.trod_lt m _ _ _ hm
  obtain ⟨x2, a2, w2⟩ := arg_rel (ty := .pr (.bool) (.sl (.int .i64))) (.st0 Tryd.underlying67 rfl (.bool Tryd.underlying4) rfl (by kernel_rfl) (.one (.sl Tryd.underlying22 (.int Tryd.underlying3) (by kernel_rfl)) rfl (by kernel_rfl)) (by kernel_rfl)) (by obtain ⟨cs, rfl, _⟩ := okWide_struct Tryd.underlying67 (hval 2 67 v2 rfl rfl); exact ⟨cs, rfl⟩) h2
  clear hA0 hval0 hsz0
  obtain ⟨n, h⟩ := plainFnExactScaleRows x0 x1 x2 w0 w1 w2
  replace h : (run tb orc n).pure 12 [Fw.enc (.pr (.int .i64) (.sl (.int .i64))) x0, Fw.enc (.pr (.bool) (.sl (.sl (.int .i64)))) x1, Fw.enc (.pr (.bool) (.sl (.int .i64))) x2] = some (true : Bool) := h
  refine (law_calls (vals := [v0, v1, v2]) ((run_sound tbOk orc_ok n).pure _ _ _ h) (gl_ok hL) (by simp only [RelL]; exact ⟨v0, _, rfl, a0, ⟨v1, _, rfl, a1, ⟨v2, _, rfl, a2, rfl⟩⟩⟩) (fun _ _ _ _ _ hr => res_bool hr)).mono fun e W' ⟨he, bel⟩ => ?_
  subst he
  exact ⟨_, rfl, _, _, _, [], _, [], hW', trodAll_mk1 (shut_bool Tryd.underlying4 _), (trodAll_cons_mk (Below.trod laidOut (by kernel_rfl) (of_decide_eq_true (by kernel_rfl)) h0 bel lt0) (trodAll_cons_mk (Below.trod laidOut (by kernel_rfl) (of_decide_eq_true (by kernel_rfl)) h1 bel lt1) (trodAll_cons_mk (Below.trod laidOut (by kernel_rfl) (of_decide_eq_true (by kernel_rfl)) h2 bel lt2) trodAll_mk0))), rfl, bel.frame _, fun h => by cases h⟩
theorem over : Rows.fnExactScaleRowsRow.holds Tryd.pinned (OpenSpec.ofChange Rows.fnExactScaleRowsSpec) :=
  OpenClaim.holds_of_wide 12 Tryd.f12 rfl rfl rfl rfl rfl rfl rfl ⟨rfl, rfl, rfl, rfl, rfl⟩ rfl rfl rfl rfl rfl (by kernel_rfl) Tryd.func12 (by kernel_rfl)
    (of_decide_eq_true (by kernel_rfl)) (by unfold Func.isWrapper; first | (rw [if_pos (by decide +kernel)]; kernel_rfl) | (rw [if_neg (by decide +kernel)]; exact ⟨rfl, rfl⟩))
    (fun os started H enc _ => lifted os started H enc)
theorem card_holds : Rows.FnExactScaleRowsCardSaid :=
  Claim7.holds_tied_plain_at .later [] [.data] true (true, "8ce96eb27c04730d84a2103c5288ef2ee66f6238355b2c9069712aca6fda4bc4") false
    over (fun _ h => by cases h) (by kernel_rfl) (fun _ h => by cases h) fnExactScaleRows_row_tie rfl ⟨rfl, rfl⟩ (by kernel_rfl) rfl
    (fun f fn hf hfn => by
      obtain rfl : f = 12 := Option.some.inj ((show Tryd.prog.funcNamed "loop.example/g00133/laws.FnExactScaleRows" = some 12 by kernel_rfl).symm.trans hf) |>.symm
      obtain rfl : fn = Tryd.f12 := (Option.some.inj (Tryd.func12.symm.trans hfn)).symm
      exact ⟨by kernel_rfl, fun j t ht => by
        rw [Tryd.params12] at ht
        have hm : t ∈ [40, 43, 67] := by simpa using Array.mem_of_getElem? ht
        have hall : ([40, 43, 67].all fun u => !Tryd.prog.wantsStandIn u) = true := by kernel_rfl
        exact (show Tryd.prog.wantsStandIn t = false by simpa using List.all_eq_true.1 hall t hm)⟩)
    (by kernel_rfl)
#print axioms card_holds
end Go.Proofs.YthanbjnpfenniaaDoor.fnExactScaleRows
namespace Go.Proofs.YthanbjnpfenniaaDoor
/-- The card, under a short name, for the claim. -/
theorem fnExactScaleRows_holds : Rows.FnExactScaleRowsCardSaid := fnExactScaleRows.card_holds
end Go.Proofs.YthanbjnpfenniaaDoor

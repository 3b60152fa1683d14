/- The row of FnExactSmallMont: for every input the law returns true and each argument reads as it did: out of the plain law over the interpreter, which is proved right. No condition. -/
import Derived.Test.YthanbjnpfenniaaDoorRows
import Derived.Test.YthanbjnpfenniaaDoorFwZf
import Derived.Test.YthanbjnpfenniaaDoorFwTok
import Derived.Test.YthanbjnpfenniaaDoorPlainFnExactSmallMont
import Derived.Test.YthanbjnpfenniaaDoorFwDoor
import Derived.Test.YthanbjnpfenniaaDoorTie
import Derived.Test.YthanbjnpfenniaaDoorCards
import Derived.WalkKit
import Derived.ProofKit
import Derived.OpenShut
import Derived.ShutString
import Derived.ChangeOld
import Derived.Below
import Derived.SizedLaws
import Derived.LaidMore
import Derived.Stop.Joined
import Derived.SevenTiedAt
namespace Go.Proofs.YthanbjnpfenniaaDoor.fnExactSmallMont
open Go.ChangeShapes Go.WideShapes Go.ChangeAt Go.RowKit Go.Proofs.YthanbjnpfenniaaDoor.Fw
set_option linter.unusedVariables false
theorem own : ownKnob Tryd.prog.godebug = none := by kernel_rfl
theorem laidOut : laidOutB Tryd.prog = true := by kernel_rfl
theorem door_met (os : Os) (args : Array Value) : laidMetH Tryd.prog [("math/bits.deBruijn64tab", Rows.laid_math_bits_deBruijn64tab)] ((World.doorLaid Tryd.prog 14 os).forCall (fun _ _ => 0) ⟨#[], args, []⟩).memory :=
  laidMetH_of_parts3 (fuel := 8) (laidMet_of_run' 8 (by kernel_rfl) (by kernel_rfl)) (by kernel_rfl) (by kernel_rfl)
set_option maxRecDepth 100000 in
theorem lifted (os : Os) (started : os.Started) (H : Type) (enc : TypeId × Value → H) :
    ReturnsInHanded {} Tryd.checked os 13 .any (fun w args => (Rows.fnExactSmallMontSpec.pre enc Tryd.prog Tryd.f13 [] false w args ∧ laidMetH Tryd.prog [("math/bits.deBruijn64tab", Rows.laid_math_bits_deBruijn64tab)] w) ∧ sizedMet enc Tryd.prog Tryd.f13 (OpenSpec.ofChange Rows.fnExactSmallMontSpec) false w args) (Rows.fnExactSmallMontSpec.post enc Tryd.prog Tryd.f13 false true false false) := by
  refine returnsInHanded_of_change_and (C := Tryd.checked) (X := fun w _ => laidMetH Tryd.prog [("math/bits.deBruijn64tab", Rows.laid_math_bits_deBruijn64tab)] w) (fun _ _ _ hh h => h.of_heap hh) own started (by kernel_rfl) Tryd.func13
    (ChangeSpec.witness_shaped (enc := enc) (C := Tryd.checked) (os := os) (X := fun w _ => laidMetH Tryd.prog [("math/bits.deBruijn64tab", Rows.laid_math_bits_deBruijn64tab)] w) false (World.doorLaid Tryd.prog 14 os) #[.slice none 0 0, .int .i64 0, .slice none 0 0, .int .i64 0, .slice none 0 0] 8 rfl (World.shaped_of_RefB (by kernel_rfl) (by kernel_rfl)) (by kernel_rfl) (by kernel_rfl) (by kernel_rfl) (door_met os _)) ?_
  intro W base args ds gs before hval0 hW hcnd hsz0 hL _
  have hval : ∀ (j : Nat) t v, Tryd.f13.params[j]? = some t → args[j]? = some v → Value.okWide Tryd.prog W .any base t v := hval0
  have hW' := hW
  obtain ⟨p, q, hA0, hV, rfl, hfz, hnd⟩ := hW
  have hA : DataW.TrodAll enc Tryd.prog W 0 (fun _ => true) true Tryd.f13.params.toList args.toList ds p := hA0
  rw [Tryd.params13] at hA hval
  obtain ⟨v0, vs0, d0, ds0, p0, q0, hargs, rfl, rfl, h0, r0⟩ := trodAll_cons hA
  obtain ⟨v1, vs1, d1, ds1, p1, q1, rfl, rfl, rfl, h1, r1⟩ := trodAll_cons r0
  obtain ⟨v2, vs2, d2, ds2, p2, q2, rfl, rfl, rfl, h2, r2⟩ := trodAll_cons r1
  obtain ⟨v3, vs3, d3, ds3, p3, q3, rfl, rfl, rfl, h3, r3⟩ := trodAll_cons r2
  obtain ⟨v4, vs4, d4, ds4, p4, q4, rfl, rfl, rfl, h4, r4⟩ := trodAll_cons r3
  obtain ⟨rfl, rfl, rfl⟩ := trodAll_nil r4
  obtain rfl : args = #[v0, v1, v2, v3, v4] := by cases args; simp_all
  obtain ⟨rfl, rfl⟩ := trodVars_none hV
  have lt0 : ∀ x ∈ p0, x.block < W.heap.size := by obtain ⟨m, hm⟩ := h0; exact DataW.trod_lt m _ _ _ hm
  obtain ⟨x0, a0, w0⟩ := arg_rel (ty := .sl (.int .i64)) (.sl Tryd.underlying22 (.int Tryd.underlying3) (by kernel_rfl)) (by obtain ⟨b, l, c, rfl⟩ := okWide_slice Tryd.underlying22 (hval 0 22 v0 rfl rfl); rfl) h0
  have lt1 : ∀ x ∈ p1, x.block < W.heap.size := by obtain ⟨m, hm⟩ := h1; exact DataW.trod_lt m _ _ _ hm
  obtain ⟨x1, a1, w1⟩ := arg_rel (ty := .int .i64) (.int Tryd.underlying3) (by obtain ⟨b, rfl⟩ := okWide_int Tryd.underlying3 (hval 1 3 v1 rfl rfl); rfl) h1
  have lt2 : ∀ x ∈ p2, x.block < W.heap.size := by obtain ⟨m, hm⟩ := h2; exact DataW.trod_lt m _ _ _ hm
  obtain ⟨x2, a2, w2⟩ := arg_rel (ty := .sl (.int .i64)) (.sl Tryd.underlying22 (.int Tryd.underlying3) (by kernel_rfl)) (by obtain ⟨b, l, c, rfl⟩ := okWide_slice Tryd.underlying22 (hval 2 22 v2 rfl rfl); rfl) h2
  have lt3 : ∀ x ∈ p3, x.block < W.heap.size := by obtain ⟨m, hm⟩ := h3; exact DataW.trod_lt m _ _ _ hm
  obtain ⟨x3, a3, w3⟩ := arg_rel (ty := .int .i64) (.int Tryd.underlying3) (by obtain ⟨b, rfl⟩ := okWide_int Tryd.underlying3 (hval 3 3 v3 rfl rfl); rfl) h3
  have lt4 : ∀ x ∈ p4, x.block < W.heap.size := by obtain ⟨m, hm⟩ := h4; exact DataW.trod_lt m _ _ _ hm
  obtain ⟨x4, a4, w4⟩ := arg_rel (ty := .sl (.int .i64)) (.sl Tryd.underlying22 (.int Tryd.underlying3) (by kernel_rfl)) (by obtain ⟨b, l, c, rfl⟩ := okWide_slice Tryd.underlying22 (hval 4 22 v4 rfl rfl); rfl) h4
  clear hA0 hval0 hsz0
  obtain ⟨n, h⟩ := plainFnExactSmallMont x0 x1 x2 x3 x4 w0 w1 w2 w3 w4
  replace h : (run tb orc n).pure 13 [Fw.enc (.sl (.int .i64)) x0, Fw.enc (.int .i64) x1, Fw.enc (.sl (.int .i64)) x2, Fw.enc (.int .i64) x3, Fw.enc (.sl (.int .i64)) x4] = some (true : Bool) := h
  refine (law_calls (vals := [v0, v1, v2, v3, v4]) ((run_sound tbOk orc_ok n).pure _ _ _ h) (gl_ok hL) (by simp only [RelL]; exact ⟨v0, _, rfl, a0, ⟨v1, _, rfl, a1, ⟨v2, _, rfl, a2, ⟨v3, _, rfl, a3, ⟨v4, _, rfl, a4, rfl⟩⟩⟩⟩⟩) (fun _ _ _ _ _ hr => res_bool hr)).mono fun e W' ⟨he, bel⟩ => ?_
  subst he
  exact ⟨_, rfl, _, _, _, [], _, [], hW', trodAll_mk1 (shut_bool Tryd.underlying4 _), (trodAll_cons_mk (Below.trod laidOut (by kernel_rfl) (of_decide_eq_true (by kernel_rfl)) h0 bel lt0) (trodAll_cons_mk (Below.trod laidOut (by kernel_rfl) (of_decide_eq_true (by kernel_rfl)) h1 bel lt1) (trodAll_cons_mk (Below.trod laidOut (by kernel_rfl) (of_decide_eq_true (by kernel_rfl)) h2 bel lt2) (trodAll_cons_mk (Below.trod laidOut (by kernel_rfl) (of_decide_eq_true (by kernel_rfl)) h3 bel lt3) (trodAll_cons_mk (Below.trod laidOut (by kernel_rfl) (of_decide_eq_true (by kernel_rfl)) h4 bel lt4) trodAll_mk0))))), rfl, bel.frame _, fun h => by cases h⟩
theorem over : Rows.fnExactSmallMontRow.holds Tryd.pinned (OpenSpec.ofChange Rows.fnExactSmallMontSpec) :=
  OpenClaim.holds_of_wide 13 Tryd.f13 rfl rfl rfl rfl rfl rfl rfl ⟨rfl, rfl, rfl, rfl, rfl⟩ rfl rfl rfl rfl rfl (by kernel_rfl) Tryd.func13 (by kernel_rfl)
    (of_decide_eq_true (by kernel_rfl)) (by unfold Func.isWrapper; first | (rw [if_pos (by decide +kernel)]; kernel_rfl) | (rw [if_neg (by decide +kernel)]; exact ⟨rfl, rfl⟩))
    (fun os started H enc _ => lifted os started H enc)
theorem card_holds : Rows.FnExactSmallMontCardSaid :=
  Claim7.holds_tied_plain_at .later [] [.data] true (true, "8ce96eb27c04730d84a2103c5288ef2ee66f6238355b2c9069712aca6fda4bc4") false
    over (fun _ h => by cases h) (by kernel_rfl) (fun _ h => by cases h) fnExactSmallMont_row_tie rfl ⟨rfl, rfl⟩ (by kernel_rfl) rfl
    (fun f fn hf hfn => by
      obtain rfl : f = 13 := Option.some.inj ((show Tryd.prog.funcNamed "loop.example/g00133/laws.FnExactSmallMont" = some 13 by kernel_rfl).symm.trans hf) |>.symm
      obtain rfl : fn = Tryd.f13 := (Option.some.inj (Tryd.func13.symm.trans hfn)).symm
      exact ⟨by kernel_rfl, fun j t ht => by
        rw [Tryd.params13] at ht
        have hm : t ∈ [22, 3, 22, 3, 22] := by simpa using Array.mem_of_getElem? ht
        have hall : ([22, 3, 22, 3, 22].all fun u => !Tryd.prog.wantsStandIn u) = true := by kernel_rfl
        exact (show Tryd.prog.wantsStandIn t = false by simpa using List.all_eq_true.1 hall t hm)⟩)
    (by kernel_rfl)
#print axioms card_holds
end Go.Proofs.YthanbjnpfenniaaDoor.fnExactSmallMont
namespace Go.Proofs.YthanbjnpfenniaaDoor
/-- The card, under a short name, for the claim. -/
theorem fnExactSmallMont_holds : Rows.FnExactSmallMontCardSaid := fnExactSmallMont.card_holds
end Go.Proofs.YthanbjnpfenniaaDoor

-- PRINTED BY print.sh 35421559b90ae4d0a3588c463048766b98c2df88dd9212a6774a882060cdf62d: not written by this session
import Derived.Test.YtpekleahjjjddaaPFnExactShoupMulx0
namespace Go.Proofs.Ytpekleahjjjddaa.PFnExactShoupMul
open Go.RowKit Go.Proofs.YtpekleahjjjddaaW.PrintWords Go.Proofs.YtpekleahjjjddaaW.PrintLast Go.Proofs.YtpekleahjjjddaaW.PrintMore
attribute [local go_sem] max2_int min2_int max_two min_two max_three min_three max_four min_four   -- for this text's walks alone
set_option linter.unusedVariables false
set_option linter.unusedSimpArgs false

/-! ### spec_l1In: function 25 -/
def spec_l1In.f (a0 : Int) (a1 : Int) (a2 : Int) : Option (Bool) := if a0 ≥ a1 then (some (decide (a0 ≤ a2))) else (some false)
set_option maxHeartbeats 8000000 in
set_option maxRecDepth 100000 in
theorem spec_l1In.calls (a0 : Int) (a1 : Int) (a2 : Int) (r : Bool) (w : World) (h : spec_l1In.f a0 a1 a2 = some r) :
    Calls Try.prog 25 #[.int .i64 a0, .int .i64 a1, .int .i64 a2] w fun e w' => e = .returned (.bool r) ∧ Drawn0 w w' := by
  have H : (if a0 ≥ a1 then (some (decide (a0 ≤ a2))) else (some false)) = some r := h
  clear h
  by_cases c4 : a0 ≥ a1
  · rw [if_pos c4] at H
    have c4b0 : decide (a1 ≤ a0) = true := decide_eq_true c4
    clear c4
    obtain rfl := Option.some.inj H
    go_enter Try.func25, Try.ntmps25
    go_wp2
    go_ret
    exact ⟨by first | rfl | (simp; done) | (simp [*]; done), by repeat (first | exact Drawn0.refl _ | apply Drawn0.step)⟩
  · rw [if_neg c4] at H
    have c4b0 : decide (a1 ≤ a0) = false := decide_eq_false c4
    clear c4
    obtain rfl := Option.some.inj H
    go_enter Try.func25, Try.ntmps25
    go_wp2
    go_ret
    exact ⟨by first | rfl | (simp; done) | (simp [*]; done), by repeat (first | exact Drawn0.refl _ | apply Drawn0.step)⟩

/-! ### spec_l1Modulus: function 24 -/
def spec_l1Modulus.f (a0 : Int) : Option (Bool) := (spec_l1In.f a0 2 268435456).bind fun t101 => (some t101)
set_option maxHeartbeats 8000000 in
set_option maxRecDepth 100000 in
theorem spec_l1Modulus.calls (a0 : Int) (r : Bool) (w : World) (h : spec_l1Modulus.f a0 = some r) :
    Calls Try.prog 24 #[.int .i64 a0] w fun e w' => e = .returned (.bool r) ∧ Drawn0 w w' := by
  have H : ((spec_l1In.f a0 2 268435456).bind fun t101 => (some t101)) = some r := h
  clear h
  replace H := Option.bind_eq_some_iff.mp H
  obtain ⟨t101, A20, H⟩ := H
  replace H : (some t101) = some r := H
  have A2 := Aside0.mk A20
  clear A20
  obtain rfl := Option.some.inj H
  go_enter Try.func24, Try.ntmps24
  go_wp2_with (first | ((with_reducible refine gate_callee (f := 25) rfl ?_); refine goesL_ (some 4) rfl rfl Try.func25 (by kernel_rfl) rfl #[.int .i64 a0, .int .i64 2, .int .i64 268435456] rfl (by (try simp only [List.map_toArray, List.map_cons, List.map_nil]); first | done | rfl | (simp only [List.length_drop, List.length_take]; rfl)) ?_; (with_reducible refine (spec_l1In.calls a0 2 268435456 t101 _ A2.out).mono ?_); rintro e w' ⟨rfl, ⟨nd, rfl⟩⟩; refine ⟨_, rfl, ?_⟩))
  go_ret
  exact ⟨by first | rfl | (simp; done) | (simp [*]; done), by repeat (first | exact Drawn0.refl _ | apply Drawn0.step)⟩

/-! ### spec_ShoupOf: function 10 -/
def spec_ShoupOf.f (a0 : Int) (a1 : Int) : Option (Int × Bool) := (spec_l1Modulus.f a1).bind fun t102 => (if t102 = true then ((spec_l1In.f a0 0 (wrap64 (a1 - 1))).bind fun t103 => (if t103 = true then (if a1 = 0 then (none) else (some (wrap64 (Int.tdiv (wrap64 (a0 * 4294967296)) a1), true))) else (some (0, false)))) else (some (0, false)))
set_option maxHeartbeats 8000000 in
set_option maxRecDepth 100000 in
theorem spec_ShoupOf.calls (a0 : Int) (a1 : Int) (r1 : Int) (r2 : Bool) (w : World) (h : spec_ShoupOf.f a0 a1 = some (r1, r2)) :
    Calls Try.prog 10 #[.int .i64 a0, .int .i64 a1] w fun e w' => e = .returned (.tuple #[.int .i64 r1, .bool r2]) ∧ Drawn0 w w' := by
  have H : ((spec_l1Modulus.f a1).bind fun t102 => (if t102 = true then ((spec_l1In.f a0 0 (wrap64 (a1 - 1))).bind fun t103 => (if t103 = true then (if a1 = 0 then (none) else (some (wrap64 (Int.tdiv (wrap64 (a0 * 4294967296)) a1), true))) else (some (0, false)))) else (some (0, false)))) = some (r1, r2) := h
  clear h
  replace H := Option.bind_eq_some_iff.mp H
  obtain ⟨t102, A30, H⟩ := H
  replace H : (if t102 = true then ((spec_l1In.f a0 0 (wrap64 (a1 - 1))).bind fun t103 => (if t103 = true then (if a1 = 0 then (none) else (some (wrap64 (Int.tdiv (wrap64 (a0 * 4294967296)) a1), true))) else (some (0, false)))) else (some (0, false))) = some (r1, r2) := H
  have A3 := Aside0.mk A30
  clear A30
  by_cases c4 : t102 = true
  · subst c4
    have H1 : ((spec_l1In.f a0 0 (wrap64 (a1 - 1))).bind fun t103 => (if t103 = true then (if a1 = 0 then (none) else (some (wrap64 (Int.tdiv (wrap64 (a0 * 4294967296)) a1), true))) else (some (0, false)))) = some (r1, r2) := by rw [if_pos rfl] at H; exact H
    clear H
    have H := H1
    clear H1
    replace H := Option.bind_eq_some_iff.mp H
    obtain ⟨t103, A50, H⟩ := H
    replace H : (if t103 = true then (if a1 = 0 then (none) else (some (wrap64 (Int.tdiv (wrap64 (a0 * 4294967296)) a1), true))) else (some (0, false))) = some (r1, r2) := H
    have A5 := Aside0.mk A50
    clear A50
    by_cases c6 : t103 = true
    · subst c6
      have H1 : (if a1 = 0 then (none) else (some (wrap64 (Int.tdiv (wrap64 (a0 * 4294967296)) a1), true))) = some (r1, r2) := by rw [if_pos rfl] at H; exact H
      clear H
      have H := H1
      clear H1
      by_cases c7 : a1 = 0
      · rw [if_pos c7] at H
        exact absurd H (by simp)
      · rw [if_neg c7] at H
        have c7b0 : (a1 == 0) = false := beq_eq_false_iff_ne.mpr c7
        have c7b1 : (a1 != 0) = true := bne_iff_ne.mpr c7
        simp only [Option.some.injEq, Prod.mk.injEq] at H
        obtain ⟨rfl, rfl⟩ := H
        go_enter Try.func10, Try.ntmps10
        go_wp2_with (first | ((with_reducible refine gate_callee (f := 24) rfl ?_); refine goesL_ (some 7) rfl rfl Try.func24 (by kernel_rfl) rfl #[.int .i64 a1] rfl (by (try simp only [List.map_toArray, List.map_cons, List.map_nil]); first | done | rfl | (simp only [List.length_drop, List.length_take]; rfl)) ?_; (with_reducible refine (spec_l1Modulus.calls a1 true _ A3.out).mono ?_); rintro e w' ⟨rfl, ⟨nd, rfl⟩⟩; refine ⟨_, rfl, ?_⟩) | (go_at_call 25; (with_reducible refine (spec_l1In.calls a0 0 (wrap64 (a1 - 1)) true _ A5.out).mono ?_); rintro e w' ⟨rfl, ⟨nd, rfl⟩⟩))
        go_ret2
        exact ⟨by first | rfl | (simp; done) | (simp [*]; done), by repeat (first | exact Drawn0.refl _ | apply Drawn0.step)⟩
    · replace c6 := Bool.eq_false_iff.mpr c6
      subst c6
      have H1 : (some (0, false)) = some (r1, r2) := by rw [if_neg (show ¬ (false = true) by decide)] at H; exact H
      clear H
      have H := H1
      clear H1
      simp only [Option.some.injEq, Prod.mk.injEq] at H
      obtain ⟨rfl, rfl⟩ := H
      go_enter Try.func10, Try.ntmps10
      go_wp2_with (first | ((with_reducible refine gate_callee (f := 24) rfl ?_); refine goesL_ (some 7) rfl rfl Try.func24 (by kernel_rfl) rfl #[.int .i64 a1] rfl (by (try simp only [List.map_toArray, List.map_cons, List.map_nil]); first | done | rfl | (simp only [List.length_drop, List.length_take]; rfl)) ?_; (with_reducible refine (spec_l1Modulus.calls a1 true _ A3.out).mono ?_); rintro e w' ⟨rfl, ⟨nd, rfl⟩⟩; refine ⟨_, rfl, ?_⟩) | (go_at_call 25; (with_reducible refine (spec_l1In.calls a0 0 (wrap64 (a1 - 1)) false _ A5.out).mono ?_); rintro e w' ⟨rfl, ⟨nd, rfl⟩⟩))
      go_ret2
      exact ⟨by first | rfl | (simp; done) | (simp [*]; done), by repeat (first | exact Drawn0.refl _ | apply Drawn0.step)⟩
  · replace c4 := Bool.eq_false_iff.mpr c4
    subst c4
    have H1 : (some (0, false)) = some (r1, r2) := by rw [if_neg (show ¬ (false = true) by decide)] at H; exact H
    clear H
    have H := H1
    clear H1
    simp only [Option.some.injEq, Prod.mk.injEq] at H
    obtain ⟨rfl, rfl⟩ := H
    go_enter Try.func10, Try.ntmps10
    go_wp2_with (first | ((with_reducible refine gate_callee (f := 24) rfl ?_); refine goesL_ (some 7) rfl rfl Try.func24 (by kernel_rfl) rfl #[.int .i64 a1] rfl (by (try simp only [List.map_toArray, List.map_cons, List.map_nil]); first | done | rfl | (simp only [List.length_drop, List.length_take]; rfl)) ?_; (with_reducible refine (spec_l1Modulus.calls a1 false _ A3.out).mono ?_); rintro e w' ⟨rfl, ⟨nd, rfl⟩⟩; refine ⟨_, rfl, ?_⟩))
    go_ret2
    exact ⟨by first | rfl | (simp; done) | (simp [*]; done), by repeat (first | exact Drawn0.refl _ | apply Drawn0.step)⟩

/-! ### spec_ShoupMul: function 12 -/
def spec_ShoupMul.f (a0 : Int) (a1 : Int) (a2 : Int) (a3 : Int) : Option (Int × Bool) := (spec_ShoupOf.f a0 a2).bind fun bt104 => (if bt104.2 = true then (if bt104.1 = a1 then ((spec_l1In.f a3 0 4294967295).bind fun t106 => (if t106 = true then (some (wrap64 ((wrap64 (a0 * a3)) - (wrap64 ((wrap64 ((IntKind.u64.wrap ((IntKind.u64.wrap (a1)) * (IntKind.u64.wrap (a3)))) / 4294967296)) * a2))), true)) else (some (0, false)))) else (some (0, false))) else (some (0, false)))
set_option maxHeartbeats 8000000 in
set_option maxRecDepth 100000 in
theorem spec_ShoupMul.calls (a0 : Int) (a1 : Int) (a2 : Int) (a3 : Int) (r1 : Int) (r2 : Bool) (w : World) (h : spec_ShoupMul.f a0 a1 a2 a3 = some (r1, r2)) :
    Calls Try.prog 12 #[.int .i64 a0, .int .i64 a1, .int .i64 a2, .int .i64 a3] w fun e w' => e = .returned (.tuple #[.int .i64 r1, .bool r2]) ∧ Drawn0 w w' := by
  have H : ((spec_ShoupOf.f a0 a2).bind fun bt104 => (if bt104.2 = true then (if bt104.1 = a1 then ((spec_l1In.f a3 0 4294967295).bind fun t106 => (if t106 = true then (some (wrap64 ((wrap64 (a0 * a3)) - (wrap64 ((wrap64 ((IntKind.u64.wrap ((IntKind.u64.wrap (a1)) * (IntKind.u64.wrap (a3)))) / 4294967296)) * a2))), true)) else (some (0, false)))) else (some (0, false))) else (some (0, false)))) = some (r1, r2) := h
  clear h
  replace H := Option.bind_eq_some_iff.mp H
  obtain ⟨⟨t104, t105⟩, A50, H⟩ := H
  replace H : (if t105 = true then (if t104 = a1 then ((spec_l1In.f a3 0 4294967295).bind fun t106 => (if t106 = true then (some (wrap64 ((wrap64 (a0 * a3)) - (wrap64 ((wrap64 ((IntKind.u64.wrap ((IntKind.u64.wrap (a1)) * (IntKind.u64.wrap (a3)))) / 4294967296)) * a2))), true)) else (some (0, false)))) else (some (0, false))) else (some (0, false))) = some (r1, r2) := H
  have A5 := Aside0.mk A50
  clear A50
  by_cases c6 : t105 = true
  · subst c6
    have H1 : (if t104 = a1 then ((spec_l1In.f a3 0 4294967295).bind fun t106 => (if t106 = true then (some (wrap64 ((wrap64 (a0 * a3)) - (wrap64 ((wrap64 ((IntKind.u64.wrap ((IntKind.u64.wrap (a1)) * (IntKind.u64.wrap (a3)))) / 4294967296)) * a2))), true)) else (some (0, false)))) else (some (0, false))) = some (r1, r2) := by rw [if_pos rfl] at H; exact H
    clear H
    have H := H1
    clear H1
    by_cases c7 : t104 = a1
    · rw [if_pos c7] at H
      have c7b0 : (t104 == a1) = true := beq_iff_eq.mpr c7
      have c7b1 : (t104 != a1) = false := bne_eq_false_iff_eq.mpr c7
      clear c7
      replace H := Option.bind_eq_some_iff.mp H
      obtain ⟨t106, A80, H⟩ := H
      replace H : (if t106 = true then (some (wrap64 ((wrap64 (a0 * a3)) - (wrap64 ((wrap64 ((IntKind.u64.wrap ((IntKind.u64.wrap (a1)) * (IntKind.u64.wrap (a3)))) / 4294967296)) * a2))), true)) else (some (0, false))) = some (r1, r2) := H
      have A8 := Aside0.mk A80
      clear A80
      by_cases c9 : t106 = true
      · subst c9
        have H1 : (some (wrap64 ((wrap64 (a0 * a3)) - (wrap64 ((wrap64 ((IntKind.u64.wrap ((IntKind.u64.wrap (a1)) * (IntKind.u64.wrap (a3)))) / 4294967296)) * a2))), true)) = some (r1, r2) := by rw [if_pos rfl] at H; exact H
        clear H
        have H := H1
        clear H1
        simp only [Option.some.injEq, Prod.mk.injEq] at H
        obtain ⟨rfl, rfl⟩ := H
        go_enter Try.func12, Try.ntmps12
        go_wp2_with (first | ((with_reducible refine gate_callee (f := 10) rfl ?_); refine goesL_ (some 16) rfl rfl Try.func10 (by kernel_rfl) rfl #[.int .i64 a0, .int .i64 a2] rfl (by (try simp only [List.map_toArray, List.map_cons, List.map_nil]); first | done | rfl | (simp only [List.length_drop, List.length_take]; rfl)) ?_; (with_reducible refine (spec_ShoupOf.calls a0 a2 t104 true _ A5.out).mono ?_); rintro e w' ⟨rfl, ⟨nd, rfl⟩⟩; refine ⟨_, rfl, ?_⟩) | (go_at_call 25; (with_reducible refine (spec_l1In.calls a3 0 4294967295 true _ A8.out).mono ?_); rintro e w' ⟨rfl, ⟨nd, rfl⟩⟩))
        go_ret2
        exact ⟨by first | rfl | (simp; done) | (simp [*]; done), by repeat (first | exact Drawn0.refl _ | apply Drawn0.step)⟩
      · replace c9 := Bool.eq_false_iff.mpr c9
        subst c9
        have H1 : (some (0, false)) = some (r1, r2) := by rw [if_neg (show ¬ (false = true) by decide)] at H; exact H
        clear H
        have H := H1
        clear H1
        simp only [Option.some.injEq, Prod.mk.injEq] at H
        obtain ⟨rfl, rfl⟩ := H
        go_enter Try.func12, Try.ntmps12
        go_wp2_with (first | ((with_reducible refine gate_callee (f := 10) rfl ?_); refine goesL_ (some 16) rfl rfl Try.func10 (by kernel_rfl) rfl #[.int .i64 a0, .int .i64 a2] rfl (by (try simp only [List.map_toArray, List.map_cons, List.map_nil]); first | done | rfl | (simp only [List.length_drop, List.length_take]; rfl)) ?_; (with_reducible refine (spec_ShoupOf.calls a0 a2 t104 true _ A5.out).mono ?_); rintro e w' ⟨rfl, ⟨nd, rfl⟩⟩; refine ⟨_, rfl, ?_⟩) | (go_at_call 25; (with_reducible refine (spec_l1In.calls a3 0 4294967295 false _ A8.out).mono ?_); rintro e w' ⟨rfl, ⟨nd, rfl⟩⟩))
        go_ret2
        exact ⟨by first | rfl | (simp; done) | (simp [*]; done), by repeat (first | exact Drawn0.refl _ | apply Drawn0.step)⟩
    · rw [if_neg c7] at H
      have c7b0 : (t104 == a1) = false := beq_eq_false_iff_ne.mpr c7
      have c7b1 : (t104 != a1) = true := bne_iff_ne.mpr c7
      simp only [Option.some.injEq, Prod.mk.injEq] at H
      obtain ⟨rfl, rfl⟩ := H
      go_enter Try.func12, Try.ntmps12
      go_wp2_with (first | ((with_reducible refine gate_callee (f := 10) rfl ?_); refine goesL_ (some 16) rfl rfl Try.func10 (by kernel_rfl) rfl #[.int .i64 a0, .int .i64 a2] rfl (by (try simp only [List.map_toArray, List.map_cons, List.map_nil]); first | done | rfl | (simp only [List.length_drop, List.length_take]; rfl)) ?_; (with_reducible refine (spec_ShoupOf.calls a0 a2 t104 true _ A5.out).mono ?_); rintro e w' ⟨rfl, ⟨nd, rfl⟩⟩; refine ⟨_, rfl, ?_⟩))
      go_ret2
      exact ⟨by first | rfl | (simp; done) | (simp [*]; done), by repeat (first | exact Drawn0.refl _ | apply Drawn0.step)⟩
  · replace c6 := Bool.eq_false_iff.mpr c6
    subst c6
    have H1 : (some (0, false)) = some (r1, r2) := by rw [if_neg (show ¬ (false = true) by decide)] at H; exact H
    clear H
    have H := H1
    clear H1
    simp only [Option.some.injEq, Prod.mk.injEq] at H
    obtain ⟨rfl, rfl⟩ := H
    go_enter Try.func12, Try.ntmps12
    go_wp2_with (first | ((with_reducible refine gate_callee (f := 10) rfl ?_); refine goesL_ (some 16) rfl rfl Try.func10 (by kernel_rfl) rfl #[.int .i64 a0, .int .i64 a2] rfl (by (try simp only [List.map_toArray, List.map_cons, List.map_nil]); first | done | rfl | (simp only [List.length_drop, List.length_take]; rfl)) ?_; (with_reducible refine (spec_ShoupOf.calls a0 a2 t104 false _ A5.out).mono ?_); rintro e w' ⟨rfl, ⟨nd, rfl⟩⟩; refine ⟨_, rfl, ?_⟩))
    go_ret2
    exact ⟨by first | rfl | (simp; done) | (simp [*]; done), by repeat (first | exact Drawn0.refl _ | apply Drawn0.step)⟩

/-! ### impl_in: function 27 -/
def impl_in.f (a0 : Int) (a1 : Int) (a2 : Int) : Option (Bool) := if a1 ≤ a0 then (some (decide (a0 ≤ a2))) else (some false)
set_option maxHeartbeats 8000000 in
set_option maxRecDepth 100000 in
theorem impl_in.calls (a0 : Int) (a1 : Int) (a2 : Int) (r : Bool) (w : World) (h : impl_in.f a0 a1 a2 = some r) :
    Calls Try.prog 27 #[.int .i64 a0, .int .i64 a1, .int .i64 a2] w fun e w' => e = .returned (.bool r) ∧ Drawn0 w w' := by
  have H : (if a1 ≤ a0 then (some (decide (a0 ≤ a2))) else (some false)) = some r := h
  clear h
  by_cases c4 : a1 ≤ a0
  · rw [if_pos c4] at H
    have c4b0 : decide (a1 ≤ a0) = true := decide_eq_true c4
    clear c4
    obtain rfl := Option.some.inj H
    go_enter Try.func27, Try.ntmps27
    go_wp2
    go_ret
    exact ⟨by first | rfl | (simp; done) | (simp [*]; done), by repeat (first | exact Drawn0.refl _ | apply Drawn0.step)⟩
  · rw [if_neg c4] at H
    have c4b0 : decide (a1 ≤ a0) = false := decide_eq_false c4
    clear c4
    obtain rfl := Option.some.inj H
    go_enter Try.func27, Try.ntmps27
    go_wp2
    go_ret
    exact ⟨by first | rfl | (simp; done) | (simp [*]; done), by repeat (first | exact Drawn0.refl _ | apply Drawn0.step)⟩

/-! ### impl_isModulus: function 26 -/
def impl_isModulus.f (a0 : Int) : Option (Bool) := (impl_in.f a0 2 268435456).bind fun t107 => (some t107)
set_option maxHeartbeats 8000000 in
set_option maxRecDepth 100000 in
theorem impl_isModulus.calls (a0 : Int) (r : Bool) (w : World) (h : impl_isModulus.f a0 = some r) :
    Calls Try.prog 26 #[.int .i64 a0] w fun e w' => e = .returned (.bool r) ∧ Drawn0 w w' := by
  have H : ((impl_in.f a0 2 268435456).bind fun t107 => (some t107)) = some r := h
  clear h
  replace H := Option.bind_eq_some_iff.mp H
  obtain ⟨t107, A20, H⟩ := H
  replace H : (some t107) = some r := H
  have A2 := Aside0.mk A20
  clear A20
  obtain rfl := Option.some.inj H
  go_enter Try.func26, Try.ntmps26
  go_wp2_with (first | ((with_reducible refine gate_callee (f := 27) rfl ?_); refine goesL_ (some 4) rfl rfl Try.func27 (by kernel_rfl) rfl #[.int .i64 a0, .int .i64 2, .int .i64 268435456] rfl (by (try simp only [List.map_toArray, List.map_cons, List.map_nil]); first | done | rfl | (simp only [List.length_drop, List.length_take]; rfl)) ?_; (with_reducible refine (impl_in.calls a0 2 268435456 t107 _ A2.out).mono ?_); rintro e w' ⟨rfl, ⟨nd, rfl⟩⟩; refine ⟨_, rfl, ?_⟩))
  go_ret
  exact ⟨by first | rfl | (simp; done) | (simp [*]; done), by repeat (first | exact Drawn0.refl _ | apply Drawn0.step)⟩

/-! ### impl_shoup: function 28 -/
def impl_shoup.f (a0 : Int) (a1 : Int) : Option (Int) := if a1 = 0 then (none) else (some (wrap64 (Int.tdiv (wrap64 (a0 * 4294967296)) a1)))
set_option maxHeartbeats 8000000 in
set_option maxRecDepth 100000 in
theorem impl_shoup.calls (a0 : Int) (a1 : Int) (r : Int) (w : World) (h : impl_shoup.f a0 a1 = some r) :
    Calls Try.prog 28 #[.int .i64 a0, .int .i64 a1] w fun e w' => e = .returned (.int .i64 r) ∧ Drawn0 w w' := by
  have H : (if a1 = 0 then (none) else (some (wrap64 (Int.tdiv (wrap64 (a0 * 4294967296)) a1)))) = some r := h
  clear h
  by_cases c3 : a1 = 0
  · rw [if_pos c3] at H
    exact absurd H (by simp)
  · rw [if_neg c3] at H
    have c3b0 : (a1 == 0) = false := beq_eq_false_iff_ne.mpr c3
    have c3b1 : (a1 != 0) = true := bne_iff_ne.mpr c3
    obtain rfl := Option.some.inj H
    go_enter Try.func28, Try.ntmps28
    go_wp2
    go_ret
    exact ⟨by first | rfl | (simp; done) | (simp [*]; done), by repeat (first | exact Drawn0.refl _ | apply Drawn0.step)⟩

/-! ### impl_ShoupMul: function 13 -/
def impl_ShoupMul.f (a0 : Int) (a1 : Int) (a2 : Int) (a3 : Int) : Option (Int × Bool) := (impl_isModulus.f a2).bind fun t108 => (if t108 = true then ((impl_in.f a0 0 (wrap64 (a2 - 1))).bind fun t109 => (if t109 = true then ((impl_shoup.f a0 a2).bind fun t110 => (if a1 = t110 then ((impl_in.f a3 0 4294967295).bind fun t111 => (if t111 = true then (some (wrap64 ((wrap64 (a0 * a3)) - (wrap64 ((wrap64 ((IntKind.u64.wrap ((IntKind.u64.wrap (a1)) * (IntKind.u64.wrap (a3)))) / 4294967296)) * a2))), true)) else (some (0, false)))) else (some (0, false)))) else (some (0, false)))) else (some (0, false)))
set_option maxHeartbeats 8000000 in
set_option maxRecDepth 100000 in
theorem impl_ShoupMul.calls (a0 : Int) (a1 : Int) (a2 : Int) (a3 : Int) (r1 : Int) (r2 : Bool) (w : World) (h : impl_ShoupMul.f a0 a1 a2 a3 = some (r1, r2)) :
    Calls Try.prog 13 #[.int .i64 a0, .int .i64 a1, .int .i64 a2, .int .i64 a3] w fun e w' => e = .returned (.tuple #[.int .i64 r1, .bool r2]) ∧ Drawn0 w w' := by
  have H : ((impl_isModulus.f a2).bind fun t108 => (if t108 = true then ((impl_in.f a0 0 (wrap64 (a2 - 1))).bind fun t109 => (if t109 = true then ((impl_shoup.f a0 a2).bind fun t110 => (if a1 = t110 then ((impl_in.f a3 0 4294967295).bind fun t111 => (if t111 = true then (some (wrap64 ((wrap64 (a0 * a3)) - (wrap64 ((wrap64 ((IntKind.u64.wrap ((IntKind.u64.wrap (a1)) * (IntKind.u64.wrap (a3)))) / 4294967296)) * a2))), true)) else (some (0, false)))) else (some (0, false)))) else (some (0, false)))) else (some (0, false)))) = some (r1, r2) := h
  clear h
  replace H := Option.bind_eq_some_iff.mp H
  obtain ⟨t108, A50, H⟩ := H
  replace H : (if t108 = true then ((impl_in.f a0 0 (wrap64 (a2 - 1))).bind fun t109 => (if t109 = true then ((impl_shoup.f a0 a2).bind fun t110 => (if a1 = t110 then ((impl_in.f a3 0 4294967295).bind fun t111 => (if t111 = true then (some (wrap64 ((wrap64 (a0 * a3)) - (wrap64 ((wrap64 ((IntKind.u64.wrap ((IntKind.u64.wrap (a1)) * (IntKind.u64.wrap (a3)))) / 4294967296)) * a2))), true)) else (some (0, false)))) else (some (0, false)))) else (some (0, false)))) else (some (0, false))) = some (r1, r2) := H
  have A5 := Aside0.mk A50
  clear A50
  by_cases c6 : t108 = true
  · subst c6
    have H1 : ((impl_in.f a0 0 (wrap64 (a2 - 1))).bind fun t109 => (if t109 = true then ((impl_shoup.f a0 a2).bind fun t110 => (if a1 = t110 then ((impl_in.f a3 0 4294967295).bind fun t111 => (if t111 = true then (some (wrap64 ((wrap64 (a0 * a3)) - (wrap64 ((wrap64 ((IntKind.u64.wrap ((IntKind.u64.wrap (a1)) * (IntKind.u64.wrap (a3)))) / 4294967296)) * a2))), true)) else (some (0, false)))) else (some (0, false)))) else (some (0, false)))) = some (r1, r2) := by rw [if_pos rfl] at H; exact H
    clear H
    have H := H1
    clear H1
    replace H := Option.bind_eq_some_iff.mp H
    obtain ⟨t109, A70, H⟩ := H
    replace H : (if t109 = true then ((impl_shoup.f a0 a2).bind fun t110 => (if a1 = t110 then ((impl_in.f a3 0 4294967295).bind fun t111 => (if t111 = true then (some (wrap64 ((wrap64 (a0 * a3)) - (wrap64 ((wrap64 ((IntKind.u64.wrap ((IntKind.u64.wrap (a1)) * (IntKind.u64.wrap (a3)))) / 4294967296)) * a2))), true)) else (some (0, false)))) else (some (0, false)))) else (some (0, false))) = some (r1, r2) := H
    have A7 := Aside0.mk A70
    clear A70
    by_cases c8 : t109 = true
    · subst c8
      have H1 : ((impl_shoup.f a0 a2).bind fun t110 => (if a1 = t110 then ((impl_in.f a3 0 4294967295).bind fun t111 => (if t111 = true then (some (wrap64 ((wrap64 (a0 * a3)) - (wrap64 ((wrap64 ((IntKind.u64.wrap ((IntKind.u64.wrap (a1)) * (IntKind.u64.wrap (a3)))) / 4294967296)) * a2))), true)) else (some (0, false)))) else (some (0, false)))) = some (r1, r2) := by rw [if_pos rfl] at H; exact H
      clear H
      have H := H1
      clear H1
      replace H := Option.bind_eq_some_iff.mp H
      obtain ⟨t110, A90, H⟩ := H
      replace H : (if a1 = t110 then ((impl_in.f a3 0 4294967295).bind fun t111 => (if t111 = true then (some (wrap64 ((wrap64 (a0 * a3)) - (wrap64 ((wrap64 ((IntKind.u64.wrap ((IntKind.u64.wrap (a1)) * (IntKind.u64.wrap (a3)))) / 4294967296)) * a2))), true)) else (some (0, false)))) else (some (0, false))) = some (r1, r2) := H
      have A9 := Aside0.mk A90
      clear A90
      by_cases c10 : a1 = t110
      · rw [if_pos c10] at H
        have c10b0 : (a1 == t110) = true := beq_iff_eq.mpr c10
        have c10b1 : (a1 != t110) = false := bne_eq_false_iff_eq.mpr c10
        clear c10
        replace H := Option.bind_eq_some_iff.mp H
        obtain ⟨t111, A110, H⟩ := H
        replace H : (if t111 = true then (some (wrap64 ((wrap64 (a0 * a3)) - (wrap64 ((wrap64 ((IntKind.u64.wrap ((IntKind.u64.wrap (a1)) * (IntKind.u64.wrap (a3)))) / 4294967296)) * a2))), true)) else (some (0, false))) = some (r1, r2) := H
        have A11 := Aside0.mk A110
        clear A110
        by_cases c12 : t111 = true
        · subst c12
          have H1 : (some (wrap64 ((wrap64 (a0 * a3)) - (wrap64 ((wrap64 ((IntKind.u64.wrap ((IntKind.u64.wrap (a1)) * (IntKind.u64.wrap (a3)))) / 4294967296)) * a2))), true)) = some (r1, r2) := by rw [if_pos rfl] at H; exact H
          clear H
          have H := H1
          clear H1
          simp only [Option.some.injEq, Prod.mk.injEq] at H
          obtain ⟨rfl, rfl⟩ := H
          go_enter Try.func13, Try.ntmps13
          go_wp2_with (first | ((with_reducible refine gate_callee (f := 26) rfl ?_); refine goesL_ (some 11) rfl rfl Try.func26 (by kernel_rfl) rfl #[.int .i64 a2] rfl (by (try simp only [List.map_toArray, List.map_cons, List.map_nil]); first | done | rfl | (simp only [List.length_drop, List.length_take]; rfl)) ?_; (with_reducible refine (impl_isModulus.calls a2 true _ A5.out).mono ?_); rintro e w' ⟨rfl, ⟨nd, rfl⟩⟩; refine ⟨_, rfl, ?_⟩) | (go_at_call 27; (with_reducible refine (impl_in.calls a0 0 (wrap64 (a2 - 1)) true _ A7.out).mono ?_); rintro e w' ⟨rfl, ⟨nd, rfl⟩⟩) | (go_at_call 28; (with_reducible refine (impl_shoup.calls a0 a2 t110 _ A9.out).mono ?_); rintro e w' ⟨rfl, ⟨nd, rfl⟩⟩) | (go_at_call 27; (with_reducible refine (impl_in.calls a3 0 4294967295 true _ A11.out).mono ?_); rintro e w' ⟨rfl, ⟨nd, rfl⟩⟩))
          go_ret2
          exact ⟨by first | rfl | (simp; done) | (simp [*]; done), by repeat (first | exact Drawn0.refl _ | apply Drawn0.step)⟩
        · replace c12 := Bool.eq_false_iff.mpr c12
          subst c12
          have H1 : (some (0, false)) = some (r1, r2) := by rw [if_neg (show ¬ (false = true) by decide)] at H; exact H
          clear H
          have H := H1
          clear H1
          simp only [Option.some.injEq, Prod.mk.injEq] at H
          obtain ⟨rfl, rfl⟩ := H
          go_enter Try.func13, Try.ntmps13
          go_wp2_with (first | ((with_reducible refine gate_callee (f := 26) rfl ?_); refine goesL_ (some 11) rfl rfl Try.func26 (by kernel_rfl) rfl #[.int .i64 a2] rfl (by (try simp only [List.map_toArray, List.map_cons, List.map_nil]); first | done | rfl | (simp only [List.length_drop, List.length_take]; rfl)) ?_; (with_reducible refine (impl_isModulus.calls a2 true _ A5.out).mono ?_); rintro e w' ⟨rfl, ⟨nd, rfl⟩⟩; refine ⟨_, rfl, ?_⟩) | (go_at_call 27; (with_reducible refine (impl_in.calls a0 0 (wrap64 (a2 - 1)) true _ A7.out).mono ?_); rintro e w' ⟨rfl, ⟨nd, rfl⟩⟩) | (go_at_call 28; (with_reducible refine (impl_shoup.calls a0 a2 t110 _ A9.out).mono ?_); rintro e w' ⟨rfl, ⟨nd, rfl⟩⟩) | (go_at_call 27; (with_reducible refine (impl_in.calls a3 0 4294967295 false _ A11.out).mono ?_); rintro e w' ⟨rfl, ⟨nd, rfl⟩⟩))
          go_ret2
          exact ⟨by first | rfl | (simp; done) | (simp [*]; done), by repeat (first | exact Drawn0.refl _ | apply Drawn0.step)⟩
      · rw [if_neg c10] at H
        have c10b0 : (a1 == t110) = false := beq_eq_false_iff_ne.mpr c10
        have c10b1 : (a1 != t110) = true := bne_iff_ne.mpr c10
        simp only [Option.some.injEq, Prod.mk.injEq] at H
        obtain ⟨rfl, rfl⟩ := H
        go_enter Try.func13, Try.ntmps13
        go_wp2_with (first | ((with_reducible refine gate_callee (f := 26) rfl ?_); refine goesL_ (some 11) rfl rfl Try.func26 (by kernel_rfl) rfl #[.int .i64 a2] rfl (by (try simp only [List.map_toArray, List.map_cons, List.map_nil]); first | done | rfl | (simp only [List.length_drop, List.length_take]; rfl)) ?_; (with_reducible refine (impl_isModulus.calls a2 true _ A5.out).mono ?_); rintro e w' ⟨rfl, ⟨nd, rfl⟩⟩; refine ⟨_, rfl, ?_⟩) | (go_at_call 27; (with_reducible refine (impl_in.calls a0 0 (wrap64 (a2 - 1)) true _ A7.out).mono ?_); rintro e w' ⟨rfl, ⟨nd, rfl⟩⟩) | (go_at_call 28; (with_reducible refine (impl_shoup.calls a0 a2 t110 _ A9.out).mono ?_); rintro e w' ⟨rfl, ⟨nd, rfl⟩⟩))
        go_ret2
        exact ⟨by first | rfl | (simp; done) | (simp [*]; done), by repeat (first | exact Drawn0.refl _ | apply Drawn0.step)⟩
    · replace c8 := Bool.eq_false_iff.mpr c8
      subst c8
      have H1 : (some (0, false)) = some (r1, r2) := by rw [if_neg (show ¬ (false = true) by decide)] at H; exact H
      clear H
      have H := H1
      clear H1
      simp only [Option.some.injEq, Prod.mk.injEq] at H
      obtain ⟨rfl, rfl⟩ := H
      go_enter Try.func13, Try.ntmps13
      go_wp2_with (first | ((with_reducible refine gate_callee (f := 26) rfl ?_); refine goesL_ (some 11) rfl rfl Try.func26 (by kernel_rfl) rfl #[.int .i64 a2] rfl (by (try simp only [List.map_toArray, List.map_cons, List.map_nil]); first | done | rfl | (simp only [List.length_drop, List.length_take]; rfl)) ?_; (with_reducible refine (impl_isModulus.calls a2 true _ A5.out).mono ?_); rintro e w' ⟨rfl, ⟨nd, rfl⟩⟩; refine ⟨_, rfl, ?_⟩) | (go_at_call 27; (with_reducible refine (impl_in.calls a0 0 (wrap64 (a2 - 1)) false _ A7.out).mono ?_); rintro e w' ⟨rfl, ⟨nd, rfl⟩⟩))
      go_ret2
      exact ⟨by first | rfl | (simp; done) | (simp [*]; done), by repeat (first | exact Drawn0.refl _ | apply Drawn0.step)⟩
  · replace c6 := Bool.eq_false_iff.mpr c6
    subst c6
    have H1 : (some (0, false)) = some (r1, r2) := by rw [if_neg (show ¬ (false = true) by decide)] at H; exact H
    clear H
    have H := H1
    clear H1
    simp only [Option.some.injEq, Prod.mk.injEq] at H
    obtain ⟨rfl, rfl⟩ := H
    go_enter Try.func13, Try.ntmps13
    go_wp2_with (first | ((with_reducible refine gate_callee (f := 26) rfl ?_); refine goesL_ (some 11) rfl rfl Try.func26 (by kernel_rfl) rfl #[.int .i64 a2] rfl (by (try simp only [List.map_toArray, List.map_cons, List.map_nil]); first | done | rfl | (simp only [List.length_drop, List.length_take]; rfl)) ?_; (with_reducible refine (impl_isModulus.calls a2 false _ A5.out).mono ?_); rintro e w' ⟨rfl, ⟨nd, rfl⟩⟩; refine ⟨_, rfl, ?_⟩))
    go_ret2
    exact ⟨by first | rfl | (simp; done) | (simp [*]; done), by repeat (first | exact Drawn0.refl _ | apply Drawn0.step)⟩

/-! ### laws_FnExactShoupMul: function 5 -/
def laws_FnExactShoupMul.f (a0 : Int) (a1 : Int) (a2 : Int) (a3 : Int) : Option (Bool) := (spec_ShoupMul.f a0 a1 a2 a3).bind fun bt112 => ((impl_ShoupMul.f a0 a1 a2 a3).bind fun bt114 => (if bt114.1 = bt112.1 then (if (bt114.2 != bt112.2) = true then (some false) else (some true)) else (some false)))
set_option maxHeartbeats 8000000 in
set_option maxRecDepth 100000 in
theorem laws_FnExactShoupMul.calls (a0 : Int) (a1 : Int) (a2 : Int) (a3 : Int) (r : Bool) (w : World) (h : laws_FnExactShoupMul.f a0 a1 a2 a3 = some r) :
    Calls Try.prog 5 #[.int .i64 a0, .int .i64 a1, .int .i64 a2, .int .i64 a3] w fun e w' => e = .returned (.bool r) ∧ Drawn0 w w' := by
  have H : ((spec_ShoupMul.f a0 a1 a2 a3).bind fun bt112 => ((impl_ShoupMul.f a0 a1 a2 a3).bind fun bt114 => (if bt114.1 = bt112.1 then (if (bt114.2 != bt112.2) = true then (some false) else (some true)) else (some false)))) = some r := h
  clear h
  replace H := Option.bind_eq_some_iff.mp H
  obtain ⟨⟨t112, t113⟩, A50, H⟩ := H
  replace H : ((impl_ShoupMul.f a0 a1 a2 a3).bind fun bt114 => (if bt114.1 = t112 then (if (bt114.2 != t113) = true then (some false) else (some true)) else (some false))) = some r := H
  have A5 := Aside0.mk A50
  clear A50
  replace H := Option.bind_eq_some_iff.mp H
  obtain ⟨⟨t114, t115⟩, A60, H⟩ := H
  replace H : (if t114 = t112 then (if (t115 != t113) = true then (some false) else (some true)) else (some false)) = some r := H
  have A6 := Aside0.mk A60
  clear A60
  by_cases c7 : t114 = t112
  · rw [if_pos c7] at H
    have c7b0 : (t114 == t112) = true := beq_iff_eq.mpr c7
    have c7b1 : (t114 != t112) = false := bne_eq_false_iff_eq.mpr c7
    clear c7
    by_cases c8 : (t115 != t113) = true
    · rw [if_pos c8] at H
      have c8b0 : (t115 != t113) = true := c8
      (try (have c8b1 : decide (t115 = t113) = false := by simpa using c8))
      (try (have c8b2 : (t115 == t113) = false := by simpa using c8))
      (try (have c8b3 : ¬ (t115 = t113) := by simpa using c8))
      clear c8
      obtain rfl := Option.some.inj H
      go_enter Try.func5, Try.ntmps5
      go_wp2_with (first | ((with_reducible refine gate_callee (f := 12) rfl ?_); refine goesL_ (some 18) rfl rfl Try.func12 (by kernel_rfl) rfl #[.int .i64 a0, .int .i64 a1, .int .i64 a2, .int .i64 a3] rfl (by (try simp only [List.map_toArray, List.map_cons, List.map_nil]); first | done | rfl | (simp only [List.length_drop, List.length_take]; rfl)) ?_; (with_reducible refine (spec_ShoupMul.calls a0 a1 a2 a3 t112 t113 _ A5.out).mono ?_); rintro e w' ⟨rfl, ⟨nd, rfl⟩⟩; refine ⟨_, rfl, ?_⟩) | ((with_reducible refine gate_callee (f := 13) rfl ?_); refine goesL_ (some 26) rfl rfl Try.func13 (by kernel_rfl) rfl #[.int .i64 a0, .int .i64 a1, .int .i64 a2, .int .i64 a3] rfl (by (try simp only [List.map_toArray, List.map_cons, List.map_nil]); first | done | rfl | (simp only [List.length_drop, List.length_take]; rfl)) ?_; (with_reducible refine (impl_ShoupMul.calls a0 a1 a2 a3 t114 t115 _ A6.out).mono ?_); rintro e w' ⟨rfl, ⟨nd, rfl⟩⟩; refine ⟨_, rfl, ?_⟩))
      go_ret
      exact ⟨by first | rfl | (simp; done) | (simp [*]; done), by repeat (first | exact Drawn0.refl _ | apply Drawn0.step)⟩
    · rw [if_neg c8] at H
      have c8b0 : (t115 != t113) = false := by simpa using c8
      (try (have c8b1 : decide (t115 = t113) = true := by simpa using c8))
      (try (have c8b2 : (t115 == t113) = true := by simpa using c8))
      clear c8
      obtain rfl := Option.some.inj H
      go_enter Try.func5, Try.ntmps5
      go_wp2_with (first | ((with_reducible refine gate_callee (f := 12) rfl ?_); refine goesL_ (some 18) rfl rfl Try.func12 (by kernel_rfl) rfl #[.int .i64 a0, .int .i64 a1, .int .i64 a2, .int .i64 a3] rfl (by (try simp only [List.map_toArray, List.map_cons, List.map_nil]); first | done | rfl | (simp only [List.length_drop, List.length_take]; rfl)) ?_; (with_reducible refine (spec_ShoupMul.calls a0 a1 a2 a3 t112 t113 _ A5.out).mono ?_); rintro e w' ⟨rfl, ⟨nd, rfl⟩⟩; refine ⟨_, rfl, ?_⟩) | ((with_reducible refine gate_callee (f := 13) rfl ?_); refine goesL_ (some 26) rfl rfl Try.func13 (by kernel_rfl) rfl #[.int .i64 a0, .int .i64 a1, .int .i64 a2, .int .i64 a3] rfl (by (try simp only [List.map_toArray, List.map_cons, List.map_nil]); first | done | rfl | (simp only [List.length_drop, List.length_take]; rfl)) ?_; (with_reducible refine (impl_ShoupMul.calls a0 a1 a2 a3 t114 t115 _ A6.out).mono ?_); rintro e w' ⟨rfl, ⟨nd, rfl⟩⟩; refine ⟨_, rfl, ?_⟩))
      go_ret
      exact ⟨by first | rfl | (simp; done) | (simp [*]; done), by repeat (first | exact Drawn0.refl _ | apply Drawn0.step)⟩
  · rw [if_neg c7] at H
    have c7b0 : (t114 == t112) = false := beq_eq_false_iff_ne.mpr c7
    have c7b1 : (t114 != t112) = true := bne_iff_ne.mpr c7
    obtain rfl := Option.some.inj H
    go_enter Try.func5, Try.ntmps5
    go_wp2_with (first | ((with_reducible refine gate_callee (f := 12) rfl ?_); refine goesL_ (some 18) rfl rfl Try.func12 (by kernel_rfl) rfl #[.int .i64 a0, .int .i64 a1, .int .i64 a2, .int .i64 a3] rfl (by (try simp only [List.map_toArray, List.map_cons, List.map_nil]); first | done | rfl | (simp only [List.length_drop, List.length_take]; rfl)) ?_; (with_reducible refine (spec_ShoupMul.calls a0 a1 a2 a3 t112 t113 _ A5.out).mono ?_); rintro e w' ⟨rfl, ⟨nd, rfl⟩⟩; refine ⟨_, rfl, ?_⟩) | ((with_reducible refine gate_callee (f := 13) rfl ?_); refine goesL_ (some 26) rfl rfl Try.func13 (by kernel_rfl) rfl #[.int .i64 a0, .int .i64 a1, .int .i64 a2, .int .i64 a3] rfl (by (try simp only [List.map_toArray, List.map_cons, List.map_nil]); first | done | rfl | (simp only [List.length_drop, List.length_take]; rfl)) ?_; (with_reducible refine (impl_ShoupMul.calls a0 a1 a2 a3 t114 t115 _ A6.out).mono ?_); rintro e w' ⟨rfl, ⟨nd, rfl⟩⟩; refine ⟨_, rfl, ?_⟩))
    go_ret
    exact ⟨by first | rfl | (simp; done) | (simp [*]; done), by repeat (first | exact Drawn0.refl _ | apply Drawn0.step)⟩

/-- THE ONE PURE STATEMENT of laws_FnExactShoupMul: yours. -/
def laws_FnExactShoupMul.Pure : Prop := ∀ (a0 : Int) (a1 : Int) (a2 : Int) (a3 : Int), (Lit.int .i64 a0).wf = true → (Lit.int .i64 a1).wf = true → (Lit.int .i64 a2).wf = true → (Lit.int .i64 a3).wf = true → laws_FnExactShoupMul.f a0 a1 a2 a3 = some true
theorem laws_FnExactShoupMul.walk (P : laws_FnExactShoupMul.Pure) (a0 : Int) (a1 : Int) (a2 : Int) (a3 : Int) (w : World) (w0 : (Lit.int .i64 a0).wf = true) (w1 : (Lit.int .i64 a1).wf = true) (w2 : (Lit.int .i64 a2).wf = true) (w3 : (Lit.int .i64 a3).wf = true) :
    Calls Try.prog 5 #[.int .i64 a0, .int .i64 a1, .int .i64 a2, .int .i64 a3] w fun e w' => e = .returned (.bool true) ∧ Below w.heap.size w w' := by
  have h := P a0 a1 a2 a3 w0 w1 w2 w3
  refine (laws_FnExactShoupMul.calls a0 a1 a2 a3 true w h).mono ?_
  rintro e w' ⟨rfl, hd⟩
  exact ⟨rfl, hd.below⟩

end Go.Proofs.Ytpekleahjjjddaa.PFnExactShoupMul

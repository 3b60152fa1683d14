/- Rings: both sides. -/
import Derived.Test.YthanbjnpfenniaaDoorPRing0
import Derived.Test.YthanbjnpfenniaaDoorPRoot
namespace Go.Proofs.YthanbjnpfenniaaDoor.Fw
open Go Go.RowKit
set_option linter.unusedVariables false

theorem ringOf_both (p m : Int) : ∃ r : (Int × Int × Int) × Bool, (r.2 = true → r.1.1 = p ∧ r.1.2.1 = m ∧ RingB p m r.1.2.2) ∧ (primeB p = true → powB m 2 16 = true → (p - 1) % (2 * m) = 0 → r.2 = true) ∧
    ∀ n, Big + 9 ≤ n → c_impl_RingOf (run tb orc n) p m = some r ∧ c_spec_RingOf (run tb orc n) p m = some r := by
  by_cases hp : primeB p = true
  · obtain ⟨⟨hp2, hpl⟩, hI⟩ := primeB_iff.1 hp
    by_cases hw : powB m 2 16 = true
    · have hc := powB_16 hw
      have w2 : wr .i64 (2 * m) = 2 * m := w64 (by omega) (by omega)
      have wp : wr .i64 (p - 1) = p - 1 := w64 (by omega) (by omega)
      have nz : ¬ (2 * m = 0) := by omega
      obtain ⟨h, hm, h1, hh⟩ : ∃ h : Nat, m = (h : Int) ∧ 1 ≤ h ∧ h ≤ 32 := ⟨m.toNat, by omega, by omega, by omega⟩
      by_cases hd : (p - 1) % (2 * m) = 0
      · subst hm
        obtain ⟨v, hok, hv⟩ := root_both hp h1 hh hd
        refine ⟨((p, (h : Int), v), true), fun _ => ⟨rfl, rfl, hp, hc, hw, hd, hok⟩, fun _ _ _ => rfl, fun n hn => ?_⟩
        obtain ⟨n, rfl, hq⟩ := up hn
        obtain ⟨v1, v2⟩ := hv n (by omega)
        constructor
        · rw [impl_RingOf_eq]; unfold impl_RingOf_f impl_RingOf_x
          rw [isPrimeModulus_ret (by omega), hp]
          simp only [Option.bind_some]
          rw [if_neg (by simp), isN_ret (by omega), hw]
          simp only [Option.bind_some]
          rw [if_neg (by simp), w2, if_neg nz, wp, tmod_nn (by omega), if_pos hd, v1]; rfl
        · rw [spec_RingOf_eq]; unfold spec_RingOf_f spec_RingOf_x
          rw [l1Modulus_ret (by omega), show modB p = true from modB_iff.2 ⟨hp2, hpl⟩]
          simp only [Option.bind_some]
          rw [if_neg (by simp), l3Size_ret (by omega), hw]
          simp only [Option.bind_some]
          rw [if_neg (by simp), wu64 (by omega) (by omega), isPrime_s (by omega) (by omega) (by omega), hI]
          simp only [Option.bind_some]
          rw [if_neg (by simp), w2, if_neg nz, wp, tmod_nn (by omega), if_pos hd, v2]; rfl
      · refine ⟨((0, 0, 0), false), fun h => by (cases h), fun _ _ h => absurd h hd, fun n hn => ?_⟩
        obtain ⟨n, rfl, hq⟩ := up hn
        constructor
        · rw [impl_RingOf_eq]; unfold impl_RingOf_f impl_RingOf_x
          rw [isPrimeModulus_ret (by omega), hp]
          simp only [Option.bind_some]
          rw [if_neg (by simp), isN_ret (by omega), hw]
          simp only [Option.bind_some]
          rw [if_neg (by simp), w2, if_neg nz, wp, tmod_nn (by omega), if_neg hd]
        · rw [spec_RingOf_eq]; unfold spec_RingOf_f spec_RingOf_x
          rw [l1Modulus_ret (by omega), show modB p = true from modB_iff.2 ⟨hp2, hpl⟩]
          simp only [Option.bind_some]
          rw [if_neg (by simp), l3Size_ret (by omega), hw]
          simp only [Option.bind_some]
          rw [if_neg (by simp), wu64 (by omega) (by omega), isPrime_s (by omega) (by omega) (by omega), hI]
          simp only [Option.bind_some]
          rw [if_neg (by simp), w2, if_neg nz, wp, tmod_nn (by omega), if_neg hd]
    · have hw' : powB m 2 16 = false := by simpa using hw
      refine ⟨((0, 0, 0), false), fun h => by (cases h), fun _ h => absurd h hw, fun n hn => ?_⟩
      obtain ⟨n, rfl, hq⟩ := up hn
      constructor
      · rw [impl_RingOf_eq]; unfold impl_RingOf_f impl_RingOf_x
        rw [isPrimeModulus_ret (by omega), hp]
        simp only [Option.bind_some]
        rw [if_neg (by simp), isN_ret (by omega), hw']; rfl
      · rw [spec_RingOf_eq]; unfold spec_RingOf_f spec_RingOf_x
        rw [l1Modulus_ret (by omega), show modB p = true from modB_iff.2 ⟨hp2, hpl⟩]
        simp only [Option.bind_some]
        rw [if_neg (by simp), l3Size_ret (by omega), hw']; rfl
  · have hp0 : primeB p = false := by simpa using hp
    refine ⟨((0, 0, 0), false), fun h => by (cases h), fun h => absurd h hp, fun n hn => ?_⟩
    obtain ⟨n, rfl, hq⟩ := up hn
    constructor
    · rw [impl_RingOf_eq]; unfold impl_RingOf_f impl_RingOf_x
      rw [isPrimeModulus_ret (by omega), hp0]; rfl
    · rw [spec_RingOf_eq]; unfold spec_RingOf_f spec_RingOf_x
      rw [l1Modulus_ret (by omega)]
      simp only [Option.bind_some]
      cases hm : modB p with
      | false => rfl
      | true =>
        obtain ⟨m1, m2⟩ := modB_iff.1 hm
        have hI : isPI p = false := by
          unfold primeB at hp0
          rw [hm, Bool.true_and] at hp0; exact hp0
        rw [if_neg (by simp), l3Size_ret (by omega)]
        simp only [Option.bind_some]
        cases powB m 2 16 with
        | false => rfl
        | true => rw [if_neg (by simp), wu64 (by omega) (by omega), isPrime_s (by omega) (by omega) (by omega), hI]; rfl
/-- Whether a ring is good: both sides. -/
theorem isRing_both (p m v : Int) : ∃ b : Bool, (b = true → RingB p m v) ∧ ∀ n, Big + 10 ≤ n → c_impl_isRing (run tb orc n) p m v = some b ∧ c_spec_l3Ring (run tb orc n) p m v = some b := by
  obtain ⟨r, h1, _, h2⟩ := ringOf_both p m
  refine ⟨if r.2 = true then ((r.1.1 == p) && ((r.1.2.1 == m) && ((r.1.2.2 == v) && true))) else false, fun h => ?_, fun n hn => ?_⟩
  · by_cases c : r.2 = true
    · rw [if_pos c] at h
      simp only [Bool.and_eq_true, beq_iff_eq] at h
      have := (h1 c).2.2
      rwa [h.2.2.1] at this
    · rw [if_neg c] at h; cases h
  · obtain ⟨n, rfl, hq⟩ := up hn
    obtain ⟨e1, e2⟩ := h2 n (by omega)
    constructor
    · rw [impl_isRing_eq]; unfold impl_isRing_f impl_isRing_x
      rw [e1]
      simp only [Option.bind_some]
      by_cases c : r.2 = true
      · rw [if_pos c, if_pos c]
      · rw [if_neg c, if_neg c]
    · rw [spec_l3Ring_eq]; unfold spec_l3Ring_f spec_l3Ring_x
      rw [e2]
      simp only [Option.bind_some]
      by_cases c : r.2 = true
      · rw [if_pos c, if_pos c]
      · rw [if_neg c, if_neg c]
end Go.Proofs.YthanbjnpfenniaaDoor.Fw

/- MulEach: both sides. -/
import Derived.Test.YtnbaahpbmhhofaaDoorPEach
import Derived.Test.YtnbaahpbmhhofaaDoorPRing
import Derived.Test.YtnbaahpbmhhofaaDoorEqLMulEach
namespace Go.Proofs.YtnbaahpbmhhofaaDoor.Fw
open Go Go.RowKit
set_option linter.unusedVariables false

theorem ring_m {p m v : Int} (h : RingB p m v) : ∃ k : Nat, m = (k : Int) ∧ k ≤ 16 := by
  have := h.n
  exact ⟨m.toNat, by omega, by omega⟩
theorem RingB.rng {p m v : Int} (h : RingB p m v) : 2 ≤ p ∧ p ≤ 268435456 := (primeB_iff.1 h.pr).1
theorem mulEach_s {n : Nat} {C : Ca tb} (hn : Big ≤ n) {p m v : Int} (hp : 2 ≤ p) (hp' : p ≤ 268435456) {a b : List Int} (ha : PolyOK p m a) (hb : PolyOK p m b) (hm : m ≤ 16) : iterO (spec_MulEach_g1 C n p m v a b) n (0, []) = some (eachP p a b, true) := by
  have hbig := big_ge
  have l1 := ha.len; have l2 := hb.len
  refine (map_idx (fun i out => (i, out)) (fun i => a.getD i 0 * b.getD i 0 % p) (fun out => some (out, true)) (len := a.length) (G := spec_MulEach_g1 C n p m v a b) (fun self i out hi ho => ?_) (fun self out ho => ?_) a.length 0 [] (by omega) rfl n (by omega)).trans rfl
  · show spec_MulEach_x1 _ _ _ _ _ _ _ _ = _
    unfold spec_MulEach_x1
    dsimp only
    obtain ⟨q1, q2⟩ := small_mul hp' (ha.rng i (by omega)) (hb.rng i (by omega))
    rw [if_pos (by omega), if_pos (by omega), if_pos (by omega), if_pos (by omega), if_pos (by omega), if_neg (by omega), if_pos (by rw [List.length_singleton]; exact lim_lt (by omega)), nat_i, w64 (by omega) (by omega), w64 (by omega) (by omega), tmod_nn q1, ni1]
  · show spec_MulEach_x1 _ _ _ _ _ _ _ _ = _
    unfold spec_MulEach_x1
    dsimp only
    rw [if_neg (by omega)]
theorem mulEach_both (p m v : Int) (a b : List Int) (ha : a.length < 1099511627776) (hb : b.length < 1099511627776) : ∃ r : List Int × Bool, r.1.length ≤ 16 ∧ ∀ n, Big + 12 ≤ n → c_impl_MulEach (run tb orc n) p m v a b = some r ∧ c_spec_MulEach (run tb orc n) p m v a b = some r := by
  obtain ⟨t, h1, h2⟩ := isRing_both p m v
  cases t with
  | false =>
    refine ⟨([], false), by simp, fun n hn => ?_⟩
    obtain ⟨n, rfl, hq⟩ := up hn
    obtain ⟨e1, e2⟩ := h2 n (by omega)
    rw [impl_MulEach_eq, spec_MulEach_eq]; unfold impl_MulEach_f impl_MulEach_x spec_MulEach_f spec_MulEach_x
    rw [e1, e2]
    exact ⟨rfl, rfl⟩
  | true =>
    have hR := h1 rfl
    obtain ⟨g1, g2⟩ := hR.rng
    have g3 : m ≤ 16 := by have := hR.n; omega
    refine ⟨if polyB p m a = true then (if polyB p m b = true then (eachP p a b, true) else ([], false)) else ([], false), ?_, fun n hn => ?_⟩
    · by_cases c : polyB p m a = true
      · rw [if_pos c]
        by_cases d : polyB p m b = true
        · rw [if_pos d]
          have := (poly_of c).len
          show (eachP p a b).length ≤ 16
          unfold eachP; rw [idxL_length]; omega
        · rw [if_neg d]; simp
      · rw [if_neg c]; simp
    · obtain ⟨n, rfl, hq⟩ := up hn
      obtain ⟨e1, e2⟩ := h2 n (by omega)
      rw [impl_MulEach_eq, spec_MulEach_eq]; unfold impl_MulEach_f impl_MulEach_x spec_MulEach_f spec_MulEach_x
      rw [e1, e2]
      simp only [Option.bind_some]
      rw [if_neg nt, if_neg nt, isPoly_ret (by omega) (by omega) ha (by omega), l3Poly_ret (by omega) (by omega) ha (by omega)]
      simp only [Option.bind_some]
      by_cases c : polyB p m a = true
      · rw [if_pos c, c, if_neg nt, if_neg nt, isPoly_ret (by omega) (by omega) hb (by omega), l3Poly_ret (by omega) (by omega) hb (by omega)]
        simp only [Option.bind_some]
        by_cases d : polyB p m b = true
        · rw [if_pos d, d, if_neg nt, if_neg nt, mulEach_i (by omega) g1 g2 (poly_of c) (poly_of d) g3, mulEach_s (by omega) g1 g2 (poly_of c) (poly_of d) g3]
          exact ⟨rfl, rfl⟩
        · have d' : polyB p m b = false := by simpa using d
          rw [if_neg d, d']; exact ⟨rfl, rfl⟩
      · have c' : polyB p m a = false := by simpa using c
        rw [if_neg c, c']; exact ⟨rfl, rfl⟩
end Go.Proofs.YtnbaahpbmhhofaaDoor.Fw

/- Polynomials, spaces, rows: whether they are good: both sides. -/
import Derived.Test.YthanbjnpfenniaaDoorPRing0
import Derived.Test.YthanbjnpfenniaaDoorPPow
import Derived.Test.YthanbjnpfenniaaDoorEqY
namespace Go.Proofs.YthanbjnpfenniaaDoor.Fw
open Go Go.RowKit
set_option linter.unusedVariables false

def polyB (p m : Int) (a : List Int) : Bool := decide ((a.length : Int) = m) && allN (fun i => decide (0 ≤ a.getD i 0 ∧ a.getD i 0 ≤ p - 1)) 0 a.length
theorem isPoly_ret {n : Nat} (hn : Big + 5 ≤ n) {p m v : Int} {a : List Int} (hp : -4611686018427387904 ≤ p) (ha : a.length < 1099511627776) : p ≤ 4611686018427387904 → c_impl_isPoly (run tb orc n) p m v a = some (polyB p m a) := by
  intro hp'
  obtain ⟨n, rfl, hq⟩ := up3 (k := 2) (by omega : Big + (2 + 3) ≤ n)
  have hb := big_ge
  rw [impl_isPoly_eq]; unfold impl_isPoly_f impl_isPoly_x polyB
  by_cases h : (a.length : Int) = m
  · rw [if_pos h, decide_eq_true h, Bool.true_and, slices_ContainsFunc_int_int_impl_isPoly_1_eq]
    unfold slices_ContainsFunc_int_int_impl_isPoly_1_f slices_ContainsFunc_int_int_impl_isPoly_1_x
    rw [slices_IndexFunc_int_int_impl_isPoly_1_eq]; unfold slices_IndexFunc_int_int_impl_isPoly_1_f slices_IndexFunc_int_int_impl_isPoly_1_x
    obtain ⟨r, h1, h2⟩ := first_idx (f := fun i => decide (0 ≤ a.getD i 0 ∧ a.getD i 0 ≤ p - 1)) (len := a.length) (G := slices_IndexFunc_int_int_impl_isPoly_1_g1 (run tb orc n) n a p m v) (fun self i hi => by
      show slices_IndexFunc_int_int_impl_isPoly_1_x1 _ _ _ _ _ _ _ = _
      unfold slices_IndexFunc_int_int_impl_isPoly_1_x1
      obtain ⟨n, rfl, hq'⟩ := up (k := 1) (by omega : Big + (1 + 1) ≤ n)
      rw [if_pos (by omega), if_pos (by omega), if_pos (by omega), nat_i, impl_isPoly_1_eq]
      unfold impl_isPoly_1_f impl_isPoly_1_x
      rw [in_ret (by omega), w64 (by omega) (by omega), w64 (by omega) (by omega), ni1]
      simp only [Option.bind_some]) (fun self => by
      show slices_IndexFunc_int_int_impl_isPoly_1_x1 _ _ _ _ _ _ _ = _
      unfold slices_IndexFunc_int_int_impl_isPoly_1_x1
      rw [if_neg (by omega)]) a.length 0 (by omega) n (by omega)
    have h1' : iterO (slices_IndexFunc_int_int_impl_isPoly_1_g1 (run tb orc n) n a p m v) n 0 = some r := h1
    simp only [h1', Option.bind_some]
    rw [h2, Bool.not_not]
  · rw [if_neg h, decide_eq_false h]; rfl
theorem l3Poly_ret {n : Nat} (hn : Big + 2 ≤ n) {p m v : Int} {a : List Int} (hp : -4611686018427387904 ≤ p) (ha : a.length < 1099511627776) (hp' : p ≤ 4611686018427387904) : c_spec_l3Poly (run tb orc n) p m v a = some (polyB p m a) := by
  obtain ⟨n, rfl, hq⟩ := up hn
  have hb := big_ge
  rw [spec_l3Poly_eq]; unfold spec_l3Poly_f spec_l3Poly_x polyB
  by_cases h : (a.length : Int) = m
  · rw [if_pos h, decide_eq_true h, Bool.true_and]
    refine (all_idx (fun i => decide (0 ≤ a.getD i 0 ∧ a.getD i 0 ≤ p - 1)) (some true) (some false) (len := a.length) (G := spec_l3Poly_g1 (run tb orc n) n p m v a) (fun self i hi => ?_) (fun self => ?_) a.length 0 (by omega) n (by omega)).trans ?_
    · show spec_l3Poly_x1 _ _ _ _ _ _ _ = _
      unfold spec_l3Poly_x1
      rw [if_pos (by omega), if_pos (by omega), if_pos (by omega), nat_i, l1In_ret hq, w64 (by omega) (by omega), w64 (by omega) (by omega), ni1]
      simp only [Option.bind_some]
      by_cases c : 0 ≤ a.getD i 0 ∧ a.getD i 0 ≤ p - 1
      · rw [decide_eq_true c]; simp
      · rw [decide_eq_false c]; simp
    · show spec_l3Poly_x1 _ _ _ _ _ _ _ = _
      unfold spec_l3Poly_x1
      rw [if_neg (by omega)]
    · cases allN (fun i => decide (0 ≤ a.getD i 0 ∧ a.getD i 0 ≤ p - 1)) 0 a.length <;> rfl
  · rw [if_neg h, decide_eq_false h]; rfl
/-- What a polynomial has. -/
structure PolyOK (p m : Int) (a : List Int) : Prop where
  len : (a.length : Int) = m
  rng : ∀ i, i < a.length → 0 ≤ a.getD i 0 ∧ a.getD i 0 < p
theorem poly_of {p m : Int} {a : List Int} (h : polyB p m a = true) : PolyOK p m a := by
  unfold polyB at h
  rw [Bool.and_eq_true, decide_eq_true_eq, allN_iff] at h
  refine ⟨h.1, fun i hi => ?_⟩
  have := of_decide_eq_true (h.2 i (Nat.zero_le _) (by omega))
  omega
theorem poly_idx {p : Int} {f : Nat → Int} {k : Nat} (h : ∀ j, j < k → 0 ≤ f j ∧ f j < p) : PolyOK p (k : Int) (idxL f 0 k) := by
  refine ⟨by rw [idxL_length], fun i hi => ?_⟩
  rw [getD_get hi, idxL_get, Nat.zero_add]
  rw [idxL_length] at hi
  exact h i hi
end Go.Proofs.YthanbjnpfenniaaDoor.Fw

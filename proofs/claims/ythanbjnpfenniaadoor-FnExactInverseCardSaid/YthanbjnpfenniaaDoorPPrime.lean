/- Whether a number is prime: both tests are one. -/
import Derived.Test.YthanbjnpfenniaaDoorPMod
namespace Go.Proofs.YthanbjnpfenniaaDoor.Fw
open Go Go.RowKit
set_option linter.unusedVariables false

def bs : List Int := [2, 3, 5, 7, 11, 13, 17, 19, 23, 29, 31, 37]
theorem bs_def : bs = [(2 : Int), 3, 5, 7, 11, 13, 17, 19, 23, 29, 31, 37] := rfl
theorem bs_len : bs.length = 12 := rfl
theorem bs_in : ∀ p ∈ bs, 2 ≤ p ∧ p ≤ 37 := by decide
/-- The rounds of squares. -/
def mrL (x : Int) : Nat → Int → Bool → Bool
  | 0, _, g => g
  | r + 1, y, g => if g = true then true else mrL x r (y * y % x) (decide (y * y % x = x - 1))
def strongI (x : Int) (s : Nat) (d : Int) (a : Int) : Bool := if a ^ d.toNat % x = 1 then true else mrL x (s - 1) (a ^ d.toNat % x) (decide (a ^ d.toNat % x = x - 1))
theorem strongI_eq (x : Int) (s : Nat) (d a : Int) : strongI x s d a = if a ^ d.toNat % x = 1 then true else mrL x (s - 1) (a ^ d.toNat % x) (decide (a ^ d.toNat % x = x - 1)) := rfl
def smallL (x : Int) : List Int → Bool → Bool
  | [], r => r
  | p :: l, r => if x % p = 0 then decide (x = p) else smallL x l r
/-- What both answer. -/
noncomputable def isPI (x : Int) : Bool := if x < 2 then false else smallL x bs (bs.all (strongI x (tz (x - 1).toNat) ((x - 1) / 2 ^ tz (x - 1).toNat)))
theorem drop_bs {i : Nat} (h : i < 12) : bs.drop i = bs.getD i 0 :: bs.drop (i + 1) := by
  rw [getD_get (by rw [bs_len]; exact h)]; exact List.drop_eq_getElem_cons (by rw [bs_len]; exact h)
theorem bs_at {i : Nat} (h : i < 12) : 2 ≤ bs.getD i 0 ∧ bs.getD i 0 ≤ 37 := by
  rw [getD_get (by rw [bs_len]; exact h)]; exact bs_in _ (List.getElem_mem _)
theorem below41 : ∀ x : Fin 41, 2 ≤ x.val → ∃ p ∈ bs, (x.val : Int) % p = 0 := by decide
theorem ge41 {x : Int} (h : 2 ≤ x) (ha : ∀ p ∈ bs, x % p ≠ 0) : 41 ≤ x := by
  rcases Int.lt_or_le x 41 with h1 | h1
  · obtain ⟨p, hp, h2⟩ := below41 ⟨x.toNat, by omega⟩ (by show 2 ≤ x.toNat; omega)
    have : ((x.toNat : Nat) : Int) = x := by omega
    simp only [this] at h2
    exact absurd h2 (ha p hp)
  · exact h1

/-! ### the program's -/
section
variable {n : Nat} {x : Int}
theorem rounds_i (hn : Big + 5 ≤ n) (hx : 0 < x) (hx' : x < 18446744073709551616) {t : Nat} (ht : t ≤ 64) {self2 : Int → Option Bool} {i : Int} : ∀ (K : Nat) (y : Int) (g : Bool) (k : Nat), 0 ≤ y → y < x → 1 ≤ k → k ≤ max 1 t → t - k < K →
    iterO (impl_IsPrime_g4 (run tb orc n) n self2 x (t : Int) i) K (y, g, (k : Int)) = if mrL x (t - k) y g = true then self2 (wr .i64 (i + 1)) else some false
  | 0, y, g, k, _, _, _, _, h => absurd h (Nat.not_lt_zero _)
  | K + 1, y, g, k, hy, hy', hk, hk', h => by
    show impl_IsPrime_x4 _ _ _ _ _ _ _ = _
    unfold impl_IsPrime_x4
    dsimp only
    by_cases c : k < t
    · rw [if_pos (by omega)]
      obtain ⟨r, hr⟩ : ∃ r, t - k = r + 1 := ⟨t - k - 1, by omega⟩
      cases g with
      | true =>
        rw [if_neg (by simp), if_neg (by simp), hr]
        simp only [mrL, if_true]
      | false =>
        rw [if_pos (by simp), mulMod64_ret (by omega) hy (by omega) hy (by omega) hx hx']
        simp only [Option.bind_some]
        rw [wu64 (n := x - 1) (by omega) (by omega), w64 (by omega) (by omega), ni1, rounds_i hn hx hx' ht K _ _ (k + 1) (Int.emod_nonneg _ (by omega)) (Int.emod_lt_of_pos _ hx) (by omega) (by omega) (by omega), hr, show t - (k + 1) = r by omega]
        simp only [mrL, Bool.false_eq_true, if_false]
    · rw [if_neg (by omega), show t - k = 0 by omega]
      simp only [mrL]
      cases g <;> simp
theorem bases_i (hn : Big + 6 ≤ n) (hx : 2 ≤ x) (hx' : x < 18446744073709551616) {t : Nat} (ht : t ≤ 64) : ∀ (d i : Nat), i + d = 12 → ∀ K, d < K →
    iterO (impl_IsPrime_g2 (run tb orc n) n x (t : Int)) K (i : Int) = some ((bs.drop i).all (strongI x t ((x - 1) / 2 ^ t)))
  | 0, i, hi, K, hK => by
    obtain ⟨K, rfl⟩ : ∃ j, K = j + 1 := ⟨K - 1, by omega⟩
    have e : i = 12 := by omega
    subst e
    rw [iterO_succ]
    unfold impl_IsPrime_g2 impl_IsPrime_x2
    dsimp only
    rw [if_neg (by omega)]; rfl
  | d + 1, i, hi, K, hK => by
    obtain ⟨K, rfl⟩ : ∃ j, K = j + 1 := ⟨K - 1, by omega⟩
    have hb := big_ge
    have hat := bs_at (i := i) (by omega)
    have ih := bases_i hn hx hx' ht d (i + 1) (by omega) K (by omega)
    rw [iterO_succ]
    generalize iterO (impl_IsPrime_g2 (run tb orc n) n x (t : Int)) K = self at ih ⊢
    unfold impl_IsPrime_g2 impl_IsPrime_x2
    dsimp only
    rw [if_pos (by omega), if_pos (by omega), if_pos (by omega), if_neg (by omega), ← bs_def]
    have e1 : rd bs (i : Int) = bs.getD i 0 := by unfold rd; rw [nat_i]
    have hd : 0 ≤ (x - 1) / 2 ^ t := Int.ediv_nonneg (by omega) (Int.le_of_lt (Int.pow_pos (by omega)))
    have hd' : (x - 1) / 2 ^ t ≤ x - 1 := Int.ediv_le_self _ (by omega)
    rw [e1, wu64 (n := x - 1) (by omega) (by omega), shr_un _ t ht, powMod64_ret hn (by omega) hd (by omega) (by omega) hx']
    simp only [Option.bind_some]
    rw [drop_bs (by omega), List.all_cons]
    have hw : wr .i64 ((i : Int) + 1) = ((i + 1 : Nat) : Int) := by rw [w64 (by omega) (by omega), ni1]
    rw [strongI_eq]
    by_cases c : bs.getD i 0 ^ ((x - 1) / 2 ^ t).toNat % x = 1
    · rw [if_pos c, if_pos c, Bool.true_and]
      obtain ⟨n', rfl⟩ : ∃ j, n = j + 1 := ⟨n - 1, by omega⟩
      rw [iterO_succ]
      unfold impl_IsPrime_g3 impl_IsPrime_x3
      rw [ite_self, hw]
      exact ih
    · rw [if_neg c, if_neg c]
      refine (rounds_i (by omega) (by omega) hx' ht n _ _ 1 (Int.emod_nonneg _ (by omega)) (Int.emod_lt_of_pos _ (by omega)) (by omega) (by omega) (by omega)).trans ?_
      rw [hw]
      cases hm : mrL x (t - 1) (bs.getD i 0 ^ ((x - 1) / 2 ^ t).toNat % x) (decide (bs.getD i 0 ^ ((x - 1) / 2 ^ t).toNat % x = x - 1)) with
      | true => rw [if_pos rfl, Bool.true_and]; exact ih
      | false => rw [if_neg (by simp), Bool.false_and]
theorem small_i (hn : Big + 6 ≤ n) (hx : 0 ≤ x) (hx' : x < 18446744073709551616) : ∀ (d i : Nat), i + d = 12 → ∀ K, d < K →
    iterO (impl_IsPrime_g1 (run tb orc n) n x) K (i : Int) = some (smallL x (bs.drop i) (if x < 2 then false else bs.all (strongI x (tz (x - 1).toNat) ((x - 1) / 2 ^ tz (x - 1).toNat))))
  | 0, i, hi, K, hK => by
    obtain ⟨K, rfl⟩ : ∃ j, K = j + 1 := ⟨K - 1, by omega⟩
    have e : i = 12 := by omega
    have hb := big_ge
    subst e
    rw [iterO_succ]
    unfold impl_IsPrime_g1 impl_IsPrime_x1
    dsimp only
    rw [if_neg (by omega)]
    by_cases c : x < 2
    · rw [if_pos c, if_pos c]; rfl
    · have ht : tz (x - 1).toNat < 64 := tz_lt (by omega) (by omega)
      rw [if_neg c, if_neg c, wu64 (by omega) (by omega), tz64_ret (by omega) (by omega) (by omega)]
      simp only [Option.bind_some]
      exact bases_i hn (by omega) hx' (by omega) 12 0 rfl n (by omega)
  | d + 1, i, hi, K, hK => by
    obtain ⟨K, rfl⟩ : ∃ j, K = j + 1 := ⟨K - 1, by omega⟩
    have hat := bs_at (i := i) (by omega)
    have ih := small_i hn hx hx' d (i + 1) (by omega) K (by omega)
    rw [iterO_succ]
    generalize iterO (impl_IsPrime_g1 (run tb orc n) n x) K = self at ih ⊢
    unfold impl_IsPrime_g1 impl_IsPrime_x1
    dsimp only
    rw [if_pos (by omega), if_pos (by omega), if_pos (by omega), ← bs_def]
    have e1 : rd bs (i : Int) = bs.getD i 0 := by unfold rd; rw [nat_i]
    have hw : wr .i64 ((i : Int) + 1) = ((i + 1 : Nat) : Int) := by rw [w64 (by omega) (by omega), ni1]
    rw [e1, if_neg (by omega), tmod_nn hx, drop_bs (by omega), hw]
    simp only [smallL]
    by_cases c : x % bs.getD i 0 = 0
    · rw [if_pos c, if_pos c]
    · rw [if_neg c, if_neg c]; exact ih
theorem isPrime_i (hn : Big + 7 ≤ n) (hx : 0 ≤ x) (hx' : x < 18446744073709551616) : c_impl_IsPrime (run tb orc n) x = some (isPI x) := by
  obtain ⟨n, rfl, hq⟩ := up hn
  have hb := big_ge
  rw [impl_IsPrime_eq]; unfold impl_IsPrime_f impl_IsPrime_x
  refine (small_i hq hx hx' 12 0 rfl n (by omega)).trans ?_
  unfold isPI
  rw [List.drop_zero]
  by_cases c : x < 2
  · rw [if_pos c, if_pos c]
    obtain rfl | rfl : x = 0 ∨ x = 1 := by omega
    · rfl
    · rfl
  · rw [if_neg c, if_neg c]

/-! ### the specification's -/
theorem rounds_s (hn : Big + 1 ≤ n) (hx : 0 < x) (hx' : x < 18446744073709551616) {t : Nat} (ht : t ≤ 64) {D : Int} {self3 : Int → Option Bool} {i : Int} : ∀ (K : Nat) (y : Int) (g : Bool) (k : Nat), 0 ≤ y → y < x → 1 ≤ k → k ≤ max 1 t → t - k < K →
    iterO (spec_IsPrime_g5 (run tb orc n) n self3 x (D, (t : Int)) i) K (y, g, (k : Int)) = if mrL x (t - k) y g = true then self3 (wr .i64 (i + 1)) else some false
  | 0, y, g, k, _, _, _, _, h => absurd h (Nat.not_lt_zero _)
  | K + 1, y, g, k, hy, hy', hk, hk', h => by
    show spec_IsPrime_x5 _ _ _ _ _ _ _ = _
    unfold spec_IsPrime_x5
    dsimp only
    by_cases c : k < t
    · rw [if_pos (by omega)]
      obtain ⟨r, hr⟩ : ∃ r, t - k = r + 1 := ⟨t - k - 1, by omega⟩
      cases g with
      | true =>
        rw [if_neg (by simp), if_neg (by simp), hr]
        simp only [mrL, if_true]
      | false =>
        rw [if_pos (by simp), mulBig_ret hn hy hy' hy (by omega) hx']
        simp only [Option.bind_some]
        rw [wu64 (n := x - 1) (by omega) (by omega), w64 (by omega) (by omega), ni1, rounds_s hn hx hx' ht K _ _ (k + 1) (Int.emod_nonneg _ (by omega)) (Int.emod_lt_of_pos _ hx) (by omega) (by omega) (by omega), hr, show t - (k + 1) = r by omega]
        simp only [mrL, Bool.false_eq_true, if_false]
    · rw [if_neg (by omega), show t - k = 0 by omega]
      simp only [mrL]
      cases g <;> simp
theorem bases_s (hn : Big + 2 ≤ n) (hx : 41 ≤ x) (hx' : x < 18446744073709551616) {t : Nat} (ht : t ≤ 64) {D : Int} (hD : 0 ≤ D) (hD' : D < x) : ∀ (d i : Nat), i + d = 12 → ∀ K, d < K →
    iterO (spec_IsPrime_g3 (run tb orc n) n x (D, (t : Int))) K (i : Int) = some ((bs.drop i).all (strongI x t D))
  | 0, i, hi, K, hK => by
    obtain ⟨K, rfl⟩ : ∃ j, K = j + 1 := ⟨K - 1, by omega⟩
    have e : i = 12 := by omega
    subst e
    rw [iterO_succ]
    unfold spec_IsPrime_g3 spec_IsPrime_x3
    dsimp only
    rw [← bs_def, bs_len, if_neg (by omega)]; rfl
  | d + 1, i, hi, K, hK => by
    obtain ⟨K, rfl⟩ : ∃ j, K = j + 1 := ⟨K - 1, by omega⟩
    have hb := big_ge
    have hat := bs_at (i := i) (by omega)
    have ih := bases_s hn hx hx' ht hD hD' d (i + 1) (by omega) K (by omega)
    rw [iterO_succ]
    generalize iterO (spec_IsPrime_g3 (run tb orc n) n x (D, (t : Int))) K = self at ih ⊢
    unfold spec_IsPrime_g3 spec_IsPrime_x3
    dsimp only
    rw [← bs_def, bs_len, if_pos (by omega), if_pos (by omega), if_pos (by omega), nat_i, powBig_ret hn (by omega) (by omega) hD (by omega) hx']
    simp only [Option.bind_some]
    rw [drop_bs (by omega), List.all_cons]
    have hw : wr .i64 ((i : Int) + 1) = ((i + 1 : Nat) : Int) := by rw [w64 (by omega) (by omega), ni1]
    rw [strongI_eq]
    by_cases c : bs.getD i 0 ^ D.toNat % x = 1
    · rw [if_pos c, if_pos c, Bool.true_and]
      obtain ⟨n', rfl⟩ : ∃ j, n = j + 1 := ⟨n - 1, by omega⟩
      rw [iterO_succ]
      unfold spec_IsPrime_g4 spec_IsPrime_x4
      rw [ite_self, hw]
      exact ih
    · rw [if_neg c, if_neg c, wu64 (n := x - 1) (by omega) (by omega)]
      refine (rounds_s (by omega) (by omega) hx' ht n _ _ 1 (Int.emod_nonneg _ (by omega)) (Int.emod_lt_of_pos _ (by omega)) (by omega) (by omega) (by omega)).trans ?_
      rw [hw]
      cases hm : mrL x (t - 1) (bs.getD i 0 ^ D.toNat % x) (decide (bs.getD i 0 ^ D.toNat % x = x - 1)) with
      | true => rw [if_pos rfl, Bool.true_and]; exact ih
      | false => rw [if_neg (by simp), Bool.false_and]
/-- The noughts are counted. -/
theorem count_s (hn : Big + 2 ≤ n) (hx : 41 ≤ x) (hx' : x < 18446744073709551616) : ∀ (f : Nat) (m s : Nat), s + f = 64 → 0 < m → m < 2 ^ f → (m : Int) < x → ∀ K, f < K →
    iterO (spec_IsPrime_g2 (run tb orc n) n x) K ((m : Int), (s : Int)) = some (bs.all (strongI x (s + tzF f m) (((m / 2 ^ tzF f m : Nat)) : Int)))
  | 0, m, s, _, h0, h1, _, _, _ => by simp at h1; omega
  | f + 1, m, s, hs, h0, h1, hm, K, hK => by
    obtain ⟨K, rfl⟩ : ∃ j, K = j + 1 := ⟨K - 1, by omega⟩
    have hb := big_ge
    have ih := fun h1 h2 h3 => count_s hn hx hx' f (m / 2) (s + 1) (by omega) h1 h2 h3 K (by omega)
    rw [iterO_succ]
    generalize iterO (spec_IsPrime_g2 (run tb orc n) n x) K = self at ih ⊢
    unfold spec_IsPrime_g2 spec_IsPrime_x2
    dsimp only
    rw [and_u1, shr_u1]
    have n1 : ¬ ((1 : Int) < 0) := by omega
    by_cases c : m % 2 = 0
    · have e : (m : Int) / 2 = ((m / 2 : Nat) : Int) := by omega
      rw [if_pos (by omega), if_neg n1, w64 (by omega) (by omega), ni1, e, ih (by omega) (by rw [Nat.pow_succ] at h1; omega) (by omega)]
      have e2 : tzF (f + 1) m = tzF f (m / 2) + 1 := by simp only [tzF, c, if_true]
      rw [e2, Nat.pow_succ, Nat.mul_comm _ 2, ← Nat.div_div_eq_div_mul, show s + 1 + tzF f (m / 2) = s + (tzF f (m / 2) + 1) by omega]
    · have e2 : tzF (f + 1) m = 0 := by simp only [tzF, c, if_false]
      rw [if_neg (by omega), e2]
      refine (bases_s hn hx hx' (t := s) (by omega) (D := (m : Int)) (by omega) hm 12 0 rfl n (by omega)).trans ?_
      simp
theorem small_s (hn : Big + 2 ≤ n) (hx : 2 ≤ x) (hx' : x < 18446744073709551616) : ∀ (d i : Nat), i + d = 12 → (∀ j, j < i → x % bs.getD j 0 ≠ 0) → ∀ K, d < K →
    iterO (spec_IsPrime_g1 (run tb orc n) n x) K (i : Int) = some (smallL x (bs.drop i) (bs.all (strongI x (tz (x - 1).toNat) ((x - 1) / 2 ^ tz (x - 1).toNat))))
  | 0, i, hi, ha, K, hK => by
    obtain ⟨K, rfl⟩ : ∃ j, K = j + 1 := ⟨K - 1, by omega⟩
    have e : i = 12 := by omega
    have hb := big_ge
    subst e
    have hg : 41 ≤ x := ge41 hx fun p hp => by
      obtain ⟨j, hj, rfl⟩ := List.mem_iff_getElem.1 hp
      have := ha j (by rw [bs_len] at hj; exact hj)
      rwa [getD_get hj] at this
    rw [iterO_succ]
    unfold spec_IsPrime_g1 spec_IsPrime_x1
    dsimp only
    rw [← bs_def, bs_len, if_neg (by omega), wu64 (by omega) (by omega)]
    obtain ⟨m, hm⟩ : ∃ m : Nat, x - 1 = (m : Int) := ⟨(x - 1).toNat, by omega⟩
    rw [hm]
    refine (count_s hn hg hx' 64 m 0 rfl (by omega) (by omega) (by omega) n (by omega)).trans ?_
    rw [Int.toNat_natCast, tz_eq, Nat.zero_add]
    have e : ((m / 2 ^ tzF 64 m : Nat) : Int) = (m : Int) / 2 ^ tzF 64 m := by rw [Int.natCast_ediv]; simp
    rw [e]; rfl
  | d + 1, i, hi, ha, K, hK => by
    obtain ⟨K, rfl⟩ : ∃ j, K = j + 1 := ⟨K - 1, by omega⟩
    have hat := bs_at (i := i) (by omega)
    have ih := fun h => small_s hn hx hx' d (i + 1) (by omega) h K (by omega)
    rw [iterO_succ]
    generalize iterO (spec_IsPrime_g1 (run tb orc n) n x) K = self at ih ⊢
    unfold spec_IsPrime_g1 spec_IsPrime_x1
    dsimp only
    rw [← bs_def, bs_len, if_pos (by omega), if_pos (by omega), if_pos (by omega), nat_i, if_neg (by omega), tmod_nn (by omega), drop_bs (by omega), w64 (by omega) (by omega), ni1]
    simp only [smallL]
    by_cases c : x % bs.getD i 0 = 0
    · rw [if_pos c, if_pos c]
    · rw [if_neg c, if_neg c]
      refine ih fun j hj => ?_
      by_cases e : j = i
      · rw [e]; exact c
      · exact ha j (by omega)
theorem isPrime_s (hn : Big + 3 ≤ n) (hx : 0 ≤ x) (hx' : x < 18446744073709551616) : c_spec_IsPrime (run tb orc n) x = some (isPI x) := by
  obtain ⟨n, rfl, hq⟩ := up hn
  have hb := big_ge
  rw [spec_IsPrime_eq]; unfold spec_IsPrime_f spec_IsPrime_x isPI
  by_cases c : x < 2
  · rw [if_pos c, if_pos c]
  · rw [if_neg c, if_neg c]
    refine (small_s hq (by omega) hx' 12 0 rfl (fun j h => absurd h (Nat.not_lt_zero _)) n (by omega)).trans ?_
    rfl
end
end Go.Proofs.YthanbjnpfenniaaDoor.Fw

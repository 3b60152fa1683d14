/- Products and powers by a modulus of 64 bits: the program's by the library's words, the specification's by doubling. -/
import Derived.Test.YthanbjnpfenniaaDoorPLz
import Derived.Test.YthanbjnpfenniaaDoorPTz
namespace Go.Proofs.YthanbjnpfenniaaDoor.Fw
open Go Go.RowKit
set_option linter.unusedVariables false

theorem mul64_ret {n : Nat} (hn : Big + 1 ≤ n) {x y : Int} (hx : 0 ≤ x) (hx' : x < 18446744073709551616) (hy : 0 ≤ y) (hy' : y < 18446744073709551616) :
    c_bits_Mul64 (run tb orc n) x y = some (x * y / 18446744073709551616, x * y % 18446744073709551616) := by
  obtain ⟨n, rfl, hm⟩ := up hn
  rw [bits_Mul64_eq]; unfold bits_Mul64_f bits_Mul64_x
  have n32 : ¬ ((32 : Int) < 0) := by omega
  simp only [n32, if_false, shr_u32, and_u32]
  have ex : x = x / 4294967296 * 4294967296 + x % 4294967296 := by omega
  have ey : y = y / 4294967296 * 4294967296 + y % 4294967296 := by omega
  have a1 : 0 ≤ x / 4294967296 ∧ x / 4294967296 ≤ 4294967295 := by omega
  have a2 : 0 ≤ x % 4294967296 ∧ x % 4294967296 ≤ 4294967295 := by omega
  have a3 : 0 ≤ y / 4294967296 ∧ y / 4294967296 ≤ 4294967295 := by omega
  have a4 : 0 ≤ y % 4294967296 ∧ y % 4294967296 ≤ 4294967295 := by omega
  have pr : ∀ {p q : Int}, 0 ≤ p ∧ p ≤ 4294967295 → 0 ≤ q ∧ q ≤ 4294967295 → 0 ≤ p * q ∧ p * q ≤ 4294967295 * 4294967295 := fun h k => ⟨Int.mul_nonneg h.1 k.1, Int.mul_le_mul h.2 k.2 k.1 (by omega)⟩
  have hprod : x * y = x / 4294967296 * (y / 4294967296) * 18446744073709551616 + (x / 4294967296 * (y % 4294967296) + x % 4294967296 * (y / 4294967296)) * 4294967296 + x % 4294967296 * (y % 4294967296) := by
    have : ∀ a b c d : Int, (a * 4294967296 + b) * (c * 4294967296 + d) = a * c * 18446744073709551616 + (a * d + b * c) * 4294967296 + b * d := by
      intro a b c d
      rw [Int.add_mul, Int.mul_add, Int.mul_add]
      have e1 : a * 4294967296 * (c * 4294967296) = a * c * 18446744073709551616 := by
        have e0 : (4294967296 : Int) * 4294967296 = 18446744073709551616 := by decide
        rw [Int.mul_assoc, Int.mul_left_comm 4294967296 c, e0, ← Int.mul_assoc]
      have e2 : a * 4294967296 * d = a * d * 4294967296 := Int.mul_right_comm _ _ _
      have e3 : b * (c * 4294967296) = b * c * 4294967296 := (Int.mul_assoc _ _ _).symm
      rw [e1, e2, e3]; omega
    rw [← this, ← ex, ← ey]
  obtain ⟨p1, p1'⟩ := pr a1 a3
  obtain ⟨p2, p2'⟩ := pr a1 a4
  obtain ⟨p3, p3'⟩ := pr a2 a3
  obtain ⟨p4, p4'⟩ := pr a2 a4
  rw [wr_u64 (x * y), hprod]
  generalize x / 4294967296 * (y / 4294967296) = A at *
  generalize x / 4294967296 * (y % 4294967296) = B at *
  generalize x % 4294967296 * (y / 4294967296) = C at *
  generalize x % 4294967296 * (y % 4294967296) = D at *
  rw [wu64 (n := A) (by omega) (by omega), wu64 (n := B) (by omega) (by omega), wu64 (n := D) (by omega) (by omega), wu64 (n := C) (by omega) (by omega), wu64 (n := B + D / 4294967296) (by omega) (by omega), wu64 (n := A + (B + D / 4294967296) / 4294967296) (by omega) (by omega), wu64 (n := (B + D / 4294967296) % 4294967296 + C) (by omega) (by omega), wu64 (by omega) (by omega)]
  congr 2
  omega
theorem rem64_ret {n : Nat} (hn : Big + 4 ≤ n) {x0 x1 x2 : Int} (h0 : 0 ≤ x0) (hl : 0 ≤ x1) (hl' : x1 < 18446744073709551616) (h2 : 0 < x2) (h2' : x2 < 18446744073709551616) :
    c_bits_Rem64 (run tb orc n) x0 x1 x2 = some ((x0 * 18446744073709551616 + x1) % x2) := by
  obtain ⟨n, rfl, hm⟩ := up hn
  rw [bits_Rem64_eq]; unfold bits_Rem64_f bits_Rem64_x
  rw [if_neg (by omega), tmod_nn h0, div64_ret (by omega) (Int.emod_nonneg _ (by omega)) (Int.emod_lt_of_pos _ h2) h2' hl hl']
  simp only [Option.bind_some]
  congr 1
  rw [Int.add_emod, Int.mul_emod, Int.emod_emod, ← Int.mul_emod, ← Int.add_emod]
theorem mulMod64_ret {n : Nat} (hn : Big + 5 ≤ n) {a b m : Int} (ha : 0 ≤ a) (ha' : a < 18446744073709551616) (hb : 0 ≤ b) (hb' : b < 18446744073709551616) (hm : 0 < m) (hm' : m < 18446744073709551616) :
    c_impl_mulMod64 (run tb orc n) a b m = some (a * b % m) := by
  obtain ⟨n, rfl, hq⟩ := up hn
  have hp : 0 ≤ a * b := Int.mul_nonneg ha hb
  rw [impl_mulMod64_eq]; unfold impl_mulMod64_f impl_mulMod64_x
  rw [mul64_ret (by omega) ha ha' hb hb']
  simp only [Option.bind_some]
  rw [rem64_ret (by omega) (Int.ediv_nonneg hp (by omega)) (by omega) (by omega) hm hm']
  simp only [Option.bind_some]
  congr 2; omega
/-- A power by squares. -/
theorem pow_half (a : Int) (e : Nat) : a ^ e = (a * a) ^ (e / 2) * a ^ (e % 2) := by
  have : a ^ e = a ^ (2 * (e / 2) + e % 2) := by congr 1; omega
  rw [this, Int.pow_add, Int.pow_mul]
  congr 2
  rw [show (2 : Nat) = 1 + 1 from rfl, Int.pow_succ, Int.pow_succ, Int.pow_zero, Int.one_mul]
theorem pow_emod' (a m : Int) : ∀ e : Nat, (a % m) ^ e % m = a ^ e % m
  | 0 => by simp
  | e + 1 => by rw [Int.pow_succ, Int.pow_succ, Int.mul_emod, pow_emod' a m e, Int.emod_emod, ← Int.mul_emod]
theorem mul_mod_l (a b m : Int) : a % m * b % m = a * b % m := by rw [Int.mul_emod, Int.emod_emod, ← Int.mul_emod]
theorem mul_mod_r (a b m : Int) : a * (b % m) % m = a * b % m := by rw [Int.mul_emod, Int.emod_emod, ← Int.mul_emod]
theorem emod_mul_pow (o a : Int) (e : Nat) (m : Int) : o % m * (a % m) ^ e % m = o * a ^ e % m := by
  rw [Int.mul_emod, Int.emod_emod, pow_emod', ← Int.mul_emod]
/-- One round of a power. -/
theorem pow_round (o a : Int) (e : Nat) (m : Int) : (if e % 2 = 1 then o * a % m else o) * (a * a % m) ^ (e / 2) % m = o * a ^ e % m := by
  rw [pow_half a e]
  split
  · rename_i h
    rw [emod_mul_pow, h, Int.pow_succ, Int.pow_zero, Int.one_mul, Int.mul_assoc, Int.mul_comm a]
  · rename_i h
    have h0 : e % 2 = 0 := by omega
    rw [h0, Int.pow_zero, Int.mul_one, ← mul_mod_r o, pow_emod', mul_mod_r]
/-- A loop that makes a power: squares and products. The rounds are told by the exponent. -/
theorem pow_loop {R : Type} {m lim : Int} (hm : 0 < m) (K : Int → Option R) {V : Type} (mk : Int → Int → Int → V) {G : (V → Option R) → V → Option R}
    (hs : ∀ self a e o, 0 ≤ a → a < m → 0 < e → e < lim → 0 ≤ o → o < m → G self (mk a e o) = self (mk (a * a % m) (e / 2) (if e % 2 = 1 then o * a % m else o)))
    (hk : ∀ self a o, 0 ≤ o → o < m → G self (mk a 0 o) = K o) :
    ∀ (n : Nat) (a e o : Int), 0 ≤ a → a < m → 0 ≤ e → e < lim → 0 ≤ o → o < m → e.toNat < n → iterO G n (mk a e o) = K (o * a ^ e.toNat % m)
  | 0, a, e, o, _, _, _, _, _, _, h => absurd h (Nat.not_lt_zero _)
  | n + 1, a, e, o, ha, ha', he, he', ho, ho', h => by
    rw [iterO_succ]
    by_cases h0 : e = 0
    · subst h0
      rw [hk _ a o ho ho']
      simp only [Int.toNat_zero, Int.pow_zero, Int.mul_one]
      rw [Int.emod_eq_of_lt ho ho']
    · have b : 0 ≤ (if e % 2 = 1 then o * a % m else o) ∧ (if e % 2 = 1 then o * a % m else o) < m := by
        split
        · exact ⟨Int.emod_nonneg _ (by omega), Int.emod_lt_of_pos _ hm⟩
        · exact ⟨ho, ho'⟩
      rw [hs _ a e o ha ha' (by omega) he' ho ho', pow_loop hm K mk hs hk n _ _ _ (Int.emod_nonneg _ (by omega)) (Int.emod_lt_of_pos _ hm) (by omega) (by omega) b.1 b.2 (by omega)]
      congr 1
      have e1 : (e / 2).toNat = e.toNat / 2 := by omega
      have e2 : (if e % 2 = 1 then o * a % m else o) = (if e.toNat % 2 = 1 then o * a % m else o) := by
        by_cases c : e % 2 = 1
        · rw [if_pos c, if_pos (by omega)]
        · rw [if_neg c, if_neg (by omega)]
      rw [e1, e2, pow_round]
theorem powMod64_ret {n : Nat} (hn : Big + 6 ≤ n) {a e m : Int} (ha : 0 ≤ a) (he : 0 ≤ e) (he' : e < 18446744073709551616) (hm : 0 < m) (hm' : m < 18446744073709551616) :
    c_impl_powMod64 (run tb orc n) a e m = some (a ^ e.toNat % m) := by
  obtain ⟨n, rfl, hq⟩ := up hn
  have hb := big_ge
  rw [impl_powMod64_eq]; unfold impl_powMod64_f impl_powMod64_x
  rw [if_neg (by omega), if_neg (by omega), tmod_nn ha, tmod_nn (by omega)]
  have n1 : ¬ ((1 : Int) < 0) := by omega
  refine (pow_loop (m := m) (lim := 18446744073709551616) hm (fun o => some o) (fun a e o => (a, e, o)) (fun self a e o h1 h2 h3 h4 h5 h6 => ?_) (fun self a o h1 h2 => ?_) n _ _ _ (Int.emod_nonneg _ (by omega)) (Int.emod_lt_of_pos _ hm) he he' (Int.emod_nonneg _ (by omega)) (Int.emod_lt_of_pos _ hm) (by omega)).trans ?_
  · show impl_powMod64_x1 _ _ _ _ = _
    unfold impl_powMod64_x1
    dsimp only
    rw [if_pos h3, and_u1, shr_u1]
    by_cases c : e % 2 = 1
    · rw [if_pos c, mulMod64_ret hq h5 (by omega) h1 (by omega) hm hm']
      simp only [Option.bind_some]
      rw [mulMod64_ret hq h1 (by omega) h1 (by omega) hm hm', if_pos c]
      simp only [Option.bind_some, n1, if_false]
    · rw [if_neg c, mulMod64_ret hq h1 (by omega) h1 (by omega) hm hm', if_neg c]
      simp only [Option.bind_some, n1, if_false]
  · show impl_powMod64_x1 _ _ _ _ = _
    unfold impl_powMod64_x1
    dsimp only
    rw [if_neg (by omega)]
  · rw [emod_mul_pow, Int.one_mul]
/-- The specification's product: by doubling. -/
theorem mulBig_loop {n : Nat} {m : Int} (hm : 0 < m) (hm' : m < 18446744073709551616) {C : Ca tb} : ∀ (k : Nat) (a b r : Int), 0 ≤ a → a < m → 0 ≤ b → 0 ≤ r → r < m → b.toNat < k →
    iterO (spec_l1MulBig_g1 C n m) k (a, b, r) = some ((r + a * b) % m)
  | 0, a, b, r, _, _, _, _, _, h => absurd h (Nat.not_lt_zero _)
  | k + 1, a, b, r, ha, ha', hb, hr, hr', h => by
    show spec_l1MulBig_x1 C _ _ _ = _
    unfold spec_l1MulBig_x1
    dsimp only
    have n1 : ¬ ((1 : Int) < 0) := by omega
    by_cases h0 : b = 0
    · subst h0
      rw [if_neg (by omega), Int.mul_zero, Int.add_zero, Int.emod_eq_of_lt hr hr']
    · have ih := fun (a' r' : Int) h1 h2 h3 h4 => mulBig_loop (n := n) hm hm' (C := C) k a' (b / 2) r' h1 h2 (by omega) h3 h4 (by omega)
      rw [if_pos (by omega), and_u1, shr_u1, wu64 (n := m - a) (by omega) (by omega)]
      -- twice a, brought below m
      have dbl : ∀ {a' : Int} (c : Int), (a' = a + a ∨ a' = a + a - m) → (c + a' * (b / 2)) % m = (c + (a + a) * (b / 2)) % m := by
        intro a' c hc
        rcases hc with rfl | rfl
        · rfl
        · rw [Int.sub_mul, show c + ((a + a) * (b / 2) - m * (b / 2)) = c + (a + a) * (b / 2) + m * (-(b / 2)) by rw [Int.mul_neg]; omega, Int.add_mul_emod_self_left]
      have fin0 : b % 2 = 0 → (r + (a + a) * (b / 2)) % m = (r + a * b) % m := by
        intro h
        have e : (a + a) * (b / 2) = a * b := by
          have : b = 2 * (b / 2) := by omega
          conv => rhs; rw [this]
          rw [← Int.mul_assoc]; congr 1; omega
        rw [e]
      have fin1 : b % 2 = 1 → ∀ {r' : Int}, (r' = r + a ∨ r' = r + a - m) → (r' + (a + a) * (b / 2)) % m = (r + a * b) % m := by
        intro h r' hc
        have e : a * b = a + (a + a) * (b / 2) := by
          have : b = 2 * (b / 2) + 1 := by omega
          conv => lhs; rw [this]
          rw [Int.mul_add, ← Int.mul_assoc, Int.mul_one, show a * 2 = a + a by omega]; omega
        rw [e]
        rcases hc with rfl | rfl
        · congr 1; omega
        · rw [show r + a - m + (a + a) * (b / 2) = r + (a + (a + a) * (b / 2)) + m * (-1) by omega, Int.add_mul_emod_self_left]
      simp only [n1, if_false]
      by_cases c : b % 2 = 1
      · rw [if_pos c]
        by_cases c1 : r ≥ m - a
        · rw [if_pos c1, wu64 (n := r - (m - a)) (by omega) (by omega)]
          by_cases c2 : a ≥ m - a
          · rw [if_pos c2, wu64 (n := a - (m - a)) (by omega) (by omega), ih _ _ (by omega) (by omega) (by omega) (by omega), dbl _ (.inr (by omega)), fin1 c (.inr (by omega))]
          · rw [if_neg c2, wu64 (n := a + a) (by omega) (by omega), ih _ _ (by omega) (by omega) (by omega) (by omega), fin1 c (.inr (by omega))]
        · rw [if_neg c1, wu64 (n := r + a) (by omega) (by omega)]
          by_cases c2 : a ≥ m - a
          · rw [if_pos c2, wu64 (n := a - (m - a)) (by omega) (by omega), ih _ _ (by omega) (by omega) (by omega) (by omega), dbl _ (.inr (by omega)), fin1 c (.inl (by omega))]
          · rw [if_neg c2, wu64 (n := a + a) (by omega) (by omega), ih _ _ (by omega) (by omega) (by omega) (by omega), fin1 c (.inl (by omega))]
      · rw [if_neg c]
        by_cases c2 : a ≥ m - a
        · rw [if_pos c2, wu64 (n := a - (m - a)) (by omega) (by omega), ih _ _ (by omega) (by omega) (by omega) (by omega), dbl _ (.inr (by omega)), fin0 (by omega)]
        · rw [if_neg c2, wu64 (n := a + a) (by omega) (by omega), ih _ _ (by omega) (by omega) (by omega) (by omega), fin0 (by omega)]
theorem mulBig_ret {n : Nat} (hn : Big + 1 ≤ n) {a b m : Int} (ha : 0 ≤ a) (ha' : a < m) (hb : 0 ≤ b) (hb' : b < 18446744073709551616) (hm' : m < 18446744073709551616) :
    c_spec_l1MulBig (run tb orc n) a b m = some (a * b % m) := by
  obtain ⟨n, rfl, hq⟩ := up hn
  have hbig := big_ge
  rw [spec_l1MulBig_eq]; unfold spec_l1MulBig_f spec_l1MulBig_x
  refine (mulBig_loop (n := n) (by omega) hm' n a b 0 ha ha' hb (by omega) (by omega) (by omega)).trans ?_
  rw [Int.zero_add]
theorem powBig_ret {n : Nat} (hn : Big + 2 ≤ n) {a e m : Int} (ha : 0 ≤ a) (ha' : a < m) (he : 0 ≤ e) (he' : e < 18446744073709551616) (hm' : m < 18446744073709551616) :
    c_spec_l1PowBig (run tb orc n) a e m = some (a ^ e.toNat % m) := by
  obtain ⟨n, rfl, hq⟩ := up hn
  have hb := big_ge
  rw [spec_l1PowBig_eq]; unfold spec_l1PowBig_f spec_l1PowBig_x
  rw [if_neg (by omega), tmod_nn (by omega)]
  have n1 : ¬ ((1 : Int) < 0) := by omega
  have hm : 0 < m := by omega
  refine (pow_loop (m := m) (lim := 18446744073709551616) hm (fun o => some o) (fun a e o => (a, e, o)) (fun self a e o h1 h2 h3 h4 h5 h6 => ?_) (fun self a o h1 h2 => ?_) n _ _ _ ha ha' he he' (Int.emod_nonneg _ (by omega)) (Int.emod_lt_of_pos _ hm) (by omega)).trans ?_
  · show spec_l1PowBig_x1 _ _ _ _ = _
    unfold spec_l1PowBig_x1
    dsimp only
    rw [if_pos h3, and_u1, shr_u1]
    by_cases c : e % 2 = 1
    · rw [if_pos c, mulBig_ret hq h5 h6 h1 (by omega) hm']
      simp only [Option.bind_some]
      rw [mulBig_ret hq h1 h2 h1 (by omega) hm', if_pos c]
      simp only [Option.bind_some, n1, if_false]
    · rw [if_neg c, mulBig_ret hq h1 h2 h1 (by omega) hm', if_neg c]
      simp only [Option.bind_some, n1, if_false]
  · show spec_l1PowBig_x1 _ _ _ _ = _
    unfold spec_l1PowBig_x1
    dsimp only
    rw [if_neg (by omega)]
  · rw [mul_mod_l, Int.one_mul]
end Go.Proofs.YthanbjnpfenniaaDoor.Fw

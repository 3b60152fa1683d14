/- Coins: the law of NoiseFrom. -/
import Derived.Test.YtnlgciomdghfiaaPCoin
import Derived.Test.YtnlgciomdghfiaaPOnes
namespace Go.Proofs.Ytnlgciomdghfiaa.Fw
open Go Go.RowKit
set_option linter.unusedVariables false

theorem bsN_le (x : Nat) : ∀ k, bsN x k ≤ k
  | 0 => Nat.le_refl _
  | k + 1 => by have := bsN_le x k; show bsN x k + x / 2 ^ k % 2 ≤ k + 1; omega
theorem shrI (a k : Nat) (hk : k ≤ 64) : shr .i64 (a : Int) (k : Int) = ((a / 2 ^ k : Nat) : Int) := by
  unfold shr
  rw [Int.toNat_natCast, Nat.min_eq_left (show k ≤ IntKind.i64.bits from hk), Int.natCast_ediv, Int.natCast_pow]; rfl
theorem bitI (a k : Nat) (hk : k ≤ 64) : Go.bits .and .i64 (shr .i64 (a : Int) (k : Int)) (1:Int) = ((a / 2 ^ k % 2 : Nat) : Int) := by
  rw [shrI a k hk, and_one_i64]; omega
/-- What a word's noise is. -/
def nzN (w b : Nat) : Int := (bsN w b : Int) - (bsN (w / 2 ^ b) b : Int)
theorem noise_loop {R : Type} {w b : Nat} (hb : b ≤ 16) (K : Int × Int → Option R) {G : (Int × Int → Option R) → Int × Int → Option R}
    (hG : ∀ self v, G self v = if v.2 < (b : Int) then (if wr .u64 (v.2) < 0 then none else if wr .u64 (wr .i64 ((b : Int) + v.2)) < 0 then none else self (wr .i64 (v.1 + (wr .i64 ((Go.bits .and .i64 (shr .i64 (w : Int) (wr .u64 (v.2))) (1:Int)) - (Go.bits .and .i64 (shr .i64 (w : Int) (wr .u64 (wr .i64 ((b : Int) + v.2)))) (1:Int))))), wr .i64 (v.2 + (1:Int)))) else K v) :
    ∀ (d k : Nat), k + d = b → ∀ n, d < n → iterO G n ((bsN w k : Int) - (bsN (w / 2 ^ b) k : Int), (k : Int)) = K (nzN w b, (b : Int))
  | 0, k, hk, n, hn => by
    obtain ⟨n, rfl⟩ : ∃ j, n = j + 1 := ⟨n - 1, by omega⟩
    have e : k = b := by omega
    subst e
    rw [iterO_succ, hG, if_neg (by dsimp only; omega)]; rfl
  | d + 1, k, hk, n, hn => by
    obtain ⟨n, rfl⟩ : ∃ j, n = j + 1 := ⟨n - 1, by omega⟩
    have ih := noise_loop hb K hG d (k + 1) (by omega) n (by omega)
    have l1 := bsN_le w k
    have l2 := bsN_le (w / 2 ^ b) k
    rw [iterO_succ, hG]
    dsimp only
    have e1 : (b : Int) + (k : Int) = ((b + k : Nat) : Int) := by omega
    rw [if_pos (by omega), wu64 (n := (k : Int)) (by omega) (by omega), if_neg (by omega), e1, w64 (n := ((b + k : Nat) : Int)) (by omega) (by omega), wu64 (n := ((b + k : Nat) : Int)) (by omega) (by omega), if_neg (by omega), bitI w k (by omega), bitI w (b + k) (by omega)]
    have e2 : w / 2 ^ (b + k) = w / 2 ^ b / 2 ^ k := by rw [Nat.div_div_eq_div_mul, Nat.pow_add]
    have s1 : bsN w (k + 1) = bsN w k + w / 2 ^ k % 2 := rfl
    have s2 : bsN (w / 2 ^ b) (k + 1) = bsN (w / 2 ^ b) k + w / 2 ^ b / 2 ^ k % 2 := rfl
    rw [s1, s2] at ih
    rw [e2]
    have hp : w / 2 ^ k % 2 ≤ 1 := by omega
    have hq : w / 2 ^ b / 2 ^ k % 2 ≤ 1 := by omega
    generalize w / 2 ^ k % 2 = p at ih hp ⊢
    generalize w / 2 ^ b / 2 ^ k % 2 = q at ih hq ⊢
    rw [w64 (n := (p : Int) - (q : Int)) (by omega) (by omega), w64 (n := (k : Int) + 1) (by omega) (by omega), w64 (by omega) (by omega), ni1]
    have e3 : (bsN w k : Int) - (bsN (w / 2 ^ b) k : Int) + ((p : Int) - (q : Int)) = ((bsN w k + p : Nat) : Int) - ((bsN (w / 2 ^ b) k + q : Nat) : Int) := by omega
    rw [e3]
    exact ih
theorem ones_ret {n : Nat} (hn : Big + 3 ≤ n) {y b : Nat} (hb : b ≤ 16) (h0 : 1 ≤ b) (hy : y < 4294967296) : c_impl_coins_noise_1 (run tb orc n) (y : Int) (b : Int) = some ((bsN y b : Nat) : Int) := by
  obtain ⟨n, rfl, hm⟩ := up3 hn
  rw [impl_coins_noise_1_eq]; unfold impl_coins_noise_1_f impl_coins_noise_1_x
  have hp : (2 : Nat) ^ b ≤ 65536 := Nat.pow_le_pow_right (by omega) hb
  have hp0 : 0 < (2 : Nat) ^ b := Nat.pow_pos (by omega)
  have e1 : shl .i64 (1:Int) (b : Int) = ((2 ^ b : Nat) : Int) := by
    unfold shl
    rw [Int.toNat_natCast, Nat.min_eq_left (show b ≤ IntKind.i64.bits by have : IntKind.i64.bits = 64 := rfl; omega), Int.one_mul]
    have : (2 : Int) ^ b = ((2 ^ b : Nat) : Int) := by simp
    rw [this, w64 (by omega) (by omega)]
  have e2 : Go.bits .and .i64 (y : Int) (((2 ^ b : Nat) : Int) - 1) = ((y % 2 ^ b : Nat) : Int) := by
    have := and_mask_i64 (y : Int) b (by omega)
    have e : (2 : Int) ^ b = ((2 ^ b : Nat) : Int) := by simp
    rw [e] at this
    rw [this]; omega
  have hlt : y % 2 ^ b < 2 ^ b := Nat.mod_lt _ hp0
  rw [if_neg (by omega), e1, w64 (n := ((2 ^ b : Nat) : Int) - 1) (by omega) (by omega), e2, wu64 (by omega) (by omega), bits_OnesCount_eq]; unfold bits_OnesCount_f bits_OnesCount_x
  rw [bits_OnesCount64_eq]; unfold bits_OnesCount64_f
  rw [ones_val _ _ (by omega)]
  simp only [Option.bind_some]
  rw [ocN_bs b _ hb hlt]
  have low : ∀ k, k ≤ b → bsN (y % 2 ^ b) k = bsN y k := by
    intro k
    induction k with
    | zero => intro _; rfl
    | succ k ih =>
      intro hk
      show bsN (y % 2 ^ b) k + y % 2 ^ b / 2 ^ k % 2 = bsN y k + y / 2 ^ k % 2
      rw [ih (by omega)]
      have : y % 2 ^ b / 2 ^ k % 2 = y / 2 ^ k % 2 := by
        have t1 := Nat.testBit_mod_two_pow y b k
        simp only [Nat.testBit_eq_decide_div_mod_eq] at t1
        rw [decide_eq_true (by omega : k < b), Bool.true_and] at t1
        have := decide_eq_decide.1 t1
        omega
      rw [this]
  rw [low b (Nat.le_refl _)]
noncomputable def noiB (w : List Int) (a b : Int) : Int × Int × Bool := if (wordsB w a && decide (1 ≤ b ∧ b ≤ 16)) = true then (if a = (w.length : Int) then (0, 0, false) else (nzN (w.getD a.toNat 0).toNat b.toNat, a + 1, true)) else (0, 0, false)
theorem word_at {w : List Int} {i : Nat} (hw : w.all inw = true) (hi : i < w.length) : 0 ≤ w.getD i 0 ∧ w.getD i 0 ≤ 4294967295 := by
  rw [getD_get hi]
  have := List.all_eq_true.1 hw _ (List.getElem_mem hi)
  unfold inw at this
  exact of_decide_eq_true this
theorem noise_s {n : Nat} (hn : Big + 6 ≤ n) {w : List Int} {a b : Int} (hl : w.length < 1099511627776) : c_spec_NoiseFrom (run tb orc n) w a b = some (noiB w a b) := by
  obtain ⟨n, rfl, hm⟩ := up3 hn
  have hbig := big_ge
  rw [spec_NoiseFrom_eq]; unfold spec_NoiseFrom_f spec_NoiseFrom_x noiB
  rw [l7Words_ret (by omega) hl]
  simp only [Option.bind_some]
  cases hw : wordsB w a with
  | false => simp
  | true =>
    rw [if_neg (by simp), spec_l7Noise_eq]; unfold spec_l7Noise_f spec_l7Noise_x
    rw [l1In_ret (by omega)]
    simp only [Option.bind_some]
    by_cases hp : 1 ≤ b ∧ b ≤ 16
    · rw [decide_eq_true hp, if_neg (by simp), if_pos (show (true && true) = true from rfl)]
      unfold wordsB at hw
      simp only [Bool.and_eq_true, decide_eq_true_eq] at hw
      obtain ⟨h1, ⟨h2, h3⟩, h4⟩ := hw
      obtain ⟨bn, rfl⟩ : ∃ bn : Nat, b = bn := ⟨b.toNat, by omega⟩
      obtain ⟨an, rfl⟩ : ∃ an : Nat, a = an := ⟨a.toNat, by omega⟩
      by_cases ha : (an : Int) = (w.length : Int)
      · rw [if_pos (by omega), if_pos ha]
        exact noise_loop (w := 0) (b := bn) (by omega) (fun _ => some ((0 : Int), (0 : Int), false)) (G := spec_NoiseFrom_g1 (run tb orc (n + 2)) (run tb orc (n + 1)) (run tb orc n) (n + 2) (n + 1) n w an bn true true) (fun self v => rfl) bn 0 (by omega) (n + 1) (by omega)
      · have hlt : an < w.length := by omega
        have hx := word_at h4 hlt
        rw [if_neg (by omega), if_neg ha, back1 (by omega), if_pos (by omega), if_pos (by omega), nat_i, nat_i]
        obtain ⟨x, hx'⟩ : ∃ x : Nat, w.getD an 0 = x := ⟨(w.getD an 0).toNat, by omega⟩
        have := noise_loop (w := x) (b := bn) (by omega) (fun v => some (v.1, wr .i64 ((an : Int) + (1:Int)), true)) (G := spec_NoiseFrom_g2 (run tb orc (n + 2)) (run tb orc (n + 1)) (run tb orc n) (n + 2) (n + 1) n w an bn true true) (fun self v => by
          unfold spec_NoiseFrom_g2 spec_NoiseFrom_x2
          rw [back1 (by omega), nat_i, hx']) bn 0 (by omega) (n + 1) (by omega)
        refine Eq.trans this ?_
        dsimp only
        rw [w64 (by omega) (by omega), hx', nat_i]
    · rw [decide_eq_false hp, if_pos (by simp), if_neg (by simp)]
theorem noise_i {n : Nat} (hn : Big + 14 ≤ n) {w : List Int} {a b : Int} (hl : w.length < 1099511627776) : c_impl_NoiseFrom (run tb orc n) w a b = some (noiB w a b) := by
  obtain ⟨n, rfl, hm⟩ := up hn
  have hbig := big_ge
  rw [impl_NoiseFrom_eq]; unfold impl_NoiseFrom_f impl_NoiseFrom_x noiB
  rw [in_ret (by omega)]
  simp only [Option.bind_some]
  obtain ⟨n, rfl, hm'⟩ := up2 hm
  obtain ⟨n, rfl, hm''⟩ := up2 hm'
  rw [impl_drawn_int_eq]; unfold impl_drawn_int_f impl_drawn_int_x
  rw [areWords_ret (by omega) hl]
  simp only [Option.bind_some]
  unfold wordsB
  by_cases h1 : (decide (w.length ≤ 4000) && w.all inw) = true
  · rw [if_pos h1, in_ret (by omega)]
    simp only [Bool.and_eq_true, decide_eq_true_eq] at h1
    simp only [Option.bind_some]
    by_cases h2 : 0 ≤ a ∧ a ≤ (w.length : Int)
    · rw [decide_eq_true h2, if_neg (by simp)]
      by_cases hp : 1 ≤ b ∧ b ≤ 16
      · have hc : (decide (w.length ≤ 4000) && (true && w.all inw) && true) = true := by simp [h1]
        rw [decide_eq_true hp, if_neg (by simp), if_pos hc]
        obtain ⟨bn, rfl⟩ : ∃ bn : Nat, b = bn := ⟨b.toNat, by omega⟩
        obtain ⟨an, rfl⟩ : ∃ an : Nat, a = an := ⟨a.toNat, by omega⟩
        by_cases ha : (an : Int) = (w.length : Int)
        · rw [if_pos ha, if_pos ha]
          have o1 : c_impl_coins_noise_1 (run tb orc (n + 1)) (0:Int) (bn : Int) = some ((bsN 0 bn : Nat) : Int) := ones_ret (y := 0) (by omega) (by omega) (by omega) (by omega)
          have z : shr .i64 (0:Int) (bn : Int) = (0 : Int) := by
            have := shrI 0 bn (by omega)
            simpa using this
          rw [z, o1]
          simp only [Option.bind_some]
          rw [if_neg (by omega)]
          rfl
        · have hlt : an < w.length := by omega
          have hx := word_at h1.2 hlt
          rw [if_neg ha, if_neg ha, back1 (by omega), if_pos (by omega), if_pos (by omega), nat_i, nat_i]
          obtain ⟨x, hx'⟩ : ∃ x : Nat, w.getD an 0 = x := ⟨(w.getD an 0).toNat, by omega⟩
          rw [hx', nat_i, shrI x bn (by omega)]
          have hd : x / 2 ^ bn ≤ x := Nat.div_le_self _ _
          rw [ones_ret (by omega) (by omega) (by omega) (by omega), ones_ret (by omega) (by omega) (by omega) (by omega)]
          simp only [Option.bind_some]
          have l1 := bsN_le x bn
          have l2 := bsN_le (x / 2 ^ bn) bn
          rw [if_neg (by omega), w64 (n := (bsN x bn : Int) - (bsN (x / 2 ^ bn) bn : Int)) (by omega) (by omega), w64 (n := (an : Int) + 1) (by omega) (by omega)]
          rfl
      · rw [decide_eq_false hp, if_pos (by simp), if_neg (by simp)]; rfl
    · rw [decide_eq_false h2, if_pos (by simp), if_neg (by simp)]; rfl
  · rw [if_neg h1]
    simp only [Bool.and_eq_true, decide_eq_true_eq, not_and] at h1
    rw [if_neg (by simp only [Bool.and_eq_true, decide_eq_true_eq]; rintro ⟨⟨h3, _, h4⟩, _⟩; exact h1 h3 h4)]; rfl
theorem lawN {n : Nat} (hn : Big + 16 ≤ n) (w : List Int) (a b : Int) : c_laws_FnExactNoiseFrom (run tb orc n) w a b = some true := by
  obtain ⟨n, rfl, hm⟩ := up hn
  rw [laws_FnExactNoiseFrom_eq]; unfold laws_FnExactNoiseFrom_f laws_FnExactNoiseFrom_x
  by_cases h : (w.length : Int) > 1048576
  · rw [if_pos h]
  have hl : w.length < 1099511627776 := by omega
  rw [if_neg h]
  have e1 : c_laws_toIntS (run tb orc n) w = some w := toIntS_ret (by omega) hl
  have e2 : c_spec_NoiseFrom (run tb orc n) w a b = some (noiB w a b) := noise_s (by omega) hl
  have e3 : c_impl_NoiseFrom (run tb orc n) w a b = some (noiB w a b) := noise_i (by omega) hl
  have e4 : c_laws_eqIntS (run tb orc n) w w = some true := by rw [eqIntS_ret (by omega) hl]; simp
  generalize noiB w a b = r at e2 e3
  have ne : ∀ b : Bool, (b != b) = false := fun b => by simp
  simp only [e1, e2, e3, e4, Option.bind_some, ne, Bool.not_true, Bool.false_eq_true, if_false, if_true]
end Go.Proofs.Ytnlgciomdghfiaa.Fw

/- Division of whole numbers, down: the specification's, and that quotient and rest are settled. -/
import Derived.Test.YtnlgciomdghfiaaPSum
import Derived.Test.YtnlgciomdghfiaaEqDiv
namespace Go.Proofs.Ytnlgciomdghfiaa.Fw
open Go Go.RowKit Go.Proofs.Ytnlgciomdghfiaa.Limbs
set_option linter.unusedVariables false

theorem norm_of_ge {l : List Int} (h : Ok l) (hv : l = [] ∨ B ^ (l.length - 1) ≤ val l) : Norm l := by
  refine ⟨h, fun ys y e => ?_⟩
  rcases hv with hv | hv
  · rw [hv] at e; simp at e
  · rintro rfl
    subst e
    rw [val_snoc, Int.mul_zero, Int.add_zero] at hv
    have h1 := val_lt h.left
    simp at hv
    omega
theorem norm_ge {l : List Int} (h : Norm l) : l = [] ∨ B ^ (l.length - 1) ≤ val l := by
  rcases snoc_cases l with rfl | ⟨ys, y, rfl⟩
  · exact .inl rfl
  · refine .inr ?_
    have := val_ge h
    simpa using this
/-- Twice, and a bit. -/
theorem l2Shift_from {C : Ca tb} {N : Nat} {r : List Int} (hr : Ok r) (hl : r.length ≤ 1048600) : ∀ (d i : Nat) (out : List Int) (c : Int), i + d = r.length → out.length = i → Ok out → 0 ≤ c ∧ c ≤ 1 → ∀ (b : Int), val out + B ^ i * c = 2 * val (r.take i) + b →
    ∃ q, Ok q ∧ val q = 2 * val r + b ∧ (q.length = r.length ∨ q.length = r.length + 1 ∧ B ^ r.length ≤ val q) ∧ ∀ K, d < K → iterO (spec_l2Shift_g1 C N r) K (c, (i : Int), out) = some q
  | 0, i, out, c, hi, ho, hok, hc, b, hv => by
    have hB := B_def
    rw [List.take_of_length_le (by omega)] at hv
    have e : i = r.length := by omega
    by_cases h0 : c = 0
    · subst h0
      refine ⟨out, hok, by omega, .inl (by omega), fun K hK => ?_⟩
      obtain ⟨K, rfl⟩ : ∃ j, K = j + 1 := ⟨K - 1, by omega⟩
      rw [iterO_succ]; unfold spec_l2Shift_g1 spec_l2Shift_x1
      dsimp only
      rw [if_neg (by omega), if_neg (by omega)]
    · have h1 : c = 1 := by omega
      subst h1
      have hv2 : val (out ++ [1]) = 2 * val r + b := by rw [val_snoc, ho]; exact hv
      refine ⟨out ++ [1], hok.snoc (by omega) (by omega), hv2, .inr ⟨by simp; omega, ?_⟩, fun K hK => ?_⟩
      · have := val_nonneg hok
        rw [val_snoc, ho, e]; omega
      · obtain ⟨K, rfl⟩ : ∃ j, K = j + 1 := ⟨K - 1, by omega⟩
        rw [iterO_succ]; unfold spec_l2Shift_g1 spec_l2Shift_x1
        dsimp only
        rw [if_neg (by omega), if_pos (by omega), if_pos (lim_lt (by simp only [List.length_singleton]; omega))]
  | d + 1, i, out, c, hi, ho, hok, hc, b, hv => by
    have hB := B_def
    have ga := ok_getD hr i
    have vt := val_take_succ r i
    generalize hA : r.getD i 0 = A at ga vt
    have st := Int.emod_add_mul_ediv (c + 2 * A) B
    have m0 : 0 ≤ (c + 2 * A) % B := Int.emod_nonneg _ (by omega)
    have m1 : (c + 2 * A) % B < B := Int.emod_lt_of_pos _ (by omega)
    have q : 0 ≤ (c + 2 * A) / B ∧ (c + 2 * A) / B ≤ 1 := by rw [hB] at *; omega
    obtain ⟨r', hr1, hr2, hr3, hr4⟩ := l2Shift_from (C := C) (N := N) hr hl d (i + 1) (out ++ [(c + 2 * A) % B]) ((c + 2 * A) / B) (by omega) (by simp [ho]) (hok.snoc m0 m1) q b (by
      rw [val_snoc, ho, vt, Int.pow_succ]
      have e1 : B ^ i * ((c + 2 * A) % B) + B ^ i * B * ((c + 2 * A) / B) = B ^ i * (c + 2 * A) := by
        rw [Int.mul_assoc, ← Int.mul_add, st]
      rw [Int.mul_add] at e1
      have e2 : B ^ i * (2 * A) = 2 * (B ^ i * A) := by rw [← Int.mul_assoc, Int.mul_comm (B ^ i) 2, Int.mul_assoc]
      rw [Int.mul_add]
      omega)
    refine ⟨r', hr1, hr2, hr3, fun K hK => ?_⟩
    obtain ⟨K, rfl⟩ : ∃ j, K = j + 1 := ⟨K - 1, by omega⟩
    have ih := hr4 K (by omega)
    rw [iterO_succ]
    generalize iterO (spec_l2Shift_g1 C N r) K = S at ih ⊢
    unfold spec_l2Shift_g1 spec_l2Shift_x1
    dsimp only
    rw [hB] at ih q
    rw [if_pos (by omega), if_pos (by omega), if_pos (by omega), if_neg (by omega), nat_i, hA, w64 (n := 2 * A) (by omega) (by omega), w64 (n := c + 2 * A) (by omega) (by omega), tmod_nn (by omega), tdiv_nn (by omega), if_pos (lim_lt (by simp only [List.length_singleton]; omega)), if_neg (by omega), w64 (n := (c + 2 * A) / 268435456) (by omega) (by omega), w64 (by omega) (by omega), ni1]
    exact ih
theorem l2Shift_ret {n : Nat} (hn : Big + 1 ≤ n) {r : List Int} {b : Int} (hr : Norm r) (hl : r.length ≤ 1048600) (hb : 0 ≤ b ∧ b ≤ 1) :
    ∃ q, Norm q ∧ val q = 2 * val r + b ∧ q.length ≤ r.length + 1 ∧ c_spec_l2Shift (run tb orc n) r b = some q := by
  obtain ⟨n, rfl, hn'⟩ := up hn
  have hbig := big_ge
  obtain ⟨q, h1, h2, h3, h4⟩ := l2Shift_from (C := run tb orc n) (N := n) hr.ok hl r.length 0 [] b (by omega) rfl Ok.nil hb b (by simp)
  refine ⟨q, norm_of_ge h1 ?_, h2, by omega, ?_⟩
  · have pos := val_nonneg hr.ok
    rcases h3 with h3 | ⟨h3, h5⟩
    · rcases norm_ge hr with e | e
      · subst e
        exact .inl (List.eq_nil_of_length_eq_zero h3)
      · right; rw [h3]; omega
    · right; rw [h3]; simpa using h5
  · rw [spec_l2Shift_eq]; unfold spec_l2Shift_f spec_l2Shift_x
    exact h4 n (by omega)
/-- By one limb: from the top down. -/
theorem l2Div1_from {n : Nat} (hn : Big + 1 ≤ n) {a : List Int} {y : Int} (ha : Ok a) (hy : 0 < y ∧ y < B) (hl : a.length ≤ 1048600) : ∀ (i : Nat) (out : List Int) (r : Int), i ≤ a.length → out.length = a.length → Ok out → 0 ≤ r ∧ r < y →
    val (a.drop i) = val (out.drop i) * y + r → (∀ j, j < i → out.getD j 0 = 0) →
    ∃ q s, Norm q ∧ Norm s ∧ val a = val q * y + val s ∧ val s < y ∧ q.length ≤ a.length ∧ s.length ≤ 1 ∧ ∀ K, i < K → iterO (spec_l2Div_g1 (run tb orc n) n a [y]) K (r, (i : Int) - 1, out) = some (q, s)
  | 0, out, r, hi, ho, hok, hr, hv, hz => by
    have hB := B_def
    rw [List.drop_zero, List.drop_zero] at hv
    have fin : ∀ K, 0 < K → iterO (spec_l2Div_g1 (run tb orc n) n a [y]) K (r, ((0 : Nat) : Int) - 1, out) = some (Limbs.trim out, if r = 0 then [] else [r]) := by
      intro K hK
      obtain ⟨K, rfl⟩ : ∃ j, K = j + 1 := ⟨K - 1, by omega⟩
      rw [iterO_succ]; unfold spec_l2Div_g1 spec_l2Div_x1
      dsimp only
      rw [if_neg (by omega), l2Trim_ret hn (by omega)]
      by_cases h : r = 0
      · rw [if_pos h, if_pos h]; rfl
      · rw [if_neg h, if_neg h]; rfl
    refine ⟨Limbs.trim out, if r = 0 then [] else [r], trim_norm hok, ?_, ?_, ?_, by have := trim_length_le out; omega, by split <;> simp, fin⟩
    · split
      · exact Norm.nil
      · rename_i h
        refine norm_of_ge (Ok.cons hr.1 (by omega) Ok.nil) (.inr ?_)
        rw [val_one]; simp; omega
    · rw [val_trim, hv]
      split
      · rename_i h; rw [h]; simp
      · rw [val_one]
    · split
      · simp; omega
      · rw [val_one]; exact hr.2
  | i + 1, out, r, hi, ho, hok, hr, hv, hz => by
    have hB := B_def
    have ga := ok_getD ha i
    have hlt : i < a.length := by omega
    have hlo : i < out.length := by omega
    have da : val (a.drop i) = a.getD i 0 + B * val (a.drop (i + 1)) := by rw [List.drop_eq_getElem_cons hlt, val_cons, getD_get hlt]
    generalize hA : a.getD i 0 = A at ga da
    have yB : y < 268435456 := by rw [← hB]; exact hy.2
    have aB : A < 268435456 := by rw [← hB]; exact ga.2
    have p1 : 0 ≤ r * 268435456 + A := by omega
    have p2 : r * 268435456 + A ≤ 72057594037927936 := by omega
    have dm := Int.emod_add_mul_ediv (r * 268435456 + A) y
    have q0 : 0 ≤ (r * 268435456 + A) / y := Int.ediv_nonneg p1 (by omega)
    have q1 : (r * 268435456 + A) / y < B := by
      rw [Int.ediv_lt_iff_lt_mul hy.1]
      rw [hB]
      have : (r + 1) * 268435456 ≤ y * 268435456 := Int.mul_le_mul_of_nonneg_right (by omega) (by omega)
      rw [hB] at ga
      omega
    have r0 : 0 ≤ (r * 268435456 + A) % y := Int.emod_nonneg _ (by omega)
    have r1 : (r * 268435456 + A) % y < y := Int.emod_lt_of_pos _ hy.1
    have ds : (out.set i ((r * 268435456 + A) / y)).drop i = ((r * 268435456 + A) / y) :: out.drop (i + 1) := by
      rw [List.drop_eq_getElem_cons (by simpa using hlo), List.getElem_set_self, List.drop_set_of_lt (by omega)]
    obtain ⟨q, s, h1, h2, h3, h4, h5, h6, h7⟩ := l2Div1_from hn ha hy hl i (out.set i ((r * 268435456 + A) / y)) ((r * 268435456 + A) % y) (by omega) (by simpa using ho) (ok_set hok q0 q1) ⟨r0, r1⟩ (by
      rw [ds, val_cons, da, hv, hB]
      rw [Int.mul_add, Int.add_mul]
      have e1 : 268435456 * (val (out.drop (i + 1)) * y) = 268435456 * val (out.drop (i + 1)) * y := by rw [Int.mul_assoc]
      have e2 : (r * 268435456 + A) / y * y = y * ((r * 268435456 + A) / y) := Int.mul_comm _ _
      rw [e1, e2]
      omega) (fun j hj => by rw [getD_set_ne (by omega)]; exact hz j (by omega))
    refine ⟨q, s, h1, h2, h3, h4, h5, h6, fun K hK => ?_⟩
    obtain ⟨K, rfl⟩ : ∃ j, K = j + 1 := ⟨K - 1, by omega⟩
    have ih := h7 K (by omega)
    rw [iterO_succ]
    generalize iterO (spec_l2Div_g1 (run tb orc n) n a [y]) K = S at ih ⊢
    unfold spec_l2Div_g1 spec_l2Div_x1
    dsimp only
    have e : (((i + 1 : Nat) : Int) - 1) = (i : Int) := by omega
    have y0 : ([y] : List Int).getD (0:Int).toNat (0:Int) = y := rfl
    have yl : (([y] : List Int).length : Int) = 1 := rfl
    rw [e, y0, yl, if_pos (by omega), if_pos (by omega), if_pos (by omega), if_pos (by omega), if_pos (by omega), if_neg (by omega), if_pos (by omega), if_pos (by omega), if_pos (by omega), if_pos (by omega), if_neg (by omega), nat_i, hA,
      w64 (n := r * 268435456) (by omega) (by omega), w64 (n := r * 268435456 + A) (by omega) (by omega), tmod_nn p1, tdiv_nn p1, w64 (n := (r * 268435456 + A) / y) (Int.le_trans (by decide) q0) (Int.le_of_lt (Int.lt_of_lt_of_le q1 (by rw [hB]; decide))), w64 (by omega) (by omega)]
    exact ih
end Go.Proofs.Ytnlgciomdghfiaa.Fw

namespace Go.Proofs.Ytnlgciomdghfiaa.Fw
open Go Go.RowKit Go.Proofs.Ytnlgciomdghfiaa.Limbs
set_option linter.unusedVariables false

theorem shl_one {k : Nat} (hk : k ≤ 27) : shl .i64 (1:Int) (k : Int) = (2 : Int) ^ k := by
  have hp : (2 : Nat) ^ k ≤ 134217728 := Nat.pow_le_pow_right (by omega) hk
  have e : (2 : Int) ^ k = ((2 ^ k : Nat) : Int) := by simp
  unfold shl
  rw [Int.toNat_natCast, Nat.min_eq_left (show k ≤ IntKind.i64.bits by have : IntKind.i64.bits = 64 := rfl; omega), Int.one_mul, e]
  generalize (2 : Nat) ^ k = p at hp
  exact w64 (by omega) (by omega)
theorem bit_at {A : Int} (hA : 0 ≤ A) {k : Nat} (hk : k ≤ 27) : Go.bits .and .i64 (shr .i64 A (k : Int)) (1:Int) = A / 2 ^ k % 2 := by
  unfold shr
  rw [Int.toNat_natCast, Nat.min_eq_left (show k ≤ IntKind.i64.bits by have : IntKind.i64.bits = 64 := rfl; omega), and_one_i64]
theorem len_of_lt {a b : List Int} (ha : Norm a) (hb : Norm b) (h : val a < val b) : a.length ≤ b.length := len_le hb ha (by omega)
/-- The bits of one limb. -/
theorem bits_from {n : Nat} (hn : Big + 2 ≤ n) {a b : List Int} (ha : Ok a) (hb : Norm b) (hb0 : 0 < val b) (hla : a.length ≤ 1048576) (hlb : b.length ≤ 1048576) {i : Nat} (hi : i < a.length) {X : Int} (hX : X = val (a.drop (i + 1))) : ∀ (k : Nat) (r out : List Int) (t P : Int), k ≤ 28 → Norm r → val r < val b → out.length = a.length → Ok out → out.getD i 0 = 2 ^ k * t → 0 ≤ t → P * 2 ^ k = B → t < P →
    X * P + a.getD i 0 / 2 ^ k = (val (out.drop (i + 1)) * P + t) * val b + val r →
    ∃ r' out', Norm r' ∧ val r' < val b ∧ out'.length = a.length ∧ Ok out' ∧ (∀ j, j < i → out'.getD j 0 = out.getD j 0) ∧ val (a.drop i) = val (out'.drop i) * val b + val r' ∧
      ∀ (S : List Int × Int × List Int → Option (List Int × List Int)) (v : List Int × List Int) K, k < K → iterO (spec_l2Div_g3 (run tb orc n) n S a b (v.1, (i : Int), v.2)) K (r, (k : Int) - 1, out) = S (r', (i : Int) - 1, out')
  | 0, r, out, t, P, hk, hr, hrv, ho, hok, ht, ht0, hP, htP, hv => by
    have hB := B_def
    have hlt : i < a.length := hi
    have hlo : i < out.length := by omega
    refine ⟨r, out, hr, hrv, ho, hok, fun _ _ => rfl, ?_, fun S v K hK => ?_⟩
    · rw [List.drop_eq_getElem_cons hlt, List.drop_eq_getElem_cons hlo, val_cons, val_cons, ← hX]
      rw [getD_get hlt] at hv
      rw [getD_get hlo] at ht
      simp only [Int.pow_zero, Int.mul_one, Int.one_mul, Int.ediv_one] at hv ht hP
      subst hP
      rw [ht, Int.add_comm t, Int.mul_comm B (val (out.drop (i + 1))), ← hv, Int.mul_comm X]; omega
    · obtain ⟨K, rfl⟩ : ∃ j, K = j + 1 := ⟨K - 1, by omega⟩
      rw [iterO_succ]; unfold spec_l2Div_g3 spec_l2Div_x3
      dsimp only
      rw [if_neg (by omega), w64 (by omega) (by omega)]
  | k + 1, r, out, t, P, hk, hr, hrv, ho, hok, ht, ht0, hP, htP, hv => by
    have hB := B_def
    have hbig := big_ge
    have ga := ok_getD ha i
    have hrl := len_of_lt hr hb hrv
    have hr0 := val_nonneg hr.ok
    have hp2 : (0 : Int) < 2 ^ k := Int.pow_pos (by omega)
    have pk : (2 : Int) ^ (k + 1) = 2 ^ k * 2 := Int.pow_succ 2 k
    have hlo : i < out.length := by omega
    generalize hA : a.getD i 0 = A at ga hv
    have hdd : A / 2 ^ (k + 1) = A / 2 ^ k / 2 := by rw [pk, Int.ediv_ediv_of_nonneg (by omega)]
    have hbit : 0 ≤ A / 2 ^ k % 2 ∧ A / 2 ^ k % 2 ≤ 1 := by omega
    obtain ⟨q, q1, q2, q3, q4⟩ := l2Shift_ret (n := n) (by omega) hr (by omega) hbit
    -- the sums
    have hX' : X * (P * 2) + A / 2 ^ k = (val (out.drop (i + 1)) * (P * 2) + 2 * t) * val b + val q := by
      rw [hdd] at hv
      have e1 : X * (P * 2) = X * P * 2 := by rw [Int.mul_assoc]
      have e2 : val (out.drop (i + 1)) * (P * 2) + 2 * t = 2 * (val (out.drop (i + 1)) * P + t) := by
        rw [← Int.mul_assoc, Int.mul_add]; omega
      rw [e1, e2, Int.mul_assoc 2 (val (out.drop (i + 1)) * P + t) (val b), q2]
      omega
    have hP2 : P * 2 * 2 ^ k = B := by rw [Int.mul_assoc, Int.mul_comm 2, ← pk]; exact hP
    have ht2 : out.getD i 0 = 2 ^ k * (2 * t) := by rw [ht, pk, Int.mul_assoc]
    have step : ∀ (S : List Int × Int × List Int → Option (List Int × List Int)) (v : List Int × List Int) (K : Nat) (T : List Int × Int × List Int → Option (List Int × List Int)), spec_l2Div_g3 (run tb orc n) n S a b (v.1, (i : Int), v.2) T (r, ((k + 1 : Nat) : Int) - 1, out) =
        (if ordV q b ≥ (0:Int) then (c_spec_l2Sub (run tb orc n) q b).bind fun (d5 : List Int) => T (d5, (k : Int) - 1, out.set i (2 ^ k * (2 * t) + 2 ^ k)) else T (q, (k : Int) - 1, out)) := by
      intro S v K T
      unfold spec_l2Div_g3 spec_l2Div_x3
      dsimp only
      have e : ((k + 1 : Nat) : Int) - 1 = (k : Int) := by omega
      have hpk : (2 : Int) ^ k ≤ 134217728 := by
        have h : (2 : Nat) ^ k ≤ 2 ^ 27 := Nat.pow_le_pow_right (by omega) (by omega)
        have e : (2 : Int) ^ k = ((2 ^ k : Nat) : Int) := by simp
        rw [e]; omega
      have go := ok_getD hok i
      rw [ht2] at go
      rw [e, if_pos (by omega), if_pos (by omega), if_pos (by omega), wu64 (n := (k : Int)) (by omega) (by omega), if_neg (by omega), nat_i, hA, bit_at (by omega) (by omega), q4]
      simp only [Option.bind_some]
      rw [l2Cmp_ret (by omega) q1 hb (by omega)]
      simp only [Option.bind_some]
      by_cases hc : ordV q b ≥ (0:Int)
      · rw [if_pos hc, if_pos hc]
        cases hs : c_spec_l2Sub (run tb orc n) q b with
        | none => rfl
        | some d5 =>
          simp only [Option.bind_some]
          rw [if_pos (show (0:Int) ≤ (i : Int) by omega), if_pos (show (i : Int) < (out.length : Int) by omega), if_neg (by omega), if_pos (show (0:Int) ≤ (i : Int) by omega), if_pos (show (i : Int) < (out.length : Int) by omega), ht2, shl_one (by omega), w64 (n := 2 ^ k * (2 * t) + 2 ^ k) (by omega) (by omega), w64 (n := (k : Int) - 1) (by omega) (by omega)]
      · rw [if_neg hc, if_neg hc, w64 (n := (k : Int) - 1) (by omega) (by omega)]
    by_cases hge : val b ≤ val q
    · obtain ⟨r1, s1, s2, s3, s4⟩ := l2Sub_ret (n := n) (by omega) q1 hb (by omega) hge
      have hpos : 0 ≤ 2 ^ k * (2 * t) + 2 ^ k := by have := Int.mul_nonneg (Int.le_of_lt hp2) (show 0 ≤ 2 * t by omega); omega
      have hlt : 2 ^ k * (2 * t) + 2 ^ k < B := by
        have e : 2 ^ k * (2 * t) + 2 ^ k = 2 ^ k * (2 * t + 1) := by rw [Int.mul_add, Int.mul_one]
        rw [e, ← hP2, Int.mul_comm (P * 2)]
        exact Int.mul_lt_mul_of_pos_left (by omega) hp2
      obtain ⟨r', out', h1, h2, h3, h4, h5, h6, h7⟩ := bits_from hn ha hb hb0 hla hlb hi hX k r1 (out.set i (2 ^ k * (2 * t) + 2 ^ k)) (2 * t + 1) (P * 2) (by omega) s1 (by omega) (by simpa using ho) (ok_set hok hpos hlt) (by
        rw [getD_set_eq hlo, Int.mul_add (2 ^ k) (2 * t) 1, Int.mul_one]) (by omega) hP2 (by omega) (by
        rw [hA, List.drop_set_of_lt (by omega), hX', s2, ← Int.add_assoc, Int.add_mul _ 1, Int.one_mul]; omega)
      refine ⟨r', out', h1, h2, h3, h4, fun j hj => by rw [h5 j hj, getD_set_ne (by omega)], h6, fun S v K hK => ?_⟩
      obtain ⟨K, rfl⟩ : ∃ j, K = j + 1 := ⟨K - 1, by omega⟩
      rw [iterO_succ, step S v K, if_pos (ordV_ge hge), s4]
      exact h7 S v K (by omega)
    · obtain ⟨r', out', h1, h2, h3, h4, h5, h6, h7⟩ := bits_from hn ha hb hb0 hla hlb hi hX k q out (2 * t) (P * 2) (by omega) q1 (by omega) ho hok ht2 (by omega) hP2 (by omega) (by rw [hA]; exact hX')
      refine ⟨r', out', h1, h2, h3, h4, h5, h6, fun S v K hK => ?_⟩
      obtain ⟨K, rfl⟩ : ∃ j, K = j + 1 := ⟨K - 1, by omega⟩
      rw [iterO_succ, step S v K, ordV_lt (by omega), if_neg (by omega)]
      exact h7 S v K (by omega)
/-- The limbs, from the top down. -/
theorem l2Div2_from {n : Nat} (hn : Big + 2 ≤ n) {a b : List Int} (ha : Ok a) (hb : Norm b) (hb0 : 0 < val b) (hla : a.length ≤ 1048576) (hlb : b.length ≤ 1048576) : ∀ (i : Nat) (r out : List Int), i ≤ a.length → Norm r → val r < val b → out.length = a.length → Ok out → (∀ j, j < i → out.getD j 0 = 0) →
    val (a.drop i) = val (out.drop i) * val b + val r →
    ∃ q s, Norm q ∧ Norm s ∧ val a = val q * val b + val s ∧ val s < val b ∧ q.length ≤ a.length ∧ ∀ K, i < K → iterO (spec_l2Div_g2 (run tb orc n) n a b) K (r, (i : Int) - 1, out) = some (q, s)
  | 0, r, out, hi, hr, hrv, ho, hok, hz, hv => by
    rw [List.drop_zero, List.drop_zero] at hv
    refine ⟨Limbs.trim out, r, trim_norm hok, hr, by rw [val_trim]; exact hv, hrv, by have := trim_length_le out; omega, fun K hK => ?_⟩
    obtain ⟨K, rfl⟩ : ∃ j, K = j + 1 := ⟨K - 1, by omega⟩
    rw [iterO_succ]; unfold spec_l2Div_g2 spec_l2Div_x2
    dsimp only
    rw [if_neg (by omega), l2Trim_ret (by omega) (by omega)]; rfl
  | i + 1, r, out, hi, hr, hrv, ho, hok, hz, hv => by
    have hB := B_def
    have hbig := big_ge
    have ga := ok_getD ha i
    have p28 : (2 : Int) ^ 28 = 268435456 := by decide
    have e0 : a.getD i 0 / 2 ^ 28 = 0 := Int.ediv_eq_zero_of_lt ga.1 (by rw [p28, ← hB]; exact ga.2)
    obtain ⟨r', out', h1, h2, h3, h4, h5, h6, h7⟩ := bits_from hn ha hb hb0 hla hlb (i := i) (by omega) rfl 28 r out 0 1 (by omega) hr hrv ho hok (by rw [hz i (by omega)]; simp) (by omega) (by rw [hB]; decide) (by omega) (by
      rw [e0, Int.mul_one, Int.mul_one, Int.add_zero, Int.add_zero]; exact hv)
    obtain ⟨q, s, g1, g2, g3, g4, g5, g6⟩ := l2Div2_from hn ha hb hb0 hla hlb i r' out' (by omega) h1 h2 h3 h4 (fun j hj => by rw [h5 j hj]; exact hz j (by omega)) h6
    refine ⟨q, s, g1, g2, g3, g4, g5, fun K hK => ?_⟩
    obtain ⟨K, rfl⟩ : ∃ j, K = j + 1 := ⟨K - 1, by omega⟩
    have ih := g6 K (by omega)
    rw [iterO_succ]
    generalize iterO (spec_l2Div_g2 (run tb orc n) n a b) K = S at ih ⊢
    unfold spec_l2Div_g2 spec_l2Div_x2
    dsimp only
    have e : ((i + 1 : Nat) : Int) - 1 = (i : Int) := by omega
    rw [e, if_pos (by omega)]
    exact (h7 S (r, out) n (by omega)).trans ih
theorem l2Div_ret {n : Nat} (hn : Big + 3 ≤ n) {a b : List Int} (ha : Norm a) (hb : Norm b) (hb0 : b ≠ []) (hla : a.length ≤ 1048576) (hlb : b.length ≤ 1048576) :
    ∃ q s, Norm q ∧ Norm s ∧ val a = val q * val b + val s ∧ val s < val b ∧ q.length ≤ a.length ∧ c_spec_l2Div (run tb orc n) a b = some (q, s) := by
  obtain ⟨n, rfl, hm⟩ := up hn
  have hbig := big_ge
  have vb := hb.pos hb0
  have e : ∀ j, (List.replicate a.length (0:Int)).getD j 0 = 0 := fun j => by rw [List.getD_eq_getElem?_getD, List.getElem?_replicate]; split <;> rfl
  have ok : Ok (List.replicate a.length (0:Int)) := fun x hx => by rw [(List.mem_replicate.1 hx).2]; exact ⟨Int.le_refl _, B_pos⟩
  have d1 : a.drop a.length = [] := List.drop_of_length_le (Nat.le_refl _)
  have d2 : (List.replicate a.length (0:Int)).drop a.length = [] := List.drop_of_length_le (by simp)
  have w : wr .i64 ((a.length : Int) - (1:Int)) = (a.length : Int) - 1 := w64 (by omega) (by omega)
  by_cases h1 : b.length = 1
  · obtain ⟨y, rfl⟩ : ∃ y, b = [y] := by
      match b, h1 with
      | [y], _ => exact ⟨y, rfl⟩
    have hy := hb.ok.head
    rw [val_one] at vb
    obtain ⟨q, s, g1, g2, g3, g4, g5, _, g6⟩ := l2Div1_from (n := n) (by omega) ha.ok (y := y) ⟨vb, hy.2⟩ (by omega) a.length (List.replicate a.length 0) 0 (Nat.le_refl _) (by simp) ok ⟨Int.le_refl _, vb⟩ (by rw [d1, d2]; simp) (fun j _ => e j)
    refine ⟨q, s, g1, g2, by rw [val_one]; exact g3, by rw [val_one]; exact g4, g5, ?_⟩
    rw [spec_l2Div_eq]; unfold spec_l2Div_f spec_l2Div_x
    rw [if_pos (by simp), if_pos (by omega), nat_i, if_pos (limB_lt (by omega)), w]
    exact g6 n (by omega)
  · obtain ⟨q, s, g1, g2, g3, g4, g5, g6⟩ := l2Div2_from (n := n) (by omega) ha.ok hb vb hla hlb a.length [] (List.replicate a.length 0) (Nat.le_refl _) Norm.nil (by simpa using vb) (by simp) ok (fun j _ => e j) (by rw [d1, d2]; simp)
    refine ⟨q, s, g1, g2, g3, g4, g5, ?_⟩
    rw [spec_l2Div_eq]; unfold spec_l2Div_f spec_l2Div_x
    rw [if_neg (by omega), if_pos (by omega), nat_i, if_pos (limB_lt (by omega)), w]
    exact g6 n (by omega)
end Go.Proofs.Ytnlgciomdghfiaa.Fw

namespace Go.Proofs.Ytnlgciomdghfiaa.Fw
open Go Go.RowKit Go.Proofs.Ytnlgciomdghfiaa.Limbs
set_option linter.unusedVariables false

/-- The quotient down and what is left. -/
structure DownOk (s : Bool) (a b : List Int) (t : Bool) (q r : List Int) : Prop where
  cq : Can t q
  cr : Norm r
  cv : sv s a = sv t q * val b + val r
  lt : val r < val b
theorem DownOk.unique {s : Bool} {a b : List Int} {t t' : Bool} {q q' r r' : List Int} (h : DownOk s a b t q r) (h' : DownOk s a b t' q' r') : t = t' ∧ q = q' ∧ r = r' := by
  have r0 := val_nonneg h.cr.ok
  have r0' := val_nonneg h'.cr.ok
  have l := h.lt
  have l' := h'.lt
  have e : sv t q * val b + val r = sv t' q' * val b + val r' := by rw [← h.cv, ← h'.cv]
  have hV : 0 < val b := by omega
  have hq : sv t q = sv t' q' := by
    have e1 : (sv t q * val b + val r) / val b = sv t q := by
      rw [Int.add_comm, Int.add_mul_ediv_right _ _ (by omega), Int.ediv_eq_zero_of_lt r0 l, Int.zero_add]
    have e2 : (sv t' q' * val b + val r') / val b = sv t' q' := by
      rw [Int.add_comm, Int.add_mul_ediv_right _ _ (by omega), Int.ediv_eq_zero_of_lt r0' l', Int.zero_add]
    rw [← e1, e, e2]
  have hr : val r = val r' := by rw [hq] at e; omega
  obtain ⟨h1, h2⟩ := can_inj h.cq h'.cq hq
  exact ⟨h1, h2, norm_inj h.cr h'.cr hr⟩
theorem norm_one : Norm [(1:Int)] := norm_of_ge (Ok.cons (by omega) (by rw [B_def]; omega) Ok.nil) (.inr (by rw [val_one]; simp))
theorem l2Down_ret {n : Nat} (hn : Big + 4 ≤ n) {s : Bool} {a b : List Int} (ha : Can s a) (hb : Norm b) (hb0 : b ≠ []) (hla : a.length ≤ 1048576) (hlb : b.length ≤ 1048576) :
    ∃ t q r, DownOk s a b t q r ∧ q.length ≤ a.length + 2 ∧ r.length ≤ b.length ∧ c_spec_l2Down (run tb orc n) s a b = some ((t, q), r) := by
  obtain ⟨n, rfl, hm⟩ := up hn
  have vb := hb.pos hb0
  obtain ⟨q, r, h1, h2, h3, h4, h5, h6⟩ := l2Div_ret (n := n) (by omega) ha.1 hb hb0 hla hlb
  have r0 := val_nonneg h2.ok
  have hrl := len_of_lt h2 hb h4
  rw [spec_l2Down_eq]; unfold spec_l2Down_f spec_l2Down_x
  rw [h6]
  simp only [Option.bind_some]
  cases s with
  | false => exact ⟨false, q, r, ⟨⟨h1, fun _ => rfl⟩, h2, by simp only [sv_false]; exact h3, h4⟩, by omega, hrl, rfl⟩
  | true =>
    by_cases hr : 0 < r.length
    · have hr1 : 0 < val r := h2.pos (List.length_pos_iff.1 hr)
      obtain ⟨q', g1, g2, g3, g4⟩ := l2Add_ret (n := n) (by omega) h1.ok norm_one.ok (by simp; omega)
      obtain ⟨r', k1, k2, k3, k4⟩ := l2Sub_ret (n := n) (by omega) hb h2 (by omega) (by omega)
      have q0 := val_nonneg h1.ok
      rw [val_one] at g2
      have hq' : q' ≠ [] := by rintro rfl; simp at g2; omega
      refine ⟨true, q', r', ⟨⟨g1, fun e => absurd e hq'⟩, k1, ?_, by omega⟩, by simp at g3; omega, k3, ?_⟩
      · simp only [sv_true]
        rw [g2, k2, h3, Int.neg_mul, Int.add_mul, Int.one_mul]; omega
      · rw [if_neg (by simp), if_pos (by omega), g4, k4]
        have : 0 < q'.length := List.length_pos_iff.2 hq'
        simp only [Option.bind_some]
        rw [decide_eq_true (by omega : (q'.length : Int) > 0)]
    · have hr' : r = [] := List.eq_nil_of_length_eq_zero (by omega)
      subst hr'
      refine ⟨decide ((q.length : Int) > 0), q, [], ⟨⟨h1, fun e => by subst e; rfl⟩, h2, ?_, h4⟩, by omega, by simp, ?_⟩
      · by_cases hq : q = []
        · subst hq
          have e : sv (decide ((([] : List Int).length : Int) > 0)) [] = 0 := rfl
          rw [e, sv_true, h3]
          simp
        · have : 0 < q.length := List.length_pos_iff.2 hq
          rw [decide_eq_true (by omega : (q.length : Int) > 0)]
          simp only [sv_true]
          rw [h3, Int.neg_mul]; simp
      · rw [if_neg (by simp), if_neg (by omega)]
end Go.Proofs.Ytnlgciomdghfiaa.Fw

/- Sums of limbs: the specification. -/
import Derived.Test.YthanbjnpfenniaaDoorPSgn
import Derived.Test.YthanbjnpfenniaaDoorEqAd
namespace Go.Proofs.YthanbjnpfenniaaDoor.Fw
open Go Go.RowKit Go.Proofs.YthanbjnpfenniaaDoor.Limbs
set_option linter.unusedVariables false
set_option linter.unusedSimpArgs false

theorem l2Add_step {C : Ca tb} {N : Nat} (a b out : List Int) (c : Int) (i : Nat) (ha : Ok a) (hb : Ok b) (hc : 0 ≤ c ∧ c ≤ 1) (hi : i < max a.length b.length ∨ 0 < c) (hm : i ≤ 1048601) (ho : out.length = i) (self : Int × Int × List Int → Option (List Int)) :
    spec_l2Add_g1 C N a b self (c, (i : Int), out) = self ((c + a.getD i 0 + b.getD i 0) / B, ((i + 1 : Nat) : Int), out ++ [(c + a.getD i 0 + b.getD i 0) % B]) := by
  have hB := B_def
  have ga := ok_getD ha i
  have gb := ok_getD hb i
  have hlim : out.length + 1 < lim := lim_lt (by omega)
  have e1 : (c + a.getD i 0 + b.getD i 0).tdiv 268435456 = (c + a.getD i 0 + b.getD i 0) / 268435456 := tdiv_nn (by omega)
  have e2 : (c + a.getD i 0 + b.getD i 0).tmod 268435456 = (c + a.getD i 0 + b.getD i 0) % 268435456 := tmod_nn (by omega)
  have e3 : wr .i64 (c + a.getD i 0 + b.getD i 0) = c + a.getD i 0 + b.getD i 0 := w64 (by omega) (by omega)
  have e4 : wr .i64 ((c + a.getD i 0 + b.getD i 0) / 268435456) = (c + a.getD i 0 + b.getD i 0) / 268435456 := w64 (by omega) (by omega)
  have e5 : wr .i64 ((i : Int) + 1) = ((i + 1 : Nat) : Int) := by rw [w64 (by omega) (by omega), ni1]
  have e6 : wr .i64 (c + a.getD i 0) = c + a.getD i 0 := w64 (by omega) (by omega)
  have d0 : ¬ ((268435456 : Int) = 0) := by omega
  unfold spec_l2Add_g1 spec_l2Add_x1
  dsimp only
  simp only [List.length_singleton, if_neg d0, if_pos hlim, nat_i, e5]
  by_cases h1 : i < a.length
  · rw [if_pos (by omega), if_pos (by omega), if_pos (by omega), if_pos (by omega)]
    by_cases h2 : i < b.length
    · rw [if_pos (by omega), if_pos (by omega), if_pos (by omega), e6, e3, e1, e2, e4, hB]
    · have hz := getD_out (by omega : b.length ≤ i)
      rw [hz, Int.add_zero] at e1 e2 e3 e4
      rw [if_neg (by omega), hz, Int.add_zero, e3, e1, e2, e4, hB]
  · have hz := getD_out (by omega : a.length ≤ i)
    rw [hz, Int.add_zero] at e1 e2 e3 e4
    rw [if_neg (by omega), hz, Int.add_zero]
    by_cases h2 : i < b.length
    · rw [if_pos (by omega), if_neg (by omega), if_pos (by omega), if_pos (by omega), if_pos (by omega), e3, e1, e2, e4, hB]
    · have hz2 := getD_out (by omega : b.length ≤ i)
      rw [hz2, Int.add_zero] at e1 e2 e3 e4
      have hcp : 0 < c := hi.resolve_left (by omega)
      rw [if_neg (by omega), if_pos (by omega), if_neg (by omega), if_neg (by omega), hz2, Int.add_zero, e1, e2, e4, hB]
theorem l2Add_from {n : Nat} (hn : Big + 1 ≤ n) (a b : List Int) (ha : Ok a) (hb : Ok b) (hm : max a.length b.length ≤ 1048600) : ∀ (d i : Nat) (out : List Int) (c : Int), i + d = max a.length b.length → out.length = i → Ok out → 0 ≤ c ∧ c ≤ 1 →
    val out + B ^ i * c = val (a.take i) + val (b.take i) →
    ∃ r, Norm r ∧ val r = val a + val b ∧ r.length ≤ max a.length b.length + 1 ∧ ∀ K, d + 1 < K → iterO (spec_l2Add_g1 (run tb orc n) n a b) K (c, (i : Int), out) = some r
  | 0, i, out, c, hi, ho, hok, hc, hv => by
    have hB := B_def
    have hbig := big_ge
    rw [List.take_of_length_le (by omega), List.take_of_length_le (by omega)] at hv
    have stop : ∀ (K : Nat) (q : Nat) (o : List Int), max a.length b.length ≤ q → o.length ≤ 1048700 → iterO (spec_l2Add_g1 (run tb orc n) n a b) (K + 1) ((0 : Int), (q : Int), o) = some (Limbs.trim o) := by
      intro K q o hq hol
      rw [iterO_succ]; unfold spec_l2Add_g1 spec_l2Add_x1
      dsimp only
      rw [if_neg (by omega), if_neg (by omega), if_neg (by omega), l2Trim_ret hn (by omega)]; rfl
    by_cases h0 : c = 0
    · subst h0
      refine ⟨Limbs.trim out, trim_norm hok, by rw [val_trim]; omega, by have := trim_length_le out; omega, fun K hK => ?_⟩
      obtain ⟨K, rfl⟩ : ∃ j, K = j + 1 := ⟨K - 1, by omega⟩
      exact stop K i out (by omega) (by omega)
    · have h1 : c = 1 := by omega
      subst h1
      refine ⟨Limbs.trim (out ++ [1]), trim_norm (hok.snoc (by omega) (by omega)), by rw [val_trim, val_snoc, ho]; exact hv, by have := trim_length_le (out ++ [1]); simp at this; omega, fun K hK => ?_⟩
      obtain ⟨K, rfl⟩ : ∃ j, K = j + 2 := ⟨K - 2, by omega⟩
      rw [iterO_succ, l2Add_step a b out 1 i ha hb (by omega) (.inr (by omega)) (by omega) ho, getD_out (by omega : a.length ≤ i), getD_out (by omega : b.length ≤ i)]
      have e : (1 + 0 + 0 : Int) / B = 0 := by rw [hB]; decide
      have e2 : (1 + 0 + 0 : Int) % B = 1 := by rw [hB]; decide
      rw [e, e2]
      exact stop K (i + 1) (out ++ [1]) (by omega) (by simp; omega)
  | d + 1, i, out, c, hi, ho, hok, hc, hv => by
    have hB := B_def
    have ga := ok_getD ha i
    have gb := ok_getD hb i
    have st := Int.emod_add_mul_ediv (c + a.getD i 0 + b.getD i 0) B
    have m0 : 0 ≤ (c + a.getD i 0 + b.getD i 0) % B := Int.emod_nonneg _ (by omega)
    have m1 : (c + a.getD i 0 + b.getD i 0) % B < B := Int.emod_lt_of_pos _ (by omega)
    have q : 0 ≤ (c + a.getD i 0 + b.getD i 0) / B ∧ (c + a.getD i 0 + b.getD i 0) / B ≤ 1 := by rw [hB] at *; omega
    obtain ⟨r, hr1, hr2, hr3, hr4⟩ := l2Add_from hn a b ha hb hm d (i + 1) (out ++ [(c + a.getD i 0 + b.getD i 0) % B]) ((c + a.getD i 0 + b.getD i 0) / B) (by omega) (by simp [ho]) (hok.snoc m0 m1) q (by
      rw [val_snoc, ho, val_take_succ, val_take_succ, Int.pow_succ]
      have e1 : B ^ i * ((c + a.getD i 0 + b.getD i 0) % B) + B ^ i * B * ((c + a.getD i 0 + b.getD i 0) / B) = B ^ i * (c + a.getD i 0 + b.getD i 0) := by
        rw [Int.mul_assoc, ← Int.mul_add, st]
      rw [Int.mul_add, Int.mul_add] at e1
      omega)
    refine ⟨r, hr1, hr2, hr3, fun K hK => ?_⟩
    obtain ⟨K, rfl⟩ : ∃ j, K = j + 1 := ⟨K - 1, by omega⟩
    rw [iterO_succ, l2Add_step a b out c i ha hb hc (.inl (by omega)) (by omega) ho]
    exact hr4 K (by omega)
theorem l2Add_ret {n : Nat} (hn : Big + 2 ≤ n) {a b : List Int} (ha : Ok a) (hb : Ok b) (hm : max a.length b.length ≤ 1048600) :
    ∃ r, Norm r ∧ val r = val a + val b ∧ r.length ≤ max a.length b.length + 1 ∧ c_spec_l2Add (run tb orc n) a b = some r := by
  obtain ⟨n, rfl, hn'⟩ := up hn
  have hbig := big_ge
  obtain ⟨r, h1, h2, h3, h4⟩ := l2Add_from (n := n) (by omega) a b ha hb hm (max a.length b.length) 0 [] 0 (by omega) rfl Ok.nil (by omega) (by simp)
  refine ⟨r, h1, h2, h3, ?_⟩
  rw [spec_l2Add_eq]; unfold spec_l2Add_f spec_l2Add_x
  exact h4 n (by omega)
end Go.Proofs.YthanbjnpfenniaaDoor.Fw

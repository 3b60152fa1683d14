/- Sums of whole numbers on both sides: the loops. -/
import Derived.Test.YtnlgciomdghfiaaPAdd
namespace Go.Proofs.Ytnlgciomdghfiaa.Fw
open Go Go.RowKit Go.Proofs.Ytnlgciomdghfiaa.Limbs
set_option linter.unusedVariables false

theorem mx_nat (a b : Nat) : mx (a : Int) (b : Int) = ((max a b : Nat) : Int) := by unfold mx; split <;> omega
theorem getD_out {l : List Int} {i : Nat} (h : l.length ≤ i) : l.getD i 0 = 0 := by rw [List.getD_eq_getElem?_getD, List.getElem?_eq_none h]; rfl
theorem combined_step {C : Ca tb} {N : Nat} (a b out : List Int) (s c : Int) (i : Nat) (hs : s = 1 ∨ s = -1) (ha : Ok a) (hb : Ok b) (hc : -1 ≤ c ∧ c ≤ 1) (hi : i < max a.length b.length) (hm : max a.length b.length ≤ 1048600) (ho : out.length = i) (self : Int × Int × List Int → Option (List Int)) :
    impl_combined_g1 C N a b s self (c, (i : Int), out) = self ((c + a.getD i 0 + s * b.getD i 0) / B, ((i + 1 : Nat) : Int), out ++ [(c + a.getD i 0 + s * b.getD i 0) % B]) := by
  have hB := B_def
  have ga := ok_getD ha i
  have gb := ok_getD hb i
  have hlim : out.length + 1 < lim := lim_lt (by omega)
  have hsb : s * b.getD i 0 = b.getD i 0 ∨ s * b.getD i 0 = -b.getD i 0 := by rcases hs with rfl | rfl <;> omega
  unfold impl_combined_g1 impl_combined_x1
  dsimp only
  simp only [List.length_singleton]
  rw [mx_nat, if_pos (by omega)]
  by_cases h1 : i < a.length
  · rw [if_pos (by omega), if_pos (by omega), if_pos (by omega), nat_i, w64 (n := c + a.getD i 0) (by omega) (by omega)]
    by_cases h2 : i < b.length
    · rw [if_pos (by omega), if_pos (by omega), if_pos (by omega), w64 (n := s * b.getD i 0) (by omega) (by omega), w64 (n := c + a.getD i 0 + s * b.getD i 0) (by omega) (by omega), if_pos hlim, if_neg (by omega), shr_28, and_limb, w64 (n := (i : Int) + 1) (by omega) (by omega), ni1, hB]
    · rw [getD_out (by omega : b.length ≤ i), Int.mul_zero, Int.add_zero, if_neg (by omega), if_pos hlim, if_neg (by omega), shr_28, and_limb, w64 (n := (i : Int) + 1) (by omega) (by omega), ni1, hB]
  · have hz := getD_out (by omega : a.length ≤ i)
    rw [hz] at ga
    rw [if_neg (by omega), hz, Int.add_zero]
    by_cases h2 : i < b.length
    · rw [if_pos (by omega), if_pos (by omega), if_pos (by omega), nat_i, w64 (n := s * b.getD i 0) (by omega) (by omega), w64 (n := c + s * b.getD i 0) (by omega) (by omega), if_pos hlim, if_neg (by omega), shr_28, and_limb, w64 (n := (i : Int) + 1) (by omega) (by omega), ni1, hB]
    · omega
theorem combined_from {C : Ca tb} {N : Nat} (a b : List Int) (s : Int) (hs : s = 1 ∨ s = -1) (ha : Ok a) (hb : Ok b) (hm : max a.length b.length ≤ 1048600) (hpos : 0 ≤ val a + s * val b) : ∀ (d i : Nat) (out : List Int) (c : Int), i + d = max a.length b.length → out.length = i → Ok out → -1 ≤ c ∧ c ≤ 1 →
    val out + B ^ i * c = val (a.take i) + s * val (b.take i) →
    ∃ r, Ok r ∧ val r = val a + s * val b ∧ r.length = max a.length b.length + 1 ∧ ∀ K, d < K → iterO (impl_combined_g1 C N a b s) K (c, (i : Int), out) = some r
  | 0, i, out, c, hi, ho, hok, hc, hv => by
    have hB := B_def
    rw [List.take_of_length_le (by omega), List.take_of_length_le (by omega)] at hv
    have hc0 : 0 ≤ c := by
      rcases Int.lt_or_le c 0 with h | h
      · have hl := val_lt hok
        have : c = -1 := by omega
        subst this
        rw [ho] at hl
        omega
      · exact h
    refine ⟨out ++ [c], hok.snoc hc0 (by omega), by rw [val_snoc, ho]; exact hv, by simp [ho]; omega, fun K hK => ?_⟩
    obtain ⟨K, rfl⟩ : ∃ j, K = j + 1 := ⟨K - 1, by omega⟩
    rw [iterO_succ]; unfold impl_combined_g1 impl_combined_x1
    dsimp only
    simp only [List.length_singleton]
    rw [mx_nat, if_neg (by omega), if_pos (lim_lt (by omega))]
  | d + 1, i, out, c, hi, ho, hok, hc, hv => by
    have hB := B_def
    have ga := ok_getD ha i
    have gb := ok_getD hb i
    have hsb : s * b.getD i 0 = b.getD i 0 ∨ s * b.getD i 0 = -b.getD i 0 := by rcases hs with rfl | rfl <;> omega
    have st := Int.emod_add_mul_ediv (c + a.getD i 0 + s * b.getD i 0) B
    have m0 : 0 ≤ (c + a.getD i 0 + s * b.getD i 0) % B := Int.emod_nonneg _ (by omega)
    have m1 : (c + a.getD i 0 + s * b.getD i 0) % B < B := Int.emod_lt_of_pos _ (by omega)
    have q : -1 ≤ (c + a.getD i 0 + s * b.getD i 0) / B ∧ (c + a.getD i 0 + s * b.getD i 0) / B ≤ 1 := by rw [hB] at *; omega
    obtain ⟨r, hr1, hr2, hr3, hr4⟩ := combined_from (C := C) (N := N) a b s hs ha hb hm hpos d (i + 1) (out ++ [(c + a.getD i 0 + s * b.getD i 0) % B]) ((c + a.getD i 0 + s * b.getD i 0) / B) (by omega) (by simp [ho]) (hok.snoc m0 m1) q (by
      rw [val_snoc, ho, val_take_succ, val_take_succ, Int.pow_succ]
      have e1 : B ^ i * ((c + a.getD i 0 + s * b.getD i 0) % B) + B ^ i * B * ((c + a.getD i 0 + s * b.getD i 0) / B) = B ^ i * (c + a.getD i 0 + s * b.getD i 0) := by
        rw [Int.mul_assoc, ← Int.mul_add, st]
      have e2 : s * (B ^ i * b.getD i 0) = B ^ i * (s * b.getD i 0) := by rw [← Int.mul_assoc, Int.mul_comm s, Int.mul_assoc]
      rw [Int.mul_add, Int.mul_add] at e1
      rw [Int.mul_add, e2]
      omega)
    refine ⟨r, hr1, hr2, hr3, fun K hK => ?_⟩
    obtain ⟨K, rfl⟩ : ∃ j, K = j + 1 := ⟨K - 1, by omega⟩
    rw [iterO_succ, combined_step a b out s c i hs ha hb hc (by omega) hm ho]
    exact hr4 K (by omega)
theorem combined_ret {n : Nat} (hn : Big + 1 ≤ n) {a b : List Int} {s : Int} (hs : s = 1 ∨ s = -1) (ha : Ok a) (hb : Ok b) (hm : max a.length b.length ≤ 1048600) (hpos : 0 ≤ val a + s * val b) :
    ∃ r, Ok r ∧ val r = val a + s * val b ∧ r.length = max a.length b.length + 1 ∧ c_impl_combined (run tb orc n) a b s = some r := by
  obtain ⟨n, rfl, hn'⟩ := up hn
  have hbig := big_ge
  obtain ⟨r, h1, h2, h3, h4⟩ := combined_from (C := run tb orc n) (N := n) a b s hs ha hb hm hpos (max a.length b.length) 0 [] 0 (by omega) rfl Ok.nil (by omega) (by simp)
  refine ⟨r, h1, h2, h3, ?_⟩
  rw [impl_combined_eq]; unfold impl_combined_f impl_combined_x
  exact h4 n (by omega)
theorem ordV_lt {a b : List Int} (h : val a < val b) : ordV a b = -1 := by unfold ordV; rw [if_pos h]
theorem ordV_eq {a b : List Int} (h : val a = val b) : ordV a b = 0 := by unfold ordV; rw [if_neg (by omega), if_pos h]
theorem ordV_gt {a b : List Int} (h : val b < val a) : ordV a b = 1 := by unfold ordV; rw [if_neg (by omega), if_neg (by omega)]
theorem ordV_ge {a b : List Int} (h : val b ≤ val a) : 0 ≤ ordV a b := by
  by_cases e : val a = val b
  · rw [ordV_eq e]; omega
  · rw [ordV_gt (by omega)]; omega
theorem addW_ret {n : Nat} (hn : Big + 4 ≤ n) {n1 n2 : Bool} {a b : List Int} (ha : Can n1 a) (hb : Can n2 b) (hm : max a.length b.length ≤ 1048600) :
    ∃ s r, Can s r ∧ sv s r = sv n1 a + sv n2 b ∧ r.length ≤ max a.length b.length + 1 ∧ c_impl_addW (run tb orc n) n1 a n2 b = some (s, r) := by
  obtain ⟨n, rfl, hn'⟩ := up hn
  have pa := val_nonneg ha.1.ok
  have pb := val_nonneg hb.1.ok
  have tl : ∀ l : List Int, (Limbs.trim l).length ≤ l.length := trim_length_le
  have fin : ∀ (s : Bool) (r : List Int) (m : Nat), Ok r → r.length = m → m ≤ 1048601 → ∀ (v : Int), sv s r = v → ∃ s' r', Can s' r' ∧ sv s' r' = v ∧ r'.length ≤ m ∧ c_impl_trimmed (run tb orc n) s r = some (s', r') := by
    intro s r m h1 h2 h3 v h4
    refine ⟨sgn s (Limbs.trim r), Limbs.trim r, can_sgn (trim_norm h1), ?_, by have := tl r; omega, trimmed_ret (by omega) (by omega)⟩
    rw [sv_sgn]; unfold sv at h4 ⊢; rw [val_trim]; exact h4
  rw [impl_addW_eq]; unfold impl_addW_f impl_addW_x
  by_cases hs : n1 = n2
  · subst hs
    obtain ⟨r, h1, h2, h3, h4⟩ := combined_ret (n := n) (by omega) (s := 1) (Or.inl rfl) ha.1.ok hb.1.ok hm (by omega)
    obtain ⟨s', r', g1, g2, g3, g4⟩ := fin n1 r _ h1 h3 (by omega) (sv n1 a + sv n1 b) (by unfold sv; rw [h2]; split <;> omega)
    refine ⟨s', r', g1, g2, g3, ?_⟩
    rw [if_pos (by simp), h4]
    simp only [Option.bind_some]
    rw [g4]; rfl
  · rw [if_neg (by simpa using hs), sizeCmp_ret (by omega) ha.1 hb.1 (by omega)]
    simp only [Option.bind_some]
    by_cases hge : val b ≤ val a
    · obtain ⟨r, h1, h2, h3, h4⟩ := combined_ret (n := n) (by omega) (s := -1) (Or.inr rfl) ha.1.ok hb.1.ok hm (by omega)
      obtain ⟨s', r', g1, g2, g3, g4⟩ := fin n1 r _ h1 h3 (by omega) (sv n1 a + sv n2 b) (by
        unfold sv; rw [h2]
        cases n1 <;> cases n2 <;> simp at hs ⊢ <;> omega)
      refine ⟨s', r', g1, g2, g3, ?_⟩
      rw [if_pos (ordV_ge hge), h4]
      simp only [Option.bind_some]
      rw [g4]; rfl
    · obtain ⟨r, h1, h2, h3, h4⟩ := combined_ret (n := n) (by omega) (s := -1) (Or.inr rfl) hb.1.ok ha.1.ok (by omega) (by omega)
      obtain ⟨s', r', g1, g2, g3, g4⟩ := fin n2 r _ h1 h3 (by omega) (sv n1 a + sv n2 b) (by
        unfold sv; rw [h2]
        cases n1 <;> cases n2 <;> simp at hs ⊢ <;> omega)
      refine ⟨s', r', g1, g2, by omega, ?_⟩
      rw [ordV_lt (by omega), if_neg (by omega), h4]
      simp only [Option.bind_some]
      rw [g4]; rfl

/-! ### the specification's -/
theorem l2Add_step {C : Ca tb} {N : Nat} (a b out : List Int) (c : Int) (i : Nat) (ha : Ok a) (hb : Ok b) (hc : 0 ≤ c ∧ c ≤ 1) (hi : i < max a.length b.length ∨ 0 < c) (hm : i ≤ 1048601) (ho : out.length = i) (self : Int × Int × List Int → Option (List Int)) :
    spec_l2Add_g1 C N a b self (c, (i : Int), out) = self ((c + a.getD i 0 + b.getD i 0) / B, ((i + 1 : Nat) : Int), out ++ [(c + a.getD i 0 + b.getD i 0) % B]) := by
  have hB := B_def
  have ga := ok_getD ha i
  have gb := ok_getD hb i
  have hlim : out.length + 1 < lim := lim_lt (by omega)
  have e1 : (c + a.getD i 0 + b.getD i 0).tdiv 268435456 = (c + a.getD i 0 + b.getD i 0) / 268435456 := tdiv_nn (by omega)
  have e2 : (c + a.getD i 0 + b.getD i 0).tmod 268435456 = (c + a.getD i 0 + b.getD i 0) % 268435456 := tmod_nn (by omega)
  have e3 : wr .i64 (c + a.getD i 0 + b.getD i 0) = c + a.getD i 0 + b.getD i 0 := w64 (by omega) (by omega)
  have e4 : wr .i64 ((c + a.getD i 0 + b.getD i 0) / 268435456) = (c + a.getD i 0 + b.getD i 0) / 268435456 := w64 (by omega) (by omega)
  have e5 : wr .i64 ((i : Int) + 1) = ((i + 1 : Nat) : Int) := by rw [w64 (by omega) (by omega), ni1]
  have e6 : wr .i64 (c + a.getD i 0) = c + a.getD i 0 := w64 (by omega) (by omega)
  have d0 : ¬ ((268435456 : Int) = 0) := by omega
  unfold spec_l2Add_g1 spec_l2Add_x1
  dsimp only
  simp only [List.length_singleton, if_neg d0, if_pos hlim, nat_i, e5]
  by_cases h1 : i < a.length
  · rw [if_pos (by omega), if_pos (by omega), if_pos (by omega), if_pos (by omega)]
    by_cases h2 : i < b.length
    · rw [if_pos (by omega), if_pos (by omega), if_pos (by omega), e6, e3, e1, e2, e4, hB]
    · have hz := getD_out (by omega : b.length ≤ i)
      rw [hz, Int.add_zero] at e1 e2 e3 e4
      rw [if_neg (by omega), hz, Int.add_zero, e3, e1, e2, e4, hB]
  · have hz := getD_out (by omega : a.length ≤ i)
    rw [hz, Int.add_zero] at e1 e2 e3 e4
    rw [if_neg (by omega), hz, Int.add_zero]
    by_cases h2 : i < b.length
    · rw [if_pos (by omega), if_neg (by omega), if_pos (by omega), if_pos (by omega), if_pos (by omega), e3, e1, e2, e4, hB]
    · have hz2 := getD_out (by omega : b.length ≤ i)
      rw [hz2, Int.add_zero] at e1 e2 e3 e4
      have hcp : 0 < c := hi.resolve_left (by omega)
      rw [if_neg (by omega), if_pos (by omega), if_neg (by omega), if_neg (by omega), hz2, Int.add_zero, e1, e2, e4, hB]
theorem l2Add_from {n : Nat} (hn : Big + 1 ≤ n) (a b : List Int) (ha : Ok a) (hb : Ok b) (hm : max a.length b.length ≤ 1048600) : ∀ (d i : Nat) (out : List Int) (c : Int), i + d = max a.length b.length → out.length = i → Ok out → 0 ≤ c ∧ c ≤ 1 →
    val out + B ^ i * c = val (a.take i) + val (b.take i) →
    ∃ r, Norm r ∧ val r = val a + val b ∧ r.length ≤ max a.length b.length + 1 ∧ ∀ K, d + 1 < K → iterO (spec_l2Add_g1 (run tb orc n) n a b) K (c, (i : Int), out) = some r
  | 0, i, out, c, hi, ho, hok, hc, hv => by
    have hB := B_def
    have hbig := big_ge
    rw [List.take_of_length_le (by omega), List.take_of_length_le (by omega)] at hv
    have stop : ∀ (K : Nat) (q : Nat) (o : List Int), max a.length b.length ≤ q → o.length ≤ 1048700 → iterO (spec_l2Add_g1 (run tb orc n) n a b) (K + 1) ((0 : Int), (q : Int), o) = some (Limbs.trim o) := by
      intro K q o hq hol
      rw [iterO_succ]; unfold spec_l2Add_g1 spec_l2Add_x1
      dsimp only
      rw [if_neg (by omega), if_neg (by omega), if_neg (by omega), l2Trim_ret hn (by omega)]; rfl
    by_cases h0 : c = 0
    · subst h0
      refine ⟨Limbs.trim out, trim_norm hok, by rw [val_trim]; omega, by have := trim_length_le out; omega, fun K hK => ?_⟩
      obtain ⟨K, rfl⟩ : ∃ j, K = j + 1 := ⟨K - 1, by omega⟩
      exact stop K i out (by omega) (by omega)
    · have h1 : c = 1 := by omega
      subst h1
      refine ⟨Limbs.trim (out ++ [1]), trim_norm (hok.snoc (by omega) (by omega)), by rw [val_trim, val_snoc, ho]; exact hv, by have := trim_length_le (out ++ [1]); simp at this; omega, fun K hK => ?_⟩
      obtain ⟨K, rfl⟩ : ∃ j, K = j + 2 := ⟨K - 2, by omega⟩
      rw [iterO_succ, l2Add_step a b out 1 i ha hb (by omega) (.inr (by omega)) (by omega) ho, getD_out (by omega : a.length ≤ i), getD_out (by omega : b.length ≤ i)]
      have e : (1 + 0 + 0 : Int) / B = 0 := by rw [hB]; decide
      have e2 : (1 + 0 + 0 : Int) % B = 1 := by rw [hB]; decide
      rw [e, e2]
      exact stop K (i + 1) (out ++ [1]) (by omega) (by simp; omega)
  | d + 1, i, out, c, hi, ho, hok, hc, hv => by
    have hB := B_def
    have ga := ok_getD ha i
    have gb := ok_getD hb i
    have st := Int.emod_add_mul_ediv (c + a.getD i 0 + b.getD i 0) B
    have m0 : 0 ≤ (c + a.getD i 0 + b.getD i 0) % B := Int.emod_nonneg _ (by omega)
    have m1 : (c + a.getD i 0 + b.getD i 0) % B < B := Int.emod_lt_of_pos _ (by omega)
    have q : 0 ≤ (c + a.getD i 0 + b.getD i 0) / B ∧ (c + a.getD i 0 + b.getD i 0) / B ≤ 1 := by rw [hB] at *; omega
    obtain ⟨r, hr1, hr2, hr3, hr4⟩ := l2Add_from hn a b ha hb hm d (i + 1) (out ++ [(c + a.getD i 0 + b.getD i 0) % B]) ((c + a.getD i 0 + b.getD i 0) / B) (by omega) (by simp [ho]) (hok.snoc m0 m1) q (by
      rw [val_snoc, ho, val_take_succ, val_take_succ, Int.pow_succ]
      have e1 : B ^ i * ((c + a.getD i 0 + b.getD i 0) % B) + B ^ i * B * ((c + a.getD i 0 + b.getD i 0) / B) = B ^ i * (c + a.getD i 0 + b.getD i 0) := by
        rw [Int.mul_assoc, ← Int.mul_add, st]
      rw [Int.mul_add, Int.mul_add] at e1
      omega)
    refine ⟨r, hr1, hr2, hr3, fun K hK => ?_⟩
    obtain ⟨K, rfl⟩ : ∃ j, K = j + 1 := ⟨K - 1, by omega⟩
    rw [iterO_succ, l2Add_step a b out c i ha hb hc (.inl (by omega)) (by omega) ho]
    exact hr4 K (by omega)
theorem l2Add_ret {n : Nat} (hn : Big + 2 ≤ n) {a b : List Int} (ha : Ok a) (hb : Ok b) (hm : max a.length b.length ≤ 1048600) :
    ∃ r, Norm r ∧ val r = val a + val b ∧ r.length ≤ max a.length b.length + 1 ∧ c_spec_l2Add (run tb orc n) a b = some r := by
  obtain ⟨n, rfl, hn'⟩ := up hn
  have hbig := big_ge
  obtain ⟨r, h1, h2, h3, h4⟩ := l2Add_from (n := n) (by omega) a b ha hb hm (max a.length b.length) 0 [] 0 (by omega) rfl Ok.nil (by omega) (by simp)
  refine ⟨r, h1, h2, h3, ?_⟩
  rw [spec_l2Add_eq]; unfold spec_l2Add_f spec_l2Add_x
  exact h4 n (by omega)
theorem l2Sub_step {C : Ca tb} {N : Nat} (a b out : List Int) (c : Int) (i : Nat) (ha : Ok a) (hb : Ok b) (hc : 0 ≤ c ∧ c ≤ 1) (hi : i < a.length) (hm : i ≤ 1048601) (ho : out.length = i) (self : Int × Int × List Int → Option (List Int)) :
    spec_l2Sub_g1 C N a b self (c, (i : Int), out) = if a.getD i 0 - c - b.getD i 0 < 0 then self (1, ((i + 1 : Nat) : Int), out ++ [a.getD i 0 - c - b.getD i 0 + 268435456]) else self (0, ((i + 1 : Nat) : Int), out ++ [a.getD i 0 - c - b.getD i 0]) := by
  have hB := B_def
  have ga := ok_getD ha i
  have gb := ok_getD hb i
  have hlim : out.length + 1 < lim := lim_lt (by omega)
  have e5 : wr .i64 ((i : Int) + 1) = ((i + 1 : Nat) : Int) := by rw [w64 (by omega) (by omega), ni1]
  have w1 : wr .i64 (a.getD i 0 - c) = a.getD i 0 - c := w64 (by omega) (by omega)
  have w2 : wr .i64 (a.getD i 0 - c - b.getD i 0) = a.getD i 0 - c - b.getD i 0 := w64 (by omega) (by omega)
  have w3 : wr .i64 (a.getD i 0 - c - b.getD i 0 + 268435456) = a.getD i 0 - c - b.getD i 0 + 268435456 := w64 (by omega) (by omega)
  unfold spec_l2Sub_g1 spec_l2Sub_x1
  dsimp only
  simp only [List.length_singleton, if_pos hlim, nat_i, e5, w1]
  rw [if_pos (by omega), if_pos (by omega), if_pos (by omega)]
  by_cases h2 : i < b.length
  · rw [if_pos (by omega), if_pos (by omega), if_pos (by omega), w2, w3]
  · have hz := getD_out (by omega : b.length ≤ i)
    rw [hz, Int.sub_zero] at w2 w3
    rw [if_neg (by omega), hz, Int.sub_zero, w3]
theorem l2Sub_from {n : Nat} (hn : Big + 1 ≤ n) (a b : List Int) (ha : Ok a) (hb : Ok b) (hla : a.length ≤ 1048600) (hlb : b.length ≤ a.length) (hpos : val b ≤ val a) : ∀ (d i : Nat) (out : List Int) (c : Int), i + d = a.length → out.length = i → Ok out → 0 ≤ c ∧ c ≤ 1 →
    val out - B ^ i * c = val (a.take i) - val (b.take i) →
    ∃ r, Norm r ∧ val r = val a - val b ∧ r.length ≤ a.length ∧ ∀ K, d < K → iterO (spec_l2Sub_g1 (run tb orc n) n a b) K (c, (i : Int), out) = some r
  | 0, i, out, c, hi, ho, hok, hc, hv => by
    have hB := B_def
    have hbig := big_ge
    rw [List.take_of_length_le (by omega), List.take_of_length_le (by omega)] at hv
    have hc0 : c = 0 := by
      by_cases h : c = 0
      · exact h
      · have hl := val_lt hok
        have : c = 1 := by omega
        subst this
        rw [ho] at hl
        omega
    subst hc0
    refine ⟨Limbs.trim out, trim_norm hok, by rw [val_trim]; omega, by have := trim_length_le out; omega, fun K hK => ?_⟩
    obtain ⟨K, rfl⟩ : ∃ j, K = j + 1 := ⟨K - 1, by omega⟩
    rw [iterO_succ]; unfold spec_l2Sub_g1 spec_l2Sub_x1
    dsimp only
    rw [if_neg (by omega), l2Trim_ret hn (by omega)]; rfl
  | d + 1, i, out, c, hi, ho, hok, hc, hv => by
    have hB := B_def
    have ga := ok_getD ha i
    have gb := ok_getD hb i
    have key := l2Sub_step (C := run tb orc n) (N := n) a b out c i ha hb hc (by omega) (by omega) ho
    have va := val_take_succ a i
    have vb := val_take_succ b i
    generalize hA : a.getD i 0 = A at ga va key
    generalize hE : b.getD i 0 = E at gb vb key
    by_cases hneg : A - c - E < 0
    · obtain ⟨r, hr1, hr2, hr3, hr4⟩ := l2Sub_from hn a b ha hb hla hlb hpos d (i + 1) (out ++ [A - c - E + 268435456]) 1 (by omega) (by simp [ho]) (hok.snoc (by omega) (by omega)) (by omega) (by
        rw [val_snoc, ho, va, vb, Int.pow_succ, ← hB, Int.mul_add, Int.mul_sub, Int.mul_sub]
        clear ga gb key hneg hlb hla hi hc hpos
        generalize B ^ i = p at hv ⊢
        omega)
      refine ⟨r, hr1, hr2, hr3, fun K hK => ?_⟩
      obtain ⟨K, rfl⟩ : ∃ j, K = j + 1 := ⟨K - 1, by omega⟩
      rw [iterO_succ, key, if_pos hneg]; exact hr4 K (by omega)
    · obtain ⟨r, hr1, hr2, hr3, hr4⟩ := l2Sub_from hn a b ha hb hla hlb hpos d (i + 1) (out ++ [A - c - E]) 0 (by omega) (by simp [ho]) (hok.snoc (by omega) (by omega)) (by omega) (by
        rw [val_snoc, ho, va, vb, Int.pow_succ, Int.mul_sub, Int.mul_sub]
        clear ga gb key hneg hlb hla hi hc hpos
        generalize B ^ i = p at hv ⊢
        omega)
      refine ⟨r, hr1, hr2, hr3, fun K hK => ?_⟩
      obtain ⟨K, rfl⟩ : ∃ j, K = j + 1 := ⟨K - 1, by omega⟩
      rw [iterO_succ, key, if_neg hneg]; exact hr4 K (by omega)
theorem len_le {a b : List Int} (ha : Norm a) (hb : Norm b) (h : val b ≤ val a) : b.length ≤ a.length := by
  rcases Nat.lt_or_ge a.length b.length with g | g
  · have := val_lt_of_length ha hb g; omega
  · exact g
theorem l2Sub_ret {n : Nat} (hn : Big + 2 ≤ n) {a b : List Int} (ha : Norm a) (hb : Norm b) (hla : a.length ≤ 1048600) (hpos : val b ≤ val a) :
    ∃ r, Norm r ∧ val r = val a - val b ∧ r.length ≤ a.length ∧ c_spec_l2Sub (run tb orc n) a b = some r := by
  obtain ⟨n, rfl, hn'⟩ := up hn
  have hbig := big_ge
  obtain ⟨r, h1, h2, h3, h4⟩ := l2Sub_from (n := n) (by omega) a b ha.ok hb.ok hla (len_le ha hb hpos) hpos a.length 0 [] 0 (by omega) rfl Ok.nil (by omega) (by simp)
  refine ⟨r, h1, h2, h3, ?_⟩
  rw [spec_l2Sub_eq]; unfold spec_l2Sub_f spec_l2Sub_x
  exact h4 n (by omega)
theorem l2Plus_ret {n : Nat} (hn : Big + 3 ≤ n) {n1 n2 : Bool} {a b : List Int} (ha : Can n1 a) (hb : Can n2 b) (hm : max a.length b.length ≤ 1048600) :
    ∃ s r, Can s r ∧ sv s r = sv n1 a + sv n2 b ∧ r.length ≤ max a.length b.length + 1 ∧ c_spec_l2Plus (run tb orc n) n1 a n2 b = some (s, r) := by
  obtain ⟨n, rfl, hn'⟩ := up hn
  have pa := val_nonneg ha.1.ok
  have pb := val_nonneg hb.1.ok
  rw [spec_l2Plus_eq]; unfold spec_l2Plus_f spec_l2Plus_x
  by_cases hs : n1 = n2
  · subst hs
    obtain ⟨r, h1, h2, h3, h4⟩ := l2Add_ret (n := n) (by omega) ha.1.ok hb.1.ok hm
    refine ⟨n1, r, ⟨h1, fun e => ?_⟩, by unfold sv; rw [h2]; split <;> omega, h3, ?_⟩
    · subst e
      refine ha.2 (ha.1.eq_nil ?_)
      simp at h2; omega
    · rw [if_pos (by simp), h4]; rfl
  · rw [if_neg (by simpa using hs), l2Cmp_ret (by omega) ha.1 hb.1 (by omega)]
    simp only [Option.bind_some]
    by_cases he : val a = val b
    · refine ⟨false, [], ⟨Norm.nil, fun _ => rfl⟩, ?_, by simp, ?_⟩
      · unfold sv; rw [he]; cases n1 <;> cases n2 <;> simp at hs ⊢ <;> omega
      · rw [ordV_eq he, if_pos rfl]
    · by_cases hge : val b ≤ val a
      · obtain ⟨r, h1, h2, h3, h4⟩ := l2Sub_ret (n := n) (by omega) ha.1 hb.1 (by omega) hge
        refine ⟨n1, r, ⟨h1, fun e => ?_⟩, by unfold sv; rw [h2]; cases n1 <;> cases n2 <;> simp at hs ⊢ <;> omega, by omega, ?_⟩
        · subst e; simp at h2; omega
        · rw [ordV_gt (by omega), if_neg (by omega), if_pos rfl, h4]; rfl
      · obtain ⟨r, h1, h2, h3, h4⟩ := l2Sub_ret (n := n) (by omega) hb.1 ha.1 (by omega) (by omega)
        refine ⟨n2, r, ⟨h1, fun e => ?_⟩, by unfold sv; rw [h2]; cases n1 <;> cases n2 <;> simp at hs ⊢ <;> omega, by omega, ?_⟩
        · subst e; simp at h2; omega
        · rw [ordV_lt (by omega), if_neg (by omega), if_neg (by omega), h4]; rfl
/-- Both sides say the same. -/
theorem addWholes_both (s1 : Bool) {a : List Int} (s2 : Bool) {b : List Int} (hla : a.length ≤ 1048576) (hlb : b.length ≤ 1048576) :
    ∃ p : (Bool × List Int) × Bool, p.1.2.length ≤ 40 ∧ ∀ n, Big + 8 ≤ n → c_impl_AddWholes (run tb orc n) s1 a s2 b = some p ∧ c_spec_AddWholes (run tb orc n) s1 a s2 b = some p := by
  by_cases g : goodB s1 a = true ∧ goodB s2 b = true
  · obtain ⟨ga, gb⟩ := g
    obtain ⟨na, la⟩ := can_of_good ga
    obtain ⟨nb, lb⟩ := can_of_good gb
    obtain ⟨s, r, h1, h2, h3, _⟩ := addW_ret (n := Big + 4) (Nat.le_refl _) na nb (by omega)
    refine ⟨told s r, told_len _ _, fun n hn => ?_⟩
    obtain ⟨n, rfl, hm⟩ := up hn
    obtain ⟨s', r', h1', h2', h3', h4'⟩ := addW_ret (n := n) (by omega) na nb (by omega)
    obtain ⟨s'', r'', h1'', h2'', h3'', h4''⟩ := l2Plus_ret (n := n) (by omega) na nb (by omega)
    obtain ⟨rfl, rfl⟩ := can_inj h1' h1 (by rw [h2, h2'])
    obtain ⟨rfl, rfl⟩ := can_inj h1'' h1' (by rw [h2', h2''])
    constructor
    · rw [impl_AddWholes_eq]; unfold impl_AddWholes_f impl_AddWholes_x
      rw [good_i (by omega) (by omega), ga, good_i (by omega) (by omega), gb, h4']
      simp only [Option.bind_some]
      rw [kept_ret (by omega)]; rfl
    · rw [spec_AddWholes_eq]; unfold spec_AddWholes_f spec_AddWholes_x
      rw [good_s (by omega) (by omega), ga, good_s (by omega) (by omega), gb, l2In_ret (by omega), l2In_ret (by omega)]
      simp only [Option.bind_some]
      rw [h4'']
      simp only [Option.bind_some]
      rw [l2Out_ret (by omega)]; rfl
  · refine ⟨((false, []), false), by simp, fun n hn => ?_⟩
    obtain ⟨n, rfl, hm⟩ := up hn
    constructor
    · rw [impl_AddWholes_eq]; unfold impl_AddWholes_f impl_AddWholes_x
      rw [good_i (by omega) (by omega)]
      cases ga : goodB s1 a with
      | false => rfl
      | true =>
        rw [good_i (by omega) (by omega)]
        cases gb : goodB s2 b with
        | false => rfl
        | true => exact absurd ⟨ga, gb⟩ g
    · rw [spec_AddWholes_eq]; unfold spec_AddWholes_f spec_AddWholes_x
      rw [good_s (by omega) (by omega)]
      cases ga : goodB s1 a with
      | false => rfl
      | true =>
        rw [good_s (by omega) (by omega)]
        cases gb : goodB s2 b with
        | false => rfl
        | true => exact absurd ⟨ga, gb⟩ g
end Go.Proofs.Ytnlgciomdghfiaa.Fw

/- Limbs are compared, taken away: the specification. -/
import Derived.Test.YthanbjnpfenniaaDoorPSgn
import Derived.Test.YthanbjnpfenniaaDoorEqCs
namespace Go.Proofs.YthanbjnpfenniaaDoor.Fw
open Go Go.RowKit Go.Proofs.YthanbjnpfenniaaDoor.Limbs
set_option linter.unusedVariables false
set_option linter.unusedSimpArgs false

theorem l2Cmp_from {n : Nat} {a b : List Int} (ha : Ok a) (hb : Ok b) (hl : a.length = b.length) (hla : a.length ≤ 1099511627776) : ∀ (i : Nat), i ≤ a.length → a.drop i = b.drop i → ∀ K, i < K →
    iterO (spec_l2Cmp_g1 (run tb orc n) n a b) K ((i : Int) - 1) = some (ordV a b)
  | 0, hi, hd, K, hK => by
    obtain ⟨K, rfl⟩ : ∃ j, K = j + 1 := ⟨K - 1, by omega⟩
    rw [iterO_succ]; unfold spec_l2Cmp_g1 spec_l2Cmp_x1
    rw [if_neg (by omega)]
    have : a = b := by simpa using hd
    subst this
    unfold ordV
    rw [if_neg (by omega), if_pos rfl]
  | i + 1, hi, hd, K, hK => by
    obtain ⟨K, rfl⟩ : ∃ j, K = j + 1 := ⟨K - 1, by omega⟩
    have e : (((i + 1 : Nat) : Int) - 1) = (i : Int) := by omega
    rw [iterO_succ, e]; unfold spec_l2Cmp_g1 spec_l2Cmp_x1
    rw [if_pos (by omega), if_pos (by omega), if_pos (by omega), if_pos (by omega), if_pos (by omega), nat_i]
    have ho := ord_of_top ha hb hl (by omega : i < a.length) hd
    by_cases h2 : a.getD i 0 < b.getD i 0
    · rw [if_pos h2, ho.1 h2]
    · rw [if_neg h2, if_pos (by omega), if_pos (by omega), if_pos (by omega), if_pos (by omega)]
      by_cases h3 : b.getD i 0 < a.getD i 0
      · rw [if_pos h3, ho.2 h3]
      · have h : a.getD i 0 = b.getD i 0 := by omega
        rw [if_neg h3, w64 (by omega) (by omega)]
        refine l2Cmp_from (n := n) ha hb hl hla i (by omega) ?_ K (by omega)
        rw [drop_cons (by omega : i < a.length), drop_cons (by omega : i < b.length), hd]
        rw [getD_get (by omega), getD_get (by omega)] at h
        rw [h]
theorem l2Cmp_ret {n : Nat} (hn : Big + 1 ≤ n) {a b : List Int} (ha : Norm a) (hb : Norm b) (hla : a.length ≤ 1099511627776) : c_spec_l2Cmp (run tb orc n) a b = some (ordV a b) := by
  obtain ⟨n, rfl, hm⟩ := up hn
  have hbig := big_ge
  rw [spec_l2Cmp_eq]; unfold spec_l2Cmp_f spec_l2Cmp_x
  have ho := ord_len ha hb
  by_cases hl : a.length = b.length
  · rw [if_pos (by omega), w64 (by omega) (by omega)]
    exact l2Cmp_from ha.ok hb.ok hl hla a.length (Nat.le_refl _) (by rw [List.drop_of_length_le (Nat.le_refl _), List.drop_of_length_le (by omega)]) n (by omega)
  · rw [if_neg (by omega)]
    by_cases h : a.length < b.length
    · rw [if_pos (by omega), ho.1 h]
    · rw [if_neg (by omega), ho.2 (by omega)]
theorem l2Sub_step {C : Ca tb} {N : Nat} (a b out : List Int) (c : Int) (i : Nat) (ha : Ok a) (hb : Ok b) (hc : 0 ≤ c ∧ c ≤ 1) (hi : i < a.length) (hm : i ≤ 1048601) (ho : out.length = i) (self : Int × Int × List Int → Option (List Int)) :
    spec_l2Sub_g1 C N a b self (c, (i : Int), out) = if a.getD i 0 - c - b.getD i 0 < 0 then self (1, ((i + 1 : Nat) : Int), out ++ [a.getD i 0 - c - b.getD i 0 + 268435456]) else self (0, ((i + 1 : Nat) : Int), out ++ [a.getD i 0 - c - b.getD i 0]) := by
  have hB := B_def
  have ga := ok_getD ha i
  have gb := ok_getD hb i
  have hlim : out.length + 1 < lim := lim_lt (by omega)
  have e5 : wr .i64 ((i : Int) + 1) = ((i + 1 : Nat) : Int) := by rw [w64 (by omega) (by omega), ni1]
  have w1 : wr .i64 (a.getD i 0 - c) = a.getD i 0 - c := w64 (by omega) (by omega)
  have w2 : wr .i64 (a.getD i 0 - c - b.getD i 0) = a.getD i 0 - c - b.getD i 0 := w64 (by omega) (by omega)
  have w3 : wr .i64 (a.getD i 0 - c - b.getD i 0 + 268435456) = a.getD i 0 - c - b.getD i 0 + 268435456 := w64 (by omega) (by omega)
  unfold spec_l2Sub_g1 spec_l2Sub_x1
  dsimp only
  simp only [List.length_singleton, if_pos hlim, nat_i, e5, w1]
  rw [if_pos (by omega), if_pos (by omega), if_pos (by omega)]
  by_cases h2 : i < b.length
  · rw [if_pos (by omega), if_pos (by omega), if_pos (by omega), w2, w3]
  · have hz := getD_out (by omega : b.length ≤ i)
    rw [hz, Int.sub_zero] at w2 w3
    rw [if_neg (by omega), hz, Int.sub_zero, w3]
theorem l2Sub_from {n : Nat} (hn : Big + 1 ≤ n) (a b : List Int) (ha : Ok a) (hb : Ok b) (hla : a.length ≤ 1048600) (hlb : b.length ≤ a.length) (hpos : val b ≤ val a) : ∀ (d i : Nat) (out : List Int) (c : Int), i + d = a.length → out.length = i → Ok out → 0 ≤ c ∧ c ≤ 1 →
    val out - B ^ i * c = val (a.take i) - val (b.take i) →
    ∃ r, Norm r ∧ val r = val a - val b ∧ r.length ≤ a.length ∧ ∀ K, d < K → iterO (spec_l2Sub_g1 (run tb orc n) n a b) K (c, (i : Int), out) = some r
  | 0, i, out, c, hi, ho, hok, hc, hv => by
    have hB := B_def
    have hbig := big_ge
    rw [List.take_of_length_le (by omega), List.take_of_length_le (by omega)] at hv
    have hc0 : c = 0 := by
      by_cases h : c = 0
      · exact h
      · have hl := val_lt hok
        have : c = 1 := by omega
        subst this
        rw [ho] at hl
        omega
    subst hc0
    refine ⟨Limbs.trim out, trim_norm hok, by rw [val_trim]; omega, by have := trim_length_le out; omega, fun K hK => ?_⟩
    obtain ⟨K, rfl⟩ : ∃ j, K = j + 1 := ⟨K - 1, by omega⟩
    rw [iterO_succ]; unfold spec_l2Sub_g1 spec_l2Sub_x1
    dsimp only
    rw [if_neg (by omega), l2Trim_ret hn (by omega)]; rfl
  | d + 1, i, out, c, hi, ho, hok, hc, hv => by
    have hB := B_def
    have ga := ok_getD ha i
    have gb := ok_getD hb i
    have key := l2Sub_step (C := run tb orc n) (N := n) a b out c i ha hb hc (by omega) (by omega) ho
    have va := val_take_succ a i
    have vb := val_take_succ b i
    generalize hA : a.getD i 0 = A at ga va key
    generalize hE : b.getD i 0 = E at gb vb key
    by_cases hneg : A - c - E < 0
    · obtain ⟨r, hr1, hr2, hr3, hr4⟩ := l2Sub_from hn a b ha hb hla hlb hpos d (i + 1) (out ++ [A - c - E + 268435456]) 1 (by omega) (by simp [ho]) (hok.snoc (by omega) (by omega)) (by omega) (by
        rw [val_snoc, ho, va, vb, Int.pow_succ, ← hB, Int.mul_add, Int.mul_sub, Int.mul_sub]
        clear ga gb key hneg hlb hla hi hc hpos
        generalize B ^ i = p at hv ⊢
        omega)
      refine ⟨r, hr1, hr2, hr3, fun K hK => ?_⟩
      obtain ⟨K, rfl⟩ : ∃ j, K = j + 1 := ⟨K - 1, by omega⟩
      rw [iterO_succ, key, if_pos hneg]; exact hr4 K (by omega)
    · obtain ⟨r, hr1, hr2, hr3, hr4⟩ := l2Sub_from hn a b ha hb hla hlb hpos d (i + 1) (out ++ [A - c - E]) 0 (by omega) (by simp [ho]) (hok.snoc (by omega) (by omega)) (by omega) (by
        rw [val_snoc, ho, va, vb, Int.pow_succ, Int.mul_sub, Int.mul_sub]
        clear ga gb key hneg hlb hla hi hc hpos
        generalize B ^ i = p at hv ⊢
        omega)
      refine ⟨r, hr1, hr2, hr3, fun K hK => ?_⟩
      obtain ⟨K, rfl⟩ : ∃ j, K = j + 1 := ⟨K - 1, by omega⟩
      rw [iterO_succ, key, if_neg hneg]; exact hr4 K (by omega)
theorem l2Sub_ret {n : Nat} (hn : Big + 2 ≤ n) {a b : List Int} (ha : Norm a) (hb : Norm b) (hla : a.length ≤ 1048600) (hpos : val b ≤ val a) :
    ∃ r, Norm r ∧ val r = val a - val b ∧ r.length ≤ a.length ∧ c_spec_l2Sub (run tb orc n) a b = some r := by
  obtain ⟨n, rfl, hn'⟩ := up hn
  have hbig := big_ge
  obtain ⟨r, h1, h2, h3, h4⟩ := l2Sub_from (n := n) (by omega) a b ha.ok hb.ok hla (len_le ha hb hpos) hpos a.length 0 [] 0 (by omega) rfl Ok.nil (by omega) (by simp)
  refine ⟨r, h1, h2, h3, ?_⟩
  rw [spec_l2Sub_eq]; unfold spec_l2Sub_f spec_l2Sub_x
  exact h4 n (by omega)
end Go.Proofs.YthanbjnpfenniaaDoor.Fw

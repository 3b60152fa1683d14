/- Sums of whole numbers on both sides. -/
import Derived.Test.YtnlgciomdghfiaaPMulI
import Derived.Test.YtnlgciomdghfiaaEqAdd
namespace Go.Proofs.Ytnlgciomdghfiaa.Fw
open Go Go.RowKit Go.Proofs.Ytnlgciomdghfiaa.Limbs
set_option linter.unusedVariables false

/-- The number of a sign and limbs. -/
def sv (n : Bool) (l : List Int) : Int := if n = true then -val l else val l
theorem sv_true (l : List Int) : sv true l = -val l := rfl
theorem sv_false (l : List Int) : sv false l = val l := rfl
theorem can_inj {n m : Bool} {l k : List Int} (h : Can n l) (h' : Can m k) (hv : sv n l = sv m k) : n = m ∧ l = k := by
  obtain ⟨hl, hs⟩ := h
  obtain ⟨hl', hs'⟩ := h'
  have p := val_nonneg hl.ok
  have p' := val_nonneg hl'.ok
  have z : ∀ {q : List Int}, Norm q → val q = 0 → q = [] := fun h1 h2 => h1.eq_nil h2
  cases n <;> cases m
  · exact ⟨rfl, norm_inj hl hl' (by simpa [sv] using hv)⟩
  · simp only [sv_true, sv_false] at hv
    have := hs' (z hl' (by omega))
    simp at this
  · simp only [sv_true, sv_false] at hv
    have := hs (z hl (by omega))
    simp at this
  · refine ⟨rfl, norm_inj hl hl' ?_⟩
    simp only [sv_true] at hv; omega
theorem can_sgn {s : Bool} {r : List Int} (h : Norm r) : Can (sgn s r) r := ⟨h, fun e => by subst e; unfold sgn; simp⟩
theorem sv_sgn {s : Bool} {r : List Int} : sv (sgn s r) r = sv s r := by
  unfold sgn
  by_cases h : 0 < r.length
  · rw [decide_eq_true h, Bool.and_true]
  · have : r = [] := List.eq_nil_of_length_eq_zero (by omega)
    subst this
    cases s <;> rfl
theorem trimmed_ret {n : Nat} (hn : Big + 1 ≤ n) {s : Bool} {l : List Int} (hl : l.length < 1099511627776) : c_impl_trimmed (run tb orc n) s l = some (sgn s (Limbs.trim l), Limbs.trim l) := trimmed_i hn hl
theorem cmpNaN_ret {n : Nat} (hn : Big + 1 ≤ n) {x : Int} : c_cmp_isNaN_int (run tb orc n) x = some false := by
  obtain ⟨n, rfl, hm⟩ := up hn
  rw [cmp_isNaN_int_eq]; unfold cmp_isNaN_int_f cmp_isNaN_int_x
  simp
theorem compare_ret {n : Nat} (hn : Big + 2 ≤ n) {x y : Int} : c_cmp_Compare_int (run tb orc n) x y = some (if x < y then -1 else if x > y then 1 else 0) := by
  obtain ⟨n, rfl, hm⟩ := up hn
  rw [cmp_Compare_int_eq]; unfold cmp_Compare_int_f cmp_Compare_int_x
  rw [cmpNaN_ret (by omega), cmpNaN_ret (by omega)]
  simp only [Option.bind_some, Bool.false_eq_true, if_false]
  split
  · rfl
  · split <;> rfl
/-- How two sizes stand. -/
def ordV (a b : List Int) : Int := if val a < val b then -1 else if val a = val b then 0 else 1
theorem top_differs {a b : List Int} (ha : Ok a) (hb : Ok b) {i : Nat} (h : a.getD i 0 < b.getD i 0) : val (a.take (i + 1)) < val (b.take (i + 1)) := by
  rw [val_take_succ, val_take_succ]
  have h1 : Ok (a.take i) := fun x hx => ha x (List.mem_of_mem_take hx)
  have h2 : Ok (b.take i) := fun x hx => hb x (List.mem_of_mem_take hx)
  have v1 := val_lt h1
  have v2 := val_nonneg h2
  have l1 : B ^ (a.take i).length ≤ B ^ i := pow_le_pow (by simp; omega)
  have hm : B ^ i * (a.getD i 0 + 1) ≤ B ^ i * b.getD i 0 := Int.mul_le_mul_of_nonneg_left (by omega) (Int.le_of_lt (pow_pos' i))
  rw [Int.mul_add, Int.mul_one] at hm
  omega
theorem take_eq_of {a b : List Int} {i : Nat} (h : a.getD i 0 = b.getD i 0) (hv : val (a.take i) = val (b.take i)) : val (a.take (i + 1)) = val (b.take (i + 1)) := by
  rw [val_take_succ, val_take_succ, h, hv]
/-- From the top down: what is above place i is the same. -/
theorem cmp_top {a b : List Int} (i : Nat) : (a.drop i = b.drop i) → (val (a.take i) < val (b.take i) → val a < val b) ∧ (val (a.take i) = val (b.take i) → val a = val b) ∨ a.length ≠ b.length := by
  intro h
  by_cases hl : a.length = b.length
  · left
    have e : ∀ l : List Int, val l = val (l.take i) + B ^ (l.take i).length * val (l.drop i) := fun l => by rw [← val_append, List.take_append_drop]
    have e2 : (a.take i).length = (b.take i).length := by simp [hl]
    refine ⟨fun h1 => ?_, fun h1 => ?_⟩
    · rw [e a, e b, h, e2]; omega
    · rw [e a, e b, h, e2, h1]
  · exact .inr hl
theorem drop_cons {l : List Int} {i : Nat} (h : i < l.length) : l.drop i = l[i] :: l.drop (i + 1) := List.drop_eq_getElem_cons h
theorem ord_of_top {a b : List Int} (ha : Ok a) (hb : Ok b) (hl : a.length = b.length) {i : Nat} (hi : i < a.length) (hd : a.drop (i + 1) = b.drop (i + 1)) :
    (a.getD i 0 < b.getD i 0 → ordV a b = -1) ∧ (b.getD i 0 < a.getD i 0 → ordV a b = 1) := by
  unfold ordV
  have c1 := (cmp_top (a := a) (b := b) (i + 1) hd).resolve_right (fun h => h hl)
  have c2 := (cmp_top (a := b) (b := a) (i + 1) hd.symm).resolve_right (fun h => h hl.symm)
  refine ⟨fun h => ?_, fun h => ?_⟩
  · rw [if_pos (c1.1 (top_differs ha hb h))]
  · have := c2.1 (top_differs hb ha h)
    rw [if_neg (by omega), if_neg (by omega)]
theorem ord_len {a b : List Int} (ha : Norm a) (hb : Norm b) : (a.length < b.length → ordV a b = -1) ∧ (b.length < a.length → ordV a b = 1) := by
  unfold ordV
  refine ⟨fun h => ?_, fun h => ?_⟩
  · rw [if_pos (val_lt_of_length ha hb h)]
  · have := val_lt_of_length hb ha h
    rw [if_neg (by omega), if_neg (by omega)]
theorem sizeCmp_from {n : Nat} (hn : Big + 2 ≤ n) {a b : List Int} (ha : Ok a) (hb : Ok b) (hl : a.length = b.length) (hla : a.length ≤ 1099511627776) : ∀ (i : Nat), i ≤ a.length → a.drop i = b.drop i → ∀ K, i < K →
    iterO (impl_sizeCmp_g1 (run tb orc n) n a b) K ((i : Int) - 1) = some (ordV a b)
  | 0, hi, hd, K, hK => by
    obtain ⟨K, rfl⟩ : ∃ j, K = j + 1 := ⟨K - 1, by omega⟩
    rw [iterO_succ]; unfold impl_sizeCmp_g1 impl_sizeCmp_x1
    rw [if_neg (by omega)]
    have : a = b := by simpa using hd
    subst this
    unfold ordV
    rw [if_neg (by omega), if_pos rfl]
  | i + 1, hi, hd, K, hK => by
    obtain ⟨K, rfl⟩ : ∃ j, K = j + 1 := ⟨K - 1, by omega⟩
    have e : (((i + 1 : Nat) : Int) - 1) = (i : Int) := by omega
    rw [iterO_succ, e]; unfold impl_sizeCmp_g1 impl_sizeCmp_x1
    rw [if_pos (by omega), if_pos (by omega), if_pos (by omega), if_pos (by omega), if_pos (by omega), nat_i]
    have ho := ord_of_top ha hb hl (by omega : i < a.length) hd
    by_cases h : a.getD i 0 = b.getD i 0
    · rw [if_pos h, w64 (by omega) (by omega)]
      refine sizeCmp_from hn ha hb hl hla i (by omega) ?_ K (by omega)
      rw [drop_cons (by omega : i < a.length), drop_cons (by omega : i < b.length), hd]
      rw [getD_get (by omega), getD_get (by omega)] at h
      rw [h]
    · rw [if_neg h, if_pos (by omega), if_pos (by omega), if_pos (by omega), if_pos (by omega), compare_ret hn]
      simp only [Option.bind_some]
      by_cases h2 : a.getD i 0 < b.getD i 0
      · rw [if_pos h2, ho.1 h2]
      · rw [if_neg h2, if_pos (by omega), ho.2 (by omega)]
theorem sizeCmp_ret {n : Nat} (hn : Big + 3 ≤ n) {a b : List Int} (ha : Norm a) (hb : Norm b) (hla : a.length ≤ 1099511627776) : c_impl_sizeCmp (run tb orc n) a b = some (ordV a b) := by
  obtain ⟨n, rfl, hm⟩ := up hn
  have hbig := big_ge
  rw [impl_sizeCmp_eq]; unfold impl_sizeCmp_f impl_sizeCmp_x
  have ho := ord_len ha hb
  by_cases hl : a.length = b.length
  · rw [if_pos (by omega), w64 (by omega) (by omega)]
    exact sizeCmp_from (by omega) ha.ok hb.ok hl hla a.length (Nat.le_refl _) (by rw [List.drop_of_length_le (Nat.le_refl _), List.drop_of_length_le (by omega)]) n (by omega)
  · rw [if_neg (by omega), compare_ret (by omega)]
    simp only [Option.bind_some]
    by_cases h : a.length < b.length
    · rw [if_pos (by omega), ho.1 h]
    · rw [if_neg (by omega), if_pos (by omega), ho.2 (by omega)]
theorem l2Cmp_from {n : Nat} {a b : List Int} (ha : Ok a) (hb : Ok b) (hl : a.length = b.length) (hla : a.length ≤ 1099511627776) : ∀ (i : Nat), i ≤ a.length → a.drop i = b.drop i → ∀ K, i < K →
    iterO (spec_l2Cmp_g1 (run tb orc n) n a b) K ((i : Int) - 1) = some (ordV a b)
  | 0, hi, hd, K, hK => by
    obtain ⟨K, rfl⟩ : ∃ j, K = j + 1 := ⟨K - 1, by omega⟩
    rw [iterO_succ]; unfold spec_l2Cmp_g1 spec_l2Cmp_x1
    rw [if_neg (by omega)]
    have : a = b := by simpa using hd
    subst this
    unfold ordV
    rw [if_neg (by omega), if_pos rfl]
  | i + 1, hi, hd, K, hK => by
    obtain ⟨K, rfl⟩ : ∃ j, K = j + 1 := ⟨K - 1, by omega⟩
    have e : (((i + 1 : Nat) : Int) - 1) = (i : Int) := by omega
    rw [iterO_succ, e]; unfold spec_l2Cmp_g1 spec_l2Cmp_x1
    rw [if_pos (by omega), if_pos (by omega), if_pos (by omega), if_pos (by omega), if_pos (by omega), nat_i]
    have ho := ord_of_top ha hb hl (by omega : i < a.length) hd
    by_cases h2 : a.getD i 0 < b.getD i 0
    · rw [if_pos h2, ho.1 h2]
    · rw [if_neg h2, if_pos (by omega), if_pos (by omega), if_pos (by omega), if_pos (by omega)]
      by_cases h3 : b.getD i 0 < a.getD i 0
      · rw [if_pos h3, ho.2 h3]
      · have h : a.getD i 0 = b.getD i 0 := by omega
        rw [if_neg h3, w64 (by omega) (by omega)]
        refine l2Cmp_from (n := n) ha hb hl hla i (by omega) ?_ K (by omega)
        rw [drop_cons (by omega : i < a.length), drop_cons (by omega : i < b.length), hd]
        rw [getD_get (by omega), getD_get (by omega)] at h
        rw [h]
theorem l2Cmp_ret {n : Nat} (hn : Big + 1 ≤ n) {a b : List Int} (ha : Norm a) (hb : Norm b) (hla : a.length ≤ 1099511627776) : c_spec_l2Cmp (run tb orc n) a b = some (ordV a b) := by
  obtain ⟨n, rfl, hm⟩ := up hn
  have hbig := big_ge
  rw [spec_l2Cmp_eq]; unfold spec_l2Cmp_f spec_l2Cmp_x
  have ho := ord_len ha hb
  by_cases hl : a.length = b.length
  · rw [if_pos (by omega), w64 (by omega) (by omega)]
    exact l2Cmp_from ha.ok hb.ok hl hla a.length (Nat.le_refl _) (by rw [List.drop_of_length_le (Nat.le_refl _), List.drop_of_length_le (by omega)]) n (by omega)
  · rw [if_neg (by omega)]
    by_cases h : a.length < b.length
    · rw [if_pos (by omega), ho.1 h]
    · rw [if_neg (by omega), ho.2 (by omega)]
end Go.Proofs.Ytnlgciomdghfiaa.Fw

/- Whether a whole number is good: the program and the specification say the same. -/
import Derived.Test.YthanbjnpfenniaaDoorPPow
import Derived.Test.YthanbjnpfenniaaDoorLimbs
import Derived.Test.YthanbjnpfenniaaDoorEqG
namespace Go.Proofs.YthanbjnpfenniaaDoor.Fw
open Go Go.RowKit Go.Proofs.YthanbjnpfenniaaDoor.Limbs
set_option linter.unusedVariables false

def inr (x : Int) : Bool := decide (0 ≤ x ∧ x ≤ 268435455)
def lastNz (l : List Int) : Bool := l.getD (l.length - 1) 0 != 0
def goodB (neg : Bool) (l : List Int) : Bool := decide (l.length ≤ 40) && (if l = [] then !neg else l.all inr && lastNz l)
theorem drop_all {l : List Int} {i : Nat} (h : i < l.length) : (l.drop i).all inr = (inr l[i] && (l.drop (i + 1)).all inr) := by
  rw [List.drop_eq_getElem_cons h, List.all_cons]
theorem isWhole1_ret {n : Nat} (hn : Big + 2 ≤ n) {x : Int} : c_impl_isWhole_1 (run tb orc n) x = some (!inr x) := by
  obtain ⟨n, rfl, hn⟩ := up hn
  rw [impl_isWhole_1_eq]; unfold impl_isWhole_1_f impl_isWhole_1_x
  rw [in_ret (by omega)]; rfl
theorem index_from {n : Nat} (hn : Big + 2 ≤ n) {l : List Int} (hl : l.length < 1099511627776) : ∀ (d i : Nat), i + d = l.length → ∀ K, d < K →
    ∃ r : Int, iterO (slices_IndexFunc_int_int_impl_isWhole_1_g1 (run tb orc n) n l) K (i : Int) = some r ∧ decide (r ≥ 0) = !((l.drop i).all inr)
  | 0, i, hi, K, hK => by
    obtain ⟨K, rfl⟩ : ∃ j, K = j + 1 := ⟨K - 1, by omega⟩
    refine ⟨-1, ?_, by rw [List.drop_of_length_le (by omega)]; rfl⟩
    show slices_IndexFunc_int_int_impl_isWhole_1_x1 _ _ _ _ = _
    unfold slices_IndexFunc_int_int_impl_isWhole_1_x1
    rw [if_neg (by omega)]
  | d + 1, i, hi, K, hK => by
    obtain ⟨K, rfl⟩ : ∃ j, K = j + 1 := ⟨K - 1, by omega⟩
    have hlt : i < l.length := by omega
    rw [drop_all hlt]
    show ∃ r : Int, slices_IndexFunc_int_int_impl_isWhole_1_x1 _ _ _ _ = some r ∧ _
    unfold slices_IndexFunc_int_int_impl_isWhole_1_x1
    rw [if_pos (by omega), if_pos (by omega), if_pos (by omega), isWhole1_ret hn, nat_i, getD_get hlt]
    simp only [Option.bind_some]
    cases hb : inr l[i] with
    | false => exact ⟨i, by rw [if_pos (by simp)], by simp⟩
    | true =>
      obtain ⟨r, h1, h2⟩ := index_from hn hl d (i + 1) (by omega) K (by omega)
      refine ⟨r, ?_, by simpa using h2⟩
      rw [if_neg (by simp), w64 (by omega) (by omega), ni1]
      exact h1
theorem contains_ret {n : Nat} (hn : Big + 4 ≤ n) {l : List Int} (hl : l.length < 1099511627776) : c_slices_ContainsFunc_int_int_impl_isWhole_1 (run tb orc n) l = some (!(l.all inr)) := by
  obtain ⟨n, rfl, hn⟩ := up2 hn
  have hb := big_ge
  rw [slices_ContainsFunc_int_int_impl_isWhole_1_eq]; unfold slices_ContainsFunc_int_int_impl_isWhole_1_f slices_ContainsFunc_int_int_impl_isWhole_1_x
  rw [slices_IndexFunc_int_int_impl_isWhole_1_eq]; unfold slices_IndexFunc_int_int_impl_isWhole_1_f slices_IndexFunc_int_int_impl_isWhole_1_x
  obtain ⟨r, h1, h2⟩ := index_from (n := n) (by omega) hl l.length 0 (by omega) n (by omega)
  have h1' : iterO (slices_IndexFunc_int_int_impl_isWhole_1_g1 (run tb orc n) n l) n 0 = some r := h1
  simp only [h1', Option.bind_some]
  rw [h2]; rfl
theorem isWhole_ret {n : Nat} (hn : Big + 5 ≤ n) {b : Bool} {l : List Int} (hl : l.length < 1099511627776) : c_impl_isWhole (run tb orc n) b l = some (if l = [] then !b else l.all inr && lastNz l) := by
  obtain ⟨n, rfl, hn⟩ := up hn
  rw [impl_isWhole_eq]; unfold impl_isWhole_f impl_isWhole_x
  by_cases h : l = []
  · subst h; rfl
  · have hp : 0 < l.length := List.length_pos_iff.2 h
    rw [if_neg (by omega), w64 (by omega) (by omega), if_pos (by omega), if_pos (by omega), if_neg h]
    have e : ((l.length : Int) - 1).toNat = l.length - 1 := by omega
    rw [e, contains_ret (by omega) hl]
    simp only [Option.bind_some]
    unfold lastNz
    by_cases h0 : l.getD (l.length - 1) 0 = 0
    · rw [if_pos h0, h0]; simp
    · rw [if_neg h0]; simp only [Bool.not_not]
      have : (l.getD (l.length - 1) 0 != 0) = true := by simpa using h0
      rw [this, Bool.and_true]
theorem good_i {n : Nat} (hn : Big + 6 ≤ n) {b : Bool} {l : List Int} (hl : l.length < 1099511627776) : c_impl_GoodWhole (run tb orc n) b l = some (goodB b l) := by
  obtain ⟨n, rfl, hn⟩ := up hn
  rw [impl_GoodWhole_eq]; unfold impl_GoodWhole_f impl_GoodWhole_x goodB
  by_cases h : l.length ≤ 40
  · rw [if_pos (by omega), isWhole_ret (by omega) hl]; simp [h]
  · rw [if_neg (by omega)]; simp [h]
theorem good_from {n : Nat} (hn : Big + 1 ≤ n) {b : Bool} {l : List Int} (hl : l.length < 1099511627776) : ∀ (d i : Nat), i + d = l.length → ∀ K, d < K →
    iterO (spec_GoodWhole_g1 (run tb orc n) n b l) K (i : Int) = some ((l.drop i).all inr && (decide (i = l.length) || lastNz l))
  | 0, i, hi, K, hK => by
    obtain ⟨K, rfl⟩ : ∃ j, K = j + 1 := ⟨K - 1, by omega⟩
    rw [List.drop_of_length_le (by omega), decide_eq_true (by omega : i = l.length)]
    show spec_GoodWhole_x1 (run tb orc n) _ b l _ = _
    unfold spec_GoodWhole_x1
    rw [if_neg (by omega)]; rfl
  | d + 1, i, hi, K, hK => by
    obtain ⟨K, rfl⟩ : ∃ j, K = j + 1 := ⟨K - 1, by omega⟩
    have hlt : i < l.length := by omega
    rw [drop_all hlt, decide_eq_false (by omega : ¬ i = l.length), Bool.false_or]
    have ih := good_from hn hl d (i + 1) (by omega) K (by omega) (b := b)
    show spec_GoodWhole_x1 (run tb orc n) _ b l _ = _
    unfold spec_GoodWhole_x1
    rw [if_pos (by omega), if_pos (by omega), if_pos (by omega), l1In_ret hn, nat_i, getD_get hlt]
    simp only [Option.bind_some]
    rw [show decide (0 ≤ l[i] ∧ l[i] ≤ 268435455) = inr l[i] from rfl, w64 (n := (i : Int) + 1) (by omega) (by omega), ni1, ih, w64 (n := (l.length : Int) - 1) (by omega) (by omega)]
    cases hb : inr l[i] with
    | false => simp
    | true =>
      rw [if_neg (by simp), Bool.true_and]
      by_cases h0 : l[i] = 0
      · rw [if_pos h0]
        by_cases h1 : (i : Int) = (l.length : Int) - 1
        · rw [if_pos h1]
          have : lastNz l = false := by
            unfold lastNz
            have e : l.length - 1 = i := by omega
            rw [e, getD_get hlt, h0]; rfl
          rw [this, Bool.and_false]
        · rw [if_neg h1, decide_eq_false (by omega : ¬ i + 1 = l.length), Bool.false_or]
      · rw [if_neg h0]
        by_cases h1 : i + 1 = l.length
        · have : lastNz l = true := by
            unfold lastNz
            have e : l.length - 1 = i := by omega
            rw [e, getD_get hlt]; simpa using h0
          rw [this, Bool.or_true]
        · rw [decide_eq_false h1, Bool.false_or]
theorem good_s {n : Nat} (hn : Big + 2 ≤ n) {b : Bool} {l : List Int} (hl : l.length < 1099511627776) : c_spec_GoodWhole (run tb orc n) b l = some (goodB b l) := by
  obtain ⟨n, rfl, hn⟩ := up hn
  have hb := big_ge
  rw [spec_GoodWhole_eq]; unfold spec_GoodWhole_f spec_GoodWhole_x goodB
  by_cases h : l.length ≤ 40
  · rw [if_neg (by omega), decide_eq_true h, Bool.true_and]
    have h1 := good_from (n := n) (by omega) hl l.length 0 (by omega) n (by omega) (b := b)
    by_cases he : l = []
    · subst he
      rw [if_pos (by simp), if_pos rfl]
      cases b with
      | true => rfl
      | false => rw [if_neg (by simp)]; exact h1
    · have hp : 0 < l.length := List.length_pos_iff.2 he
      rw [if_neg (by omega), if_neg he]
      refine (show iterO (spec_GoodWhole_g2 (run tb orc n) n b l) n (0 : Int) = _ from h1).trans ?_
      rw [List.drop_zero, decide_eq_false (by omega : ¬ 0 = l.length), Bool.false_or]
  · rw [if_pos (by omega), decide_eq_false h]; rfl
/-- Of a sign and limbs: without noughts behind, no sign of 0. -/
def Can (n : Bool) (l : List Int) : Prop := Norm l ∧ (l = [] → n = false)
theorem can_of_good {n : Bool} {l : List Int} (h : goodB n l = true) : Can n l ∧ l.length ≤ 40 := by
  unfold goodB at h
  simp only [Bool.and_eq_true, decide_eq_true_eq] at h
  obtain ⟨h1, h2⟩ := h
  refine ⟨?_, h1⟩
  by_cases he : l = []
  · subst he
    exact ⟨Norm.nil, fun _ => by simpa using h2⟩
  · rw [if_neg he] at h2
    simp only [Bool.and_eq_true, List.all_eq_true] at h2
    obtain ⟨h2, h3⟩ := h2
    refine ⟨⟨fun x hx => ?_, fun ys y e => ?_⟩, fun e => absurd e he⟩
    · have := h2 x hx
      unfold inr at this
      have := of_decide_eq_true this
      rw [B_def]; omega
    · unfold lastNz at h3
      subst e
      simpa using h3
end Go.Proofs.YthanbjnpfenniaaDoor.Fw

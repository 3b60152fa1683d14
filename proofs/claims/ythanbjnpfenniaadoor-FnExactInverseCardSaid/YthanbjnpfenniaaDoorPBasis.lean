/- What a good basis is: both tests are one. -/
import Derived.Test.YthanbjnpfenniaaDoorPPr
import Derived.Test.YthanbjnpfenniaaDoorEqB
namespace Go.Proofs.YthanbjnpfenniaaDoor.Fw
open Go Go.RowKit Go.Proofs.YthanbjnpfenniaaDoor.NumTh
set_option linter.unusedVariables false

theorem in_ret {n : Nat} (hn : Big + 1 ≤ n) {x a b : Int} : c_impl_in (run tb orc n) x a b = some (decide (a ≤ x ∧ x ≤ b)) := by
  obtain ⟨n, rfl, hn⟩ := up hn
  rw [impl_in_eq]; unfold impl_in_f impl_in_x
  by_cases h : a ≤ x
  · rw [if_pos h]; simp [h]
  · rw [if_neg h]; simp [h]
theorem l1In_ret {n : Nat} (hn : Big + 1 ≤ n) {x a b : Int} : c_spec_l1In (run tb orc n) x a b = some (decide (a ≤ x ∧ x ≤ b)) := by
  obtain ⟨n, rfl, hn⟩ := up hn
  rw [spec_l1In_eq]; unfold spec_l1In_f spec_l1In_x
  by_cases h : a ≤ x
  · rw [if_pos h]; simp [h]
  · rw [if_neg h]; simp [h]
def modB (p : Int) : Bool := decide (2 ≤ p ∧ p ≤ 268435456)
theorem modB_iff {p : Int} : modB p = true ↔ 2 ≤ p ∧ p ≤ 268435456 := by unfold modB; simp
theorem isModulus_ret {n : Nat} (hn : Big + 2 ≤ n) {p : Int} : c_impl_isModulus (run tb orc n) p = some (modB p) := by
  obtain ⟨n, rfl, hn⟩ := up hn
  rw [impl_isModulus_eq]; unfold impl_isModulus_f impl_isModulus_x
  rw [in_ret (by omega)]; rfl
theorem l1Modulus_ret {n : Nat} (hn : Big + 2 ≤ n) {p : Int} : c_spec_l1Modulus (run tb orc n) p = some (modB p) := by
  obtain ⟨n, rfl, hn⟩ := up hn
  rw [spec_l1Modulus_eq]; unfold spec_l1Modulus_f spec_l1Modulus_x
  rw [l1In_ret (by omega)]; rfl
/-- A prime modulus. -/
noncomputable def primeB (p : Int) : Bool := modB p && isPI p
theorem primeB_iff {p : Int} : primeB p = true ↔ (2 ≤ p ∧ p ≤ 268435456) ∧ isPI p = true := by unfold primeB; rw [Bool.and_eq_true, modB_iff]
theorem primeB_pr {p : Int} (h : primeB p = true) : Pr p.toNat := pr_of_isPI (primeB_iff.1 h).2 (primeB_iff.1 h).1.2
theorem isPrimeModulus_ret {n : Nat} (hn : Big + 8 ≤ n) {p : Int} : c_impl_isPrimeModulus (run tb orc n) p = some (primeB p) := by
  obtain ⟨n, rfl, hq⟩ := up hn
  rw [impl_isPrimeModulus_eq]; unfold impl_isPrimeModulus_f impl_isPrimeModulus_x
  rw [isModulus_ret (by omega)]
  simp only [Option.bind_some]
  unfold primeB
  cases h : modB p with
  | false => rw [if_neg (by simp), Bool.false_and]
  | true =>
    obtain ⟨h1, h2⟩ := modB_iff.1 h
    rw [if_pos rfl, wu64 (by omega) (by omega), isPrime_i hq (by omega) (by omega), Bool.true_and]; rfl
/-- Primes, none twice, none of those before. -/
noncomputable def pd : List Int → List Int → Bool
  | _, [] => true
  | seen, p :: r => primeB p && (!seen.contains p && pd (seen ++ [p]) r)
noncomputable def basisB (l : List Int) : Bool := decide (1 ≤ l.length ∧ l.length ≤ 6) && pd [] l
theorem index_loop {C : Ca tb} {N : Nat} {l : List Int} (hl : l.length < 1099511627776) {p : Int} : ∀ (d i : Nat), i + d = l.length → ∀ K, d < K →
    ∃ r : Int, iterO (slices_Index_int_int_g1 C N l p) K (i : Int) = some r ∧ decide (r ≥ 0) = (l.drop i).contains p
  | 0, i, hi, K, hK => by
    obtain ⟨K, rfl⟩ : ∃ j, K = j + 1 := ⟨K - 1, by omega⟩
    refine ⟨-1, ?_, by rw [List.drop_of_length_le (by omega)]; rfl⟩
    show slices_Index_int_int_x1 C _ _ _ _ = _
    unfold slices_Index_int_int_x1
    rw [if_neg (by omega)]
  | d + 1, i, hi, K, hK => by
    obtain ⟨K, rfl⟩ : ∃ j, K = j + 1 := ⟨K - 1, by omega⟩
    have hlt : i < l.length := by omega
    rw [List.drop_eq_getElem_cons hlt, List.contains_cons]
    show ∃ r : Int, slices_Index_int_int_x1 C _ _ _ _ = some r ∧ _
    unfold slices_Index_int_int_x1
    rw [if_pos (by omega), if_pos (by omega), if_pos (by omega), nat_i, getD_get hlt]
    by_cases h : p = l[i]
    · exact ⟨i, by rw [if_pos h], by simp [h]⟩
    · obtain ⟨r, h1, h2⟩ := index_loop hl (C := C) (N := N) (p := p) d (i + 1) (by omega) K (by omega)
      refine ⟨r, ?_, ?_⟩
      · rw [if_neg h, w64 (by omega) (by omega), ni1]; exact h1
      · have : (p == l[i]) = false := by simpa using h
        rw [this, Bool.false_or]; exact h2
theorem contains_int {n : Nat} (hn : Big + 2 ≤ n) {l : List Int} (hl : l.length < 1099511627776) {p : Int} : c_slices_Contains_int_int (run tb orc n) l p = some (l.contains p) := by
  obtain ⟨n, rfl, hn⟩ := up2 hn
  have hb := big_ge
  rw [slices_Contains_int_int_eq]; unfold slices_Contains_int_int_f slices_Contains_int_int_x
  rw [slices_Index_int_int_eq]; unfold slices_Index_int_int_f slices_Index_int_int_x
  obtain ⟨r, h1, h2⟩ := index_loop (C := run tb orc n) (N := n) hl (p := p) l.length 0 (by omega) n (by omega)
  have h1' : iterO (slices_Index_int_int_g1 (run tb orc n) n l p) n 0 = some r := h1
  simp only [h1', Option.bind_some]
  rw [h2]; rfl
theorem take_drop0 (l : List Int) (i : Nat) : (l.take ((i : Int)).toNat).drop (0 : Int).toNat = l.take i := by rw [nat_i]; rfl
theorem basis_i_loop {n : Nat} (hn : Big + 8 ≤ n) {l : List Int} (hl : l.length < 1099511627776) : ∀ (d i : Nat), i + d = 6 → i ≤ l.length → ∀ K, d < K →
    iterO (impl_GoodBasis_g1 (run tb orc n) n l) K (i : Int) = some (decide (l.length ≤ 6) && (pd (l.take i) (l.drop i) && decide (0 < l.length))) := by
  intro d
  induction d with
  | zero =>
    intro i hi hil K hK
    obtain ⟨K, rfl⟩ : ∃ j, K = j + 1 := ⟨K - 1, by omega⟩
    show impl_GoodBasis_x1 _ _ _ _ = _
    unfold impl_GoodBasis_x1
    by_cases h : i < l.length
    · rw [if_pos (by omega), if_pos (by omega), if_pos (by omega), if_pos (by omega), decide_eq_false (by omega : ¬ l.length ≤ 6)]; rfl
    · rw [if_neg (by omega), decide_eq_true (by omega : l.length ≤ 6), List.drop_of_length_le (by omega)]
      simp [pd]
  | succ d ih =>
    intro i hi hil K hK
    obtain ⟨K, rfl⟩ : ∃ j, K = j + 1 := ⟨K - 1, by omega⟩
    have ih := ih (i + 1) (by omega)
    show impl_GoodBasis_x1 _ _ _ _ = _
    unfold impl_GoodBasis_x1
    by_cases h : i < l.length
    · have ih := ih (by omega) K (by omega)
      rw [if_pos (by omega), if_pos (by omega), if_pos (by omega), if_neg (by omega), nat_i, getD_get h, isPrimeModulus_ret hn, List.drop_eq_getElem_cons h]
      simp only [Option.bind_some, pd]
      cases hp : primeB l[i] with
      | false => simp
      | true =>
        rw [if_neg (by simp), if_pos (by omega), if_pos (by omega), if_pos (by omega), if_pos (by omega), show (0 : Int).toNat = 0 from rfl, List.drop_zero, contains_int (by omega) (by simp; omega)]
        simp only [Option.bind_some]
        cases hc : (l.take i).contains l[i] with
        | true => simp
        | false =>
          rw [if_neg (by simp), w64 (by omega) (by omega), ni1, ih, List.take_succ_eq_append_getElem h]
          simp
    · rw [if_neg (by omega), decide_eq_true (by omega : l.length ≤ 6), List.drop_of_length_le (by omega)]
      simp [pd]
theorem basis_i {n : Nat} (hn : Big + 9 ≤ n) {l : List Int} (hl : l.length < 1099511627776) : c_impl_GoodBasis (run tb orc n) l = some (basisB l) := by
  obtain ⟨n, rfl, hq⟩ := up hn
  have hb := big_ge
  rw [impl_GoodBasis_eq]; unfold impl_GoodBasis_f impl_GoodBasis_x
  refine (basis_i_loop hq hl 6 0 rfl (by omega) n (by omega)).trans ?_
  unfold basisB
  simp only [List.take_zero, List.drop_zero]
  congr 1
  rcases Nat.eq_zero_or_pos l.length with h2 | h2
  · rw [decide_eq_false (by omega : ¬ 0 < l.length), decide_eq_false (by omega : ¬ (1 ≤ l.length ∧ l.length ≤ 6))]; simp
  · rw [decide_eq_true h2, Bool.and_true]
    by_cases h1 : l.length ≤ 6
    · rw [decide_eq_true h1, decide_eq_true (by omega : 1 ≤ l.length ∧ l.length ≤ 6)]
    · rw [decide_eq_false h1, decide_eq_false (by omega : ¬ (1 ≤ l.length ∧ l.length ≤ 6))]
theorem before_loop {n : Nat} {C : Ca tb} {l : List Int} {i : Nat} (h : i < l.length) (hl : l.length < 1099511627776) {self1 : Int → Option Bool} : ∀ (d j : Nat), j + d = i → ∀ K, d < K →
    iterO (spec_GoodBasis_g2 C n self1 l (i : Int)) K (j : Int) = if ((l.take i).drop j).contains (l.getD i 0) = true then some false else self1 (wr .i64 ((i : Int) + 1)) := by
  intro d
  have hlen : (l.take i).length = i := by simp; omega
  induction d with
  | zero =>
    intro j hj K hK
    obtain ⟨K, rfl⟩ : ∃ j, K = j + 1 := ⟨K - 1, by omega⟩
    show spec_GoodBasis_x2 C _ _ _ _ _ = _
    unfold spec_GoodBasis_x2
    rw [take_drop0, hlen, if_neg (by omega), List.drop_of_length_le (by omega)]; rfl
  | succ d ih =>
    intro j hj K hK
    obtain ⟨K, rfl⟩ : ∃ j, K = j + 1 := ⟨K - 1, by omega⟩
    have hj' : j < (l.take i).length := by omega
    show spec_GoodBasis_x2 C _ _ _ _ _ = _
    unfold spec_GoodBasis_x2
    rw [take_drop0, hlen, if_pos (by omega), if_pos (by omega), if_pos (by omega), nat_i, nat_i, getD_get hj', List.drop_eq_getElem_cons hj', List.contains_cons]
    by_cases e : l.getD i 0 = (l.take i)[j]
    · rw [if_pos e, e]; simp
    · have e' : (l.getD i 0 == (l.take i)[j]) = false := by simpa using e
      rw [if_neg e, e', Bool.false_or, w64 (by omega) (by omega), ni1]
      exact ih (j + 1) (by omega) K (by omega)
theorem basis_s_loop {n : Nat} (hn : Big + 3 ≤ n) {l : List Int} (hl : l.length < 1099511627776) : ∀ (d i : Nat), i + d = l.length → ∀ K, d < K →
    iterO (spec_GoodBasis_g1 (run tb orc n) n l) K (i : Int) = some (pd (l.take i) (l.drop i)) := by
  intro d
  induction d with
  | zero =>
    intro i hi K hK
    obtain ⟨K, rfl⟩ : ∃ j, K = j + 1 := ⟨K - 1, by omega⟩
    rw [iterO_succ]
    unfold spec_GoodBasis_g1 spec_GoodBasis_x1
    dsimp only
    rw [if_neg (by omega), List.drop_of_length_le (by omega)]; rfl
  | succ d ih =>
    intro i hi K hK
    obtain ⟨K, rfl⟩ : ∃ j, K = j + 1 := ⟨K - 1, by omega⟩
    have hb := big_ge
    have h : i < l.length := by omega
    have ih := ih (i + 1) (by omega) K (by omega)
    rw [iterO_succ]
    generalize iterO (spec_GoodBasis_g1 (run tb orc n) n l) K = self at ih ⊢
    unfold spec_GoodBasis_g1 spec_GoodBasis_x1
    dsimp only
    rw [if_pos (by omega), if_pos (by omega), if_pos (by omega), nat_i, l1Modulus_ret (by omega), List.drop_eq_getElem_cons h]
    simp only [Option.bind_some, pd]
    rw [getD_get h]
    unfold primeB
    cases hm : modB l[i] with
    | false => simp
    | true =>
      obtain ⟨h1, h2⟩ := modB_iff.1 hm
      rw [if_neg (by simp), wu64 (by omega) (by omega), isPrime_s hn (by omega) (by omega)]
      simp only [Option.bind_some, Bool.true_and]
      cases hp : isPI l[i] with
      | false => simp
      | true =>
        rw [if_neg (by simp), if_pos (by omega), if_pos (by omega), if_pos (by omega), if_pos (by omega)]
        refine (before_loop h hl i 0 (by omega) n (by omega)).trans ?_
        rw [List.drop_zero, getD_get h]
        cases hc : (l.take i).contains l[i] with
        | true => simp
        | false =>
          rw [if_neg (by simp), w64 (by omega) (by omega), ni1, ih, List.take_succ_eq_append_getElem h]
          simp
theorem basis_s {n : Nat} (hn : Big + 4 ≤ n) {l : List Int} (hl : l.length < 1099511627776) : c_spec_GoodBasis (run tb orc n) l = some (basisB l) := by
  obtain ⟨n, rfl, hq⟩ := up hn
  have hb := big_ge
  rw [spec_GoodBasis_eq]; unfold spec_GoodBasis_f spec_GoodBasis_x basisB
  rw [l1In_ret (by omega)]
  simp only [Option.bind_some]
  by_cases h : 1 ≤ l.length ∧ l.length ≤ 6
  · rw [decide_eq_true (by omega : (1 : Int) ≤ (l.length : Int) ∧ (l.length : Int) ≤ 6), decide_eq_true h, if_neg (by simp), Bool.true_and]
    exact basis_s_loop hq hl l.length 0 (by omega) n (by omega)
  · rw [decide_eq_false (by omega : ¬ ((1 : Int) ≤ (l.length : Int) ∧ (l.length : Int) ≤ 6)), decide_eq_false h, if_pos (by simp)]; rfl
/-- What a good basis has. -/
theorem pd_true : ∀ {seen l : List Int}, pd seen l = true → (∀ p ∈ l, primeB p = true) ∧ l.Nodup ∧ ∀ p ∈ l, p ∉ seen
  | seen, [], _ => ⟨fun p h => by (cases h), List.nodup_nil, fun p h => by (cases h)⟩
  | seen, p :: r, h => by
    simp only [pd, Bool.and_eq_true, Bool.not_eq_true'] at h
    obtain ⟨h1, h2, h3⟩ := h
    obtain ⟨g1, g2, g3⟩ := pd_true h3
    have h2' : p ∉ seen := by simpa using h2
    refine ⟨fun q hq => ?_, List.nodup_cons.2 ⟨fun hp => g3 p hp (by simp), g2⟩, fun q hq => ?_⟩
    · rcases List.mem_cons.1 hq with rfl | hq
      · exact h1
      · exact g1 q hq
    · rcases List.mem_cons.1 hq with rfl | hq
      · exact h2'
      · exact fun hs => g3 q hq (List.mem_append.2 (.inl hs))
structure Basis (l : List Int) : Prop where
  pos : 1 ≤ l.length
  len : l.length ≤ 6
  pr : ∀ p ∈ l, primeB p = true
  nd : l.Nodup
theorem basis_of {l : List Int} (h : basisB l = true) : Basis l := by
  unfold basisB at h
  rw [Bool.and_eq_true, decide_eq_true_eq] at h
  obtain ⟨g1, g2, _⟩ := pd_true h.2
  exact ⟨h.1.1, h.1.2, g1, g2⟩
end Go.Proofs.YthanbjnpfenniaaDoor.Fw

/- The reference's sums and lists of a number (l2): values told. -/
import Derived.Test.YtajlgfjmocgoeaaLawKit
import Derived.Test.YtajlgfjmocgoeaaLimbs
namespace Go.Proofs.Ytajlgfjmocgoeaa.SpecAdd
open Go.RowKit Go.Proofs.YtajlgfjmocgoeaaW.PrintWords Go.Proofs.YtajlgfjmocgoeaaW.PrintLast Go.Proofs.YtajlgfjmocgoeaaW.PrintMore Go.Proofs.Ytajlgfjmocgoeaa.Lib Go.Proofs.Ytajlgfjmocgoeaa.M Go.Proofs.Ytajlgfjmocgoeaa.Word Go.Proofs.Ytajlgfjmocgoeaa.LawKit Go.Proofs.Ytajlgfjmocgoeaa.Limbs

theorem rd_nat (l : List Int) (i : Nat) : rd l (i : Int) = l.getD i 0 := by unfold rd; rw [Int.toNat_natCast]

theorem val_take_succ (l : List Int) (i : Nat) : val (l.take (i + 1)) = val (l.take i) + B ^ i * l.getD i 0 := by
  by_cases h : i < l.length
  · rw [List.take_succ_eq_append_getElem h, val_snoc, List.length_take, Nat.min_eq_left (by omega)]
    simp [h]
  · rw [List.take_of_length_le (by omega), List.take_of_length_le (by omega)]
    have : l.getD i 0 = 0 := by simp [List.getElem?_eq_none (by omega : l.length ≤ i)]
    rw [this]; simp
theorem ok_getD {l : List Int} (h : Ok l) (i : Nat) : 0 ≤ l.getD i 0 ∧ l.getD i 0 < B := by
  by_cases hi : i < l.length
  · have := h l[i] (List.getElem_mem hi)
    simpa [hi] using this
  · have : l.getD i 0 = 0 := by simp [List.getElem?_eq_none (by omega : l.length ≤ i)]
    rw [this]; exact ⟨by omega, B_pos⟩

/-! ### without noughts behind -/
theorem trim_from : ∀ (n : Nat) (l : List Int), l.length = n → n ≤ 4611686018427387904 → ∀ K, n < K → spec_l2Trim.l0 K l = some (trim l)
  | 0, l, hl, _, K, hK => by
    obtain ⟨K, rfl⟩ : ∃ j, K = j + 1 := ⟨K - 1, by omega⟩
    simp only [spec_l2Trim.l0]
    rw [if_neg (by omega)]
    have : l = [] := List.eq_nil_of_length_eq_zero hl
    subst this; rfl
  | n + 1, l, hl, hm, K, hK => by
    obtain ⟨K, rfl⟩ : ∃ j, K = j + 1 := ⟨K - 1, by omega⟩
    rcases snoc_cases l with rfl | ⟨ys, y, rfl⟩
    · simp at hl
    · have hy : ys.length = n := by simpa using hl
      simp only [spec_l2Trim.l0]
      have e : wrap64 (((ys ++ [y]).length : Int) - 1) = ((ys.length : Nat) : Int) := by
        rw [w64 (by omega) (by omega)]; simp
      rw [if_pos (by omega), e, if_pos (by omega), if_pos (by simp; omega), rd_nat]
      have hg : (ys ++ [y]).getD ys.length 0 = y := by simp
      rw [hg]
      by_cases h0 : y = 0
      · rw [if_pos h0, if_pos (by simp; omega), Int.toNat_natCast, h0, trim_snoc_zero]
        rw [List.take_left' rfl]
        exact trim_from n ys hy (by omega) K (by omega)
      · rw [if_neg h0, trim_snoc_ne ys h0]
theorem trim_s (l : List Int) (h : l.length ≤ 4611686018427387904) : Ev (fun k => spec_l2Trim.f k l) (trim l) :=
  ⟨l.length + 1, fun K hK => trim_from l.length l rfl h K (by omega)⟩

/-! ### sums -/
/-- What one round of the sum does. -/
theorem add_step (a b out : List Int) (c : Int) (i K : Nat) (ha : Ok a) (hb : Ok b) (hc : 0 ≤ c ∧ c ≤ 1) (hi : i ≤ 1048601) (ho : out.length = i)
    (hgo : i < a.length ∨ i < b.length ∨ 0 < c) :
    spec_l2Add.l0 (K + 2) a b out c (i : Int) = spec_l2Add.l0 K a b (out ++ [(c + a.getD i 0 + b.getD i 0) % B]) ((c + a.getD i 0 + b.getD i 0) / B) ((i + 1 : Nat) : Int) := by
  have hB := B_def
  have ga := ok_getD ha i
  have gb := ok_getD hb i
  have e1 : wrap64 ((i : Int) + 1) = ((i + 1 : Nat) : Int) := by rw [w64 (by omega) (by omega)]; omega
  have j1 : spec_l2Add.j1 (K + 1) a b out c (i : Int) true = spec_l2Add.l0 K a b (out ++ [(c + a.getD i 0 + b.getD i 0) % B]) ((c + a.getD i 0 + b.getD i 0) / B) ((i + 1 : Nat) : Int) := by
    have s0 : 0 ≤ c + a.getD i 0 + b.getD i 0 := by omega
    have s1 : c + a.getD i 0 + b.getD i 0 ≤ 536870912 := by omega
    have e2 : Int.tmod (c + a.getD i 0 + b.getD i 0) 268435456 = (c + a.getD i 0 + b.getD i 0) % B := by rw [tmod_nn s0, hB]
    have e3 : wrap64 (Int.tdiv (c + a.getD i 0 + b.getD i 0) 268435456) = (c + a.getD i 0 + b.getD i 0) / B := by
      rw [tdiv_nn s0, w64 (by omega) (by omega), hB]
    simp only [spec_l2Add.j1]
    rw [if_pos trivial]
    by_cases h1 : i < a.length
    · rw [if_pos (by omega), if_pos (by omega), rd_nat, w64 (n := c + a.getD i 0) (by omega) (by omega)]
      by_cases h2 : i < b.length
      · rw [if_pos (by omega), if_pos (by omega), rd_nat, w64 (n := c + a.getD i 0 + b.getD i 0) (by omega) (by omega), e2, e3, e1]
      · have hz : b.getD i 0 = 0 := by simp [List.getElem?_eq_none (by omega : b.length ≤ i)]
        rw [hz, Int.add_zero] at e2 e3
        rw [if_neg (by omega), if_pos (by omega), e2, e3, e1, hz, Int.add_zero]
    · have hz : a.getD i 0 = 0 := by simp [List.getElem?_eq_none (by omega : a.length ≤ i)]
      rw [hz, Int.add_zero] at e2 e3
      rw [if_neg (by omega), hz, Int.add_zero]
      by_cases h2 : i < b.length
      · rw [hz] at s1
        rw [if_pos (by omega), if_pos (by omega), if_pos (by omega), rd_nat, w64 (n := c + b.getD i 0) (by omega) (by omega), e2, e3, e1]
      · have hz2 : b.getD i 0 = 0 := by simp [List.getElem?_eq_none (by omega : b.length ≤ i)]
        rw [hz2, Int.add_zero] at e2 e3
        rw [if_neg (by omega), if_pos (by omega), e2, e3, e1, hz2, Int.add_zero]
  show spec_l2Add.l0 (K + 1 + 1) a b out c (i : Int) = _
  simp only [spec_l2Add.l0]
  by_cases h1 : i < a.length
  · rw [if_pos (by omega)]; exact j1
  · rw [if_neg (by omega)]
    by_cases h2 : i < b.length
    · rw [if_pos (by omega)]; exact j1
    · rw [if_neg (by omega), decide_eq_true (by omega)]; exact j1

theorem add_end (a b out : List Int) (i K : Nat) (ho : out.length = i) (hi : i ≤ 1048610) (hK : i < K) (h1 : a.length ≤ i) (h2 : b.length ≤ i) :
    spec_l2Add.l0 (K + 2) a b out 0 (i : Int) = some (trim out) := by
  show spec_l2Add.l0 (K + 1 + 1) a b out 0 (i : Int) = _
  simp only [spec_l2Add.l0]
  rw [if_neg (by omega), if_neg (by omega), decide_eq_false (by omega)]
  simp only [spec_l2Add.j1]
  rw [if_neg (by simp)]
  unfold spec_l2Trim.f
  rw [trim_from out.length out rfl (by omega) K (by omega)]; rfl

theorem add_from (a b : List Int) (ha : Ok a) (hb : Ok b) (hla : a.length ≤ 1048600) (hlb : b.length ≤ 1048600) (m : Nat) (hm : m = max a.length b.length) : ∀ (d i : Nat) (out : List Int) (c : Int), i + d = m → out.length = i → Ok out → 0 ≤ c ∧ c ≤ 1 →
    val out + B ^ i * c = val (a.take i) + val (b.take i) →
    ∃ r, Norm r ∧ val r = val a + val b ∧ r.length ≤ m + 1 ∧ ∀ K, 2 * d + m + 10 < K → spec_l2Add.l0 K a b out c (i : Int) = some r
  | 0, i, out, c, hi, ho, hok, hc, hv => by
    have hB := B_def
    have hma : a.length ≤ i := by omega
    have hmb : b.length ≤ i := by omega
    rw [List.take_of_length_le hma, List.take_of_length_le hmb] at hv
    by_cases hc0 : c = 0
    · subst hc0
      refine ⟨trim out, trim_norm hok, ?_, by have := trim_length_le out; omega, fun K hK => ?_⟩
      · rw [val_trim]; omega
      · obtain ⟨K, rfl⟩ : ∃ j, K = j + 2 := ⟨K - 2, by omega⟩
        exact add_end a b out i K ho (by omega) (by omega) hma hmb
    · have hc1 : c = 1 := by omega
      subst hc1
      have za : a.getD i 0 = 0 := by simp [List.getElem?_eq_none hma]
      have zb : b.getD i 0 = 0 := by simp [List.getElem?_eq_none hmb]
      have hok2 : Ok (out ++ [1]) := hok.snoc (by omega) (by omega)
      refine ⟨trim (out ++ [1]), trim_norm hok2, ?_, by have := trim_length_le (out ++ [1]); simp at this; omega, fun K hK => ?_⟩
      · rw [val_trim, val_snoc, ho]; exact hv
      · obtain ⟨K, rfl⟩ : ∃ j, K = j + 4 := ⟨K - 4, by omega⟩
        rw [show K + 4 = K + 2 + 2 from rfl, add_step a b out 1 i (K + 2) ha hb (by omega) (by omega) ho (by omega), za, zb]
        have e1 : ((1 : Int) + 0 + 0) % B = 1 := by rw [hB]; rfl
        have e2 : ((1 : Int) + 0 + 0) / B = 0 := by rw [hB]; rfl
        rw [e1, e2]
        exact add_end a b (out ++ [1]) (i + 1) K (by simp [ho]) (by omega) (by omega) (by omega) (by omega)
  | d + 1, i, out, c, hi, ho, hok, hc, hv => by
    have hB := B_def
    have ga := ok_getD ha i
    have gb := ok_getD hb i
    have hgo : i < a.length ∨ i < b.length ∨ 0 < c := by omega
    have s := Int.emod_add_mul_ediv (c + a.getD i 0 + b.getD i 0) B
    have m0 : 0 ≤ (c + a.getD i 0 + b.getD i 0) % B := Int.emod_nonneg _ (by omega)
    have m1 : (c + a.getD i 0 + b.getD i 0) % B < B := Int.emod_lt_of_pos _ (by omega)
    have q : 0 ≤ (c + a.getD i 0 + b.getD i 0) / B ∧ (c + a.getD i 0 + b.getD i 0) / B ≤ 1 := by rw [hB] at *; omega
    obtain ⟨r, hr1, hr2, hr3, hr4⟩ := add_from a b ha hb hla hlb m hm d (i + 1) (out ++ [(c + a.getD i 0 + b.getD i 0) % B]) ((c + a.getD i 0 + b.getD i 0) / B) (by omega) (by simp [ho]) (hok.snoc m0 m1) q (by
      rw [val_snoc, ho, val_take_succ, val_take_succ, Int.pow_succ]
      have e1 : B ^ i * ((c + a.getD i 0 + b.getD i 0) % B) + B ^ i * B * ((c + a.getD i 0 + b.getD i 0) / B) = B ^ i * (c + a.getD i 0 + b.getD i 0) := by
        rw [Int.mul_assoc, ← Int.mul_add, s]
      rw [Int.mul_add, Int.mul_add] at e1
      omega)
    refine ⟨r, hr1, hr2, hr3, fun K hK => ?_⟩
    obtain ⟨K, rfl⟩ : ∃ j, K = j + 2 := ⟨K - 2, by omega⟩
    rw [add_step a b out c i K ha hb hc (by omega) ho hgo]
    exact hr4 K (by omega)

/-- The reference's sum of two lists. -/
theorem add_s {a b : List Int} (ha : Ok a) (hb : Ok b) (hla : a.length ≤ 1048600) (hlb : b.length ≤ 1048600) :
    ∃ r, Norm r ∧ val r = val a + val b ∧ r.length ≤ max a.length b.length + 1 ∧ Ev (fun k => spec_l2Add.f k a b) r := by
  obtain ⟨r, h1, h2, h3, h4⟩ := add_from a b ha hb hla hlb _ rfl (max a.length b.length) 0 [] 0 (by omega) rfl Ok.nil (by omega) (by simp)
  exact ⟨r, h1, h2, h3, 2 * max a.length b.length + max a.length b.length + 11, fun K hK => h4 K (by omega)⟩

/-! ### a number's list -/
/-- The limbs of a number from 0 on. -/
def digs : Nat → List Int
  | 0 => []
  | n + 1 => (((n + 1) % 268435456 : Nat) : Int) :: digs ((n + 1) / 268435456)
decreasing_by exact Nat.div_lt_self (by omega) (by omega)

theorem digs_zero : digs 0 = [] := by rw [digs]
theorem digs_pos {n : Nat} (h : n ≠ 0) : digs n = ((n % 268435456 : Nat) : Int) :: digs (n / 268435456) := by
  cases n with
  | zero => exact absurd rfl h
  | succ n => rw [digs]
theorem digs_val : ∀ n : Nat, val (digs n) = n := by
  intro n
  induction n using Nat.strongRecOn with
  | ind n ih =>
    by_cases h : n = 0
    · subst h; rw [digs_zero]; rfl
    · rw [digs_pos h, val_cons, ih (n / 268435456) (Nat.div_lt_self (by omega) (by omega)), B_def]
      omega
theorem digs_norm : ∀ n : Nat, Norm (digs n) := by
  intro n
  induction n using Nat.strongRecOn with
  | ind n ih =>
    by_cases h : n = 0
    · subst h; rw [digs_zero]; exact Norm.nil
    · have hh := ih (n / 268435456) (Nat.div_lt_self (by omega) (by omega))
      rw [digs_pos h]
      refine ⟨Ok.cons (by omega) (by rw [B_def]; omega) hh.ok, fun ys y e => ?_⟩
      cases ys with
      | nil =>
        simp at e
        obtain ⟨e1, e2⟩ := e
        have hv := digs_val (n / 268435456)
        rw [e2] at hv
        simp at hv
        omega
      | cons z zs =>
        simp at e
        exact hh.tail zs y e.2
theorem digs_length : ∀ (k n : Nat), n < 268435456 ^ k → (digs n).length ≤ k
  | 0, n, h => by
    have : n = 0 := by simpa using h
    subst this; rw [digs_zero]; simp
  | k + 1, n, h => by
    by_cases h0 : n = 0
    · subst h0; rw [digs_zero]; simp
    · rw [digs_pos h0, List.length_cons]
      have := digs_length k (n / 268435456) (by rw [Nat.pow_succ] at h; exact Nat.div_lt_of_lt_mul (by rw [Nat.mul_comm]; exact h))
      omega

theorem of_from : ∀ (n : Nat), n < 9223372036854775808 → ∀ (out : List Int), out.length ≤ 1000 → ∀ K, (digs n).length < K → out.length + (digs n).length ≤ 1000 → spec_l2Of.l0 K (n : Int) out = some (out ++ digs n) := by
  intro n
  induction n using Nat.strongRecOn with
  | ind n ih =>
    intro hn out ho K hK hl
    obtain ⟨K, rfl⟩ : ∃ j, K = j + 1 := ⟨K - 1, by omega⟩
    simp only [spec_l2Of.l0]
    by_cases h0 : n = 0
    · subst h0; rw [if_neg (by omega), digs_zero, List.append_nil]
    · rw [digs_pos h0] at hK hl ⊢
      rw [List.length_cons] at hK hl
      rw [if_pos (by omega), if_pos (by omega), tdiv_nn (by omega), tmod_nn (by omega), w64 (by omega) (by omega)]
      have e1 : ((n : Int) / 268435456) = ((n / 268435456 : Nat) : Int) := by omega
      have e2 : ((n : Int) % 268435456) = ((n % 268435456 : Nat) : Int) := by omega
      rw [e1, e2, ih (n / 268435456) (Nat.div_lt_self (by omega) (by omega)) (by omega) _ (by simp; omega) K (by omega) (by simp; omega)]
      simp
theorem digs_word {n : Nat} (h : n < 18446744073709551616) : (digs n).length ≤ 3 := digs_length 3 n (by omega)
theorem of_s {n : Nat} (h : n < 9223372036854775808) : Ev (fun k => spec_l2Of.f k (n : Int)) (digs n) := by
  have hl := digs_word (n := n) (by omega)
  refine ⟨10, fun K hK => ?_⟩
  show spec_l2Of.l0 K (n : Int) [] = _
  rw [of_from n h [] (by simp) K (by omega) (by simp; omega)]; rfl

end Go.Proofs.Ytajlgfjmocgoeaa.SpecAdd

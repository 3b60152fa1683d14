/- Coins: the law of TernaryRow. -/
import Derived.Test.YtnlgciomdghfiaaPTer
import Derived.Test.YtnlgciomdghfiaaEqRowT
namespace Go.Proofs.Ytnlgciomdghfiaa.Fw
open Go Go.RowKit
set_option linter.unusedVariables false

/-- The first word below a bound from a place on, and the place behind it. -/
def scan (L : Int) (w : List Int) : Nat → Nat → Option (Int × Nat)
  | 0, _ => none
  | d + 1, i => if w.getD i 0 < L then some (w.getD i 0, i + 1) else scan L w d (i + 1)
theorem scan_succ (L : Int) (w : List Int) (d i : Nat) : scan L w (d + 1) i = if w.getD i 0 < L then some (w.getD i 0, i + 1) else scan L w d (i + 1) := rfl
theorem scan_le {L : Int} {w : List Int} : ∀ {d i : Nat} {x : Int} {j : Nat}, scan L w d i = some (x, j) → i + d ≤ w.length → j ≤ w.length
  | 0, i, x, j, h, hd => by cases h
  | d + 1, i, x, j, h, hd => by
    rw [scan_succ] at h
    split at h
    · cases h; omega
    · exact scan_le h (by omega)
/-- So many of them. -/
def rowU (f : Int → Int) (L : Int) (w : List Int) : Nat → Nat → List Int → List Int × Int × Bool
  | 0, i, out => (out, (i : Int), true)
  | n + 1, i, out => match scan L w (w.length - i) i with
    | none => ([], 0, false)
    | some (x, j) => rowU f L w n j (out ++ [f x])
theorem rowU_succ (f : Int → Int) (L : Int) (w : List Int) (n i : Nat) (out : List Int) : rowU f L w (n + 1) i out = match scan L w (w.length - i) i with
    | none => ([], 0, false)
    | some (x, j) => rowU f L w n j (out ++ [f x]) := rfl
theorem rowU_len {f : Int → Int} {L : Int} {w : List Int} : ∀ {n i : Nat} {out : List Int}, (rowU f L w n i out).1.length ≤ out.length + n
  | 0, i, out => by simp [rowU]
  | n + 1, i, out => by
    rw [rowU_succ]
    split
    · simp
    · rename_i x j _
      have := rowU_len (f := f) (L := L) (w := w) (n := n) (i := j) (out := out ++ [f x])
      simp only [List.length_append, List.length_singleton] at this
      omega
/-- What the inner loop comes to. -/
def draw1 {R : Type} (L : Int) (w : List Int) (A : Int → Nat → Option R) (E : Option R) (d i : Nat) : Option R := match scan L w d i with
  | some (x, j) => A x j
  | none => E
theorem draw1_succ {R : Type} (L : Int) (w : List Int) (A : Int → Nat → Option R) (E : Option R) (d i : Nat) : draw1 L w A E (d + 1) i = if w.getD i 0 < L then A (w.getD i 0) (i + 1) else draw1 L w A E d (i + 1) := by
  unfold draw1
  rw [scan_succ]
  by_cases h : w.getD i 0 < L
  · rw [if_pos h, if_pos h]
  · rw [if_neg h, if_neg h]

section
variable {C0 C1 C2 C3 C4 : Ca tb} {N0 N1 N2 N3 N4 : Nat} {w : List Int} {x1 x3 : Int} {d1 d2 : Bool}
theorem specUR_in (hl : w.length < 1099511627776) {S : Int × Int × Bool × List Int → Option (List Int × Int × Bool)} {n : Nat} {q : Int} {o : List Int} (hn : n ≤ 64) (ho : o.length ≤ 64) : ∀ (d i : Nat), i + d = w.length → ∀ K, d < K →
    iterO (spec_TernaryRow_g2 C0 C1 C2 C3 C4 N0 N1 N2 N3 N4 S w x1 x3 d1 d2 (((n + 1 : Nat) : Int), q, true, o)) K ((i : Int), true) = draw1 (wBound 3) w (fun x j => S ((n : Int), (j : Int), true, o ++ [ter x])) (S ((n : Int), (w.length : Int), false, o ++ [(0:Int).tmod 3])) d i
  | 0, i, hi, K, hK => by
    obtain ⟨K, rfl⟩ : ∃ j, K = j + 1 := ⟨K - 1, by omega⟩
    rw [iterO_succ]; unfold spec_TernaryRow_g2 spec_TernaryRow_x2
    dsimp only
    have hb := wBound_pos (p := 3) (by omega) (by omega)
    unfold wBound at hb
    have e : (((n + 1 : Nat) : Int) - 1) = (n : Int) := by omega
    rw [if_pos rfl, if_pos (by omega), if_neg (by omega), if_pos hb, if_neg (by omega), if_neg (by decide), if_pos (lim_lt (by simp only [List.length_singleton]; omega)), w64 (n := ((n + 1 : Nat) : Int) - 1) (by omega) (by omega), e]
    have e2 : (i : Int) = (w.length : Int) := by omega
    rw [e2]; rfl
  | d + 1, i, hi, K, hK => by
    obtain ⟨K, rfl⟩ : ∃ j, K = j + 1 := ⟨K - 1, by omega⟩
    have ih := specUR_in hl (S := S) (n := n) (q := q) (o := o) hn ho d (i + 1) (by omega) K (by omega)
    rw [iterO_succ]
    generalize iterO (spec_TernaryRow_g2 C0 C1 C2 C3 C4 N0 N1 N2 N3 N4 S w x1 x3 d1 d2 (((n + 1 : Nat) : Int), q, true, o)) K = T at ih ⊢
    unfold spec_TernaryRow_g2 spec_TernaryRow_x2
    dsimp only
    have e : (((n + 1 : Nat) : Int) - 1) = (n : Int) := by omega
    rw [if_pos rfl, if_neg (by omega), back1 (by omega), if_pos (by omega), if_pos (by omega), if_neg (by omega), nat_i, w64 (n := (i : Int) + 1) (by omega) (by omega), ni1, ih, draw1_succ, w64 (n := ((n + 1 : Nat) : Int) - 1) (by omega) (by omega), e]
    by_cases h : w.getD i 0 < wBound 3
    · rw [if_pos h]
      unfold wBound at h
      rw [if_pos h, if_neg (by omega)]
      unfold ter
      by_cases h2 : (w.getD i 0).tmod 3 = 2
      · rw [if_pos h2, if_pos (lim_lt (by simp only [List.length_singleton]; omega)), if_pos h2]
      · rw [if_neg h2, if_pos (lim_lt (by simp only [List.length_singleton]; omega)), if_neg h2]
    · rw [if_neg h]
      unfold wBound at h
      rw [if_neg h]
theorem specUR_fail {m a : Int} {o : List Int} {K : Nat} : iterO (spec_TernaryRow_g1 C0 C1 C2 C3 C4 N0 N1 N2 N3 N4 w x1 x3 d1 d2) (K + 1) (m, a, false, o) = some ([], (0:Int), false) := by
  rw [iterO_succ]; unfold spec_TernaryRow_g1 spec_TernaryRow_x1
  dsimp only
  by_cases h : m > 0
  · rw [if_pos h, if_neg (by simp), if_pos (by simp)]
  · rw [if_neg h, if_pos (by simp)]
theorem specUR_from (hl : w.length < 1099511627776) (hN : w.length < N3) : ∀ (n i : Nat) (o : List Int), i ≤ w.length → o.length + n ≤ 64 → ∀ K, n + 1 < K →
    iterO (spec_TernaryRow_g1 C0 C1 C2 C3 C4 N0 N1 N2 N3 N4 w x1 x3 d1 d2) K ((n : Int), (i : Int), true, o) = some (rowU ter (wBound 3) w n i o)
  | 0, i, o, hi, ho, K, hK => by
    obtain ⟨K, rfl⟩ : ∃ j, K = j + 1 := ⟨K - 1, by omega⟩
    rw [iterO_succ]; unfold spec_TernaryRow_g1 spec_TernaryRow_x1
    dsimp only
    rw [if_neg (by omega), if_neg (by simp)]; rfl
  | n + 1, i, o, hi, ho, K, hK => by
    obtain ⟨K, rfl⟩ : ∃ j, K = j + 2 := ⟨K - 2, by omega⟩
    have ih := fun j o' hj ho' => specUR_from hl hN n j o' hj ho' (K + 1) (by omega)
    have hf := fun m a o' => specUR_fail (C0 := C0) (C1 := C1) (C2 := C2) (C3 := C3) (C4 := C4) (N0 := N0) (N1 := N1) (N2 := N2) (N3 := N3) (N4 := N4) (w := w) (x1 := x1) (x3 := x3) (d1 := d1) (d2 := d2) (m := m) (a := a) (o := o') (K := K)
    rw [iterO_succ]
    generalize iterO (spec_TernaryRow_g1 C0 C1 C2 C3 C4 N0 N1 N2 N3 N4 w x1 x3 d1 d2) (K + 1) = S at ih hf ⊢
    unfold spec_TernaryRow_g1 spec_TernaryRow_x1
    dsimp only
    rw [if_pos (by omega), if_pos rfl, specUR_in hl (by omega) (by omega) (w.length - i) i (by omega) N3 (by omega), rowU_succ]
    unfold draw1
    cases hs : scan (wBound 3) w (w.length - i) i with
    | none => exact hf _ _ _
    | some q =>
      obtain ⟨x, j⟩ := q
      exact ih j _ (scan_le hs (by omega)) (by simp only [List.length_append, List.length_singleton]; omega)
end
section
variable {C0 C1 C2 C3 C4 C5 C6 : Ca tb} {N0 N1 N2 N3 N4 N5 N6 : Nat} {w : List Int} {x1 : Int} {x2 d2 : Bool} {m : Nat}
theorem implUR_in (hl : w.length < 1099511627776) {S : Int × Int × Bool × List Int → Option (List Int × Int × Bool)} {k : Nat} {q : Int} {o : List Int} (hn : k ≤ 64) (ho : o.length ≤ 64) : ∀ (d i : Nat), i + d = w.length → ∀ K, d < K →
    iterO (impl_drawn_int_69_g2 C0 C1 C2 C3 C4 C5 C6 N0 N1 N2 N3 N4 N5 N6 S w x1 x2 (m : Int) d2 ((k : Int), q, false, o)) K ((i : Int), false) = draw1 (wBound 3) w (fun x j => S (((k + 1 : Nat) : Int), (j : Int), false, o ++ [ter x])) (S (((k + 1 : Nat) : Int), (w.length : Int), true, o ++ [(0:Int).tmod 3])) d i
  | 0, i, hi, K, hK => by
    obtain ⟨K, rfl⟩ : ∃ j, K = j + 1 := ⟨K - 1, by omega⟩
    rw [iterO_succ]; unfold impl_drawn_int_69_g2 impl_drawn_int_69_x2
    dsimp only
    have hb := wBound_pos (p := 3) (by omega) (by omega)
    unfold wBound at hb
    rw [if_pos (by simp), if_neg (by simp), if_neg (by simp), if_pos (by omega), if_neg (by omega), if_pos hb, if_neg (by omega), if_neg (by decide), if_pos (lim_lt (by simp only [List.length_singleton]; omega)), w64 (n := (k : Int) + 1) (by omega) (by omega), ni1]
    have e2 : (i : Int) = (w.length : Int) := by omega
    rw [e2]; rfl
  | d + 1, i, hi, K, hK => by
    obtain ⟨K, rfl⟩ : ∃ j, K = j + 1 := ⟨K - 1, by omega⟩
    have ih := implUR_in hl (S := S) (k := k) (q := q) (o := o) hn ho d (i + 1) (by omega) K (by omega)
    rw [iterO_succ]
    generalize iterO (impl_drawn_int_69_g2 C0 C1 C2 C3 C4 C5 C6 N0 N1 N2 N3 N4 N5 N6 S w x1 x2 (m : Int) d2 ((k : Int), q, false, o)) K = T at ih ⊢
    unfold impl_drawn_int_69_g2 impl_drawn_int_69_x2
    dsimp only
    rw [if_pos (by simp), if_neg (by simp), if_neg (by simp), if_neg (by omega), back1 (by omega), if_pos (by omega), if_pos (by omega), if_neg (by omega), nat_i, w64 (n := (i : Int) + 1) (by omega) (by omega), ni1 i, ih, draw1_succ, w64 (n := (k : Int) + 1) (by omega) (by omega), ni1 k]
    by_cases h : w.getD i 0 < wBound 3
    · rw [if_pos h]
      unfold wBound at h
      rw [if_pos h, if_neg (by omega)]
      unfold ter
      by_cases h2 : (w.getD i 0).tmod 3 = 2
      · rw [if_pos h2, if_pos (lim_lt (by simp only [List.length_singleton]; omega)), if_pos h2]
      · rw [if_neg h2, if_pos (lim_lt (by simp only [List.length_singleton]; omega)), if_neg h2]
    · rw [if_neg h]
      unfold wBound at h
      rw [if_neg h]
theorem implUR_dry (hm : m ≤ 64) (hN : 0 < N5) : ∀ (n k : Nat) (a : Int) (o : List Int), k + n = m → o.length + n ≤ 64 → ∀ K, n < K →
    iterO (impl_drawn_int_69_g1 C0 C1 C2 C3 C4 C5 C6 N0 N1 N2 N3 N4 N5 N6 w x1 x2 (m : Int) d2) K ((k : Int), a, true, o) = some ([], (0:Int), false)
  | 0, k, a, o, hk, ho, K, hK => by
    obtain ⟨K, rfl⟩ : ∃ j, K = j + 1 := ⟨K - 1, by omega⟩
    rw [iterO_succ]; unfold impl_drawn_int_69_g1 impl_drawn_int_69_x1
    dsimp only
    rw [if_neg (by omega), if_pos rfl]
  | n + 1, k, a, o, hk, ho, K, hK => by
    obtain ⟨K, rfl⟩ : ∃ j, K = j + 1 := ⟨K - 1, by omega⟩
    have ih := fun o' ho' => implUR_dry hm hN n (k + 1) a o' (by omega) ho' K (by omega)
    rw [iterO_succ]
    generalize iterO (impl_drawn_int_69_g1 C0 C1 C2 C3 C4 C5 C6 N0 N1 N2 N3 N4 N5 N6 w x1 x2 (m : Int) d2) K = S at ih ⊢
    obtain ⟨M, hM⟩ : ∃ M, N5 = M + 1 := ⟨N5 - 1, by omega⟩
    unfold impl_drawn_int_69_g1 impl_drawn_int_69_x1
    dsimp only
    rw [if_pos (by omega)]
    have : ∀ q, q = N5 → iterO (impl_drawn_int_69_g2 C0 C1 C2 C3 C4 C5 C6 N0 N1 N2 N3 N4 N5 N6 S w x1 x2 (m : Int) d2 ((k : Int), a, true, o)) q (a, true) = some ([], (0:Int), false) := by
      intro q hq
      obtain ⟨q, rfl⟩ : ∃ j, q = j + 1 := ⟨q - 1, by omega⟩
      rw [iterO_succ]; unfold impl_drawn_int_69_g2 impl_drawn_int_69_x2
      dsimp only
      rw [if_neg (by simp), if_neg (by decide), if_pos (lim_lt (by simp only [List.length_singleton]; omega)), w64 (by omega) (by omega), ni1]
      exact ih _ (by simp only [List.length_append, List.length_singleton]; omega)
    exact this N5 rfl
theorem implUR_from (hl : w.length < 1099511627776) (hm : m ≤ 64) (hN : w.length < N5) : ∀ (n k i : Nat) (o : List Int), k + n = m → i ≤ w.length → o.length + n ≤ 64 → ∀ K, n < K →
    iterO (impl_drawn_int_69_g1 C0 C1 C2 C3 C4 C5 C6 N0 N1 N2 N3 N4 N5 N6 w x1 x2 (m : Int) d2) K ((k : Int), (i : Int), false, o) = some (rowU ter (wBound 3) w n i o)
  | 0, k, i, o, hk, hi, ho, K, hK => by
    obtain ⟨K, rfl⟩ : ∃ j, K = j + 1 := ⟨K - 1, by omega⟩
    rw [iterO_succ]; unfold impl_drawn_int_69_g1 impl_drawn_int_69_x1
    dsimp only
    rw [if_neg (by omega), if_neg (by simp)]; rfl
  | n + 1, k, i, o, hk, hi, ho, K, hK => by
    obtain ⟨K, rfl⟩ : ∃ j, K = j + 1 := ⟨K - 1, by omega⟩
    have ih := fun j o' hj ho' => implUR_from hl hm hN n (k + 1) j o' (by omega) hj ho' K (by omega)
    have hf := fun a o' ho' => implUR_dry (C0 := C0) (C1 := C1) (C2 := C2) (C3 := C3) (C4 := C4) (C5 := C5) (C6 := C6) (N0 := N0) (N1 := N1) (N2 := N2) (N3 := N3) (N4 := N4) (N5 := N5) (N6 := N6) (w := w) (x1 := x1) (x2 := x2) (d2 := d2) hm (by omega) n (k + 1) a o' (by omega) ho' K (by omega)
    rw [iterO_succ]
    generalize iterO (impl_drawn_int_69_g1 C0 C1 C2 C3 C4 C5 C6 N0 N1 N2 N3 N4 N5 N6 w x1 x2 (m : Int) d2) K = S at ih hf ⊢
    unfold impl_drawn_int_69_g1 impl_drawn_int_69_x1
    dsimp only
    rw [if_pos (by omega), implUR_in hl (by omega) (by omega) (w.length - i) i (by omega) N5 (by omega), rowU_succ]
    unfold draw1
    cases hs : scan (wBound 3) w (w.length - i) i with
    | none => exact hf _ _ (by simp only [List.length_append, List.length_singleton]; omega)
    | some q =>
      obtain ⟨x, j⟩ := q
      exact ih j _ (scan_le hs (by omega)) (by simp only [List.length_append, List.length_singleton]; omega)
end
noncomputable def terR (w : List Int) (a n : Int) : List Int × Int × Bool := if (wordsB w a && decide (0 ≤ n ∧ n ≤ 64)) = true then rowU ter (wBound 3) w n.toNat a.toNat [] else ([], 0, false)
theorem terR_len (w : List Int) (a n : Int) : (terR w a n).1.length ≤ 64 := by
  unfold terR
  split
  · rename_i h
    simp only [Bool.and_eq_true, decide_eq_true_eq] at h
    have := rowU_len (f := ter) (L := wBound 3) (w := w) (n := n.toNat) (i := a.toNat) (out := [])
    simp only [List.length_nil] at this
    omega
  · simp
theorem ternaryRow_s {k : Nat} (hn : Big + 8 ≤ k) {w : List Int} {a n : Int} (hl : w.length < 1099511627776) : c_spec_TernaryRow (run tb orc k) w a n = some (terR w a n) := by
  obtain ⟨k, rfl, hm⟩ := up2 hn
  obtain ⟨k, rfl, hm'⟩ := up3 hm
  have hbig := big_ge
  rw [spec_TernaryRow_eq]; unfold spec_TernaryRow_f spec_TernaryRow_x terR
  rw [l7Words_ret (by omega) hl]
  simp only [Option.bind_some]
  cases hw : wordsB w a with
  | false => simp
  | true =>
    rw [if_neg (by simp), l1In_ret (by omega)]
    simp only [Option.bind_some]
    by_cases hr : 0 ≤ n ∧ n ≤ 64
    · rw [decide_eq_true hr, if_neg (by simp), if_pos (by simp)]
      unfold wordsB at hw
      simp only [Bool.and_eq_true, decide_eq_true_eq] at hw
      obtain ⟨h1, ⟨h2, h3⟩, h4⟩ := hw
      have e : a = (a.toNat : Int) := by omega
      have e2 : n = (n.toNat : Int) := by omega
      have := specUR_from (C0 := run tb orc (k + 4)) (C1 := run tb orc (k + 3)) (C2 := run tb orc (k + 2)) (C3 := run tb orc (k + 1)) (C4 := run tb orc k) (N0 := k + 4) (N1 := k + 3) (N2 := k + 2) (N3 := k + 1) (N4 := k) (w := w) (x1 := a) (x3 := n) (d1 := true) (d2 := true) hl (by omega) n.toNat a.toNat [] (by omega) (by simp; omega) (k + 3) (by omega)
      rw [← e, ← e2] at this
      exact this
    · rw [decide_eq_false hr, if_pos (by simp), if_neg (by simp)]
theorem isRow_ret {k : Nat} (hn : Big + 2 ≤ k) {n : Int} : c_impl_isRow (run tb orc k) n = some (decide (0 ≤ n ∧ n ≤ 64)) := by
  obtain ⟨k, rfl, hm⟩ := up hn
  rw [impl_isRow_eq]; unfold impl_isRow_f impl_isRow_x
  rw [in_ret (by omega)]; rfl
theorem ternaryRow_i {k : Nat} (hn : Big + 16 ≤ k) {w : List Int} {a n : Int} (hl : w.length < 1099511627776) : c_impl_TernaryRow (run tb orc k) w a n = some (terR w a n) := by
  obtain ⟨k, rfl, hm⟩ := up hn
  have hbig := big_ge
  rw [impl_TernaryRow_eq]; unfold impl_TernaryRow_f impl_TernaryRow_x terR
  rw [isRow_ret (by omega)]
  simp only [Option.bind_some]
  obtain ⟨k, rfl, hm1⟩ := up3 hm
  obtain ⟨k, rfl, hm2⟩ := up2 hm1
  obtain ⟨k, rfl, hm3⟩ := up2 hm2
  rw [impl_drawn_int_69_eq]; unfold impl_drawn_int_69_f impl_drawn_int_69_x
  rw [areWords_ret (by omega) hl]
  simp only [Option.bind_some]
  unfold wordsB
  by_cases h1 : (decide (w.length ≤ 4000) && w.all inw) = true
  · rw [if_pos h1, in_ret (by omega)]
    simp only [Bool.and_eq_true, decide_eq_true_eq] at h1
    simp only [Option.bind_some]
    by_cases h2 : 0 ≤ a ∧ a ≤ (w.length : Int)
    · rw [decide_eq_true h2, if_neg (by simp)]
      by_cases hr : 0 ≤ n ∧ n ≤ 64
      · have hc : (decide (w.length ≤ 4000) && (true && w.all inw) && true) = true := by simp [h1]
        rw [decide_eq_true hr, if_neg (by simp), if_pos hc]
        have e : a = (a.toNat : Int) := by omega
        have e2 : n = (n.toNat : Int) := by omega
        have := implUR_from (C0 := run tb orc (k + 6)) (C1 := run tb orc (k + 5)) (C2 := run tb orc (k + 4)) (C3 := run tb orc (k + 3)) (C4 := run tb orc (k + 2)) (C5 := run tb orc (k + 1)) (C6 := run tb orc k) (N0 := k + 6) (N1 := k + 5) (N2 := k + 4) (N3 := k + 3) (N4 := k + 2) (N5 := k + 1) (N6 := k) (w := w) (x1 := a) (x2 := true) (d2 := true) (m := n.toNat) hl (by omega) (by omega) n.toNat 0 a.toNat [] (by omega) (by omega) (by simp; omega) (k + 3) (by omega)
        rw [← e, ← e2] at this
        refine Eq.trans (congrArg (fun o : Option (List Int × Int × Bool) => o.bind fun d2 => some (d2.1, d2.2.1, d2.2.2)) this) ?_
        rfl
      · rw [decide_eq_false hr, if_pos (by simp), if_neg (by simp)]; rfl
    · rw [decide_eq_false h2, if_pos (by simp), if_neg (by simp)]; rfl
  · rw [if_neg h1]
    simp only [Bool.and_eq_true, decide_eq_true_eq, not_and] at h1
    rw [if_neg (by simp only [Bool.and_eq_true, decide_eq_true_eq]; rintro ⟨⟨h3, _, h4⟩, _⟩; exact h1 h3 h4)]; rfl
theorem lawTR {k : Nat} (hn : Big + 18 ≤ k) (w : List Int) (a n : Int) : c_laws_FnExactTernaryRow (run tb orc k) w a n = some true := by
  obtain ⟨k, rfl, hm⟩ := up2 hn
  have hbig := big_ge
  rw [laws_FnExactTernaryRow_eq]; unfold laws_FnExactTernaryRow_f laws_FnExactTernaryRow_x
  by_cases h : (w.length : Int) > 1048576
  · rw [if_pos h]
  have hl : w.length < 1099511627776 := by omega
  rw [if_neg h]
  have hlen := terR_len w a n
  have e1 : c_laws_toIntS (run tb orc (k + 1)) w = some w := toIntS_ret (by omega) hl
  have e2 : c_spec_TernaryRow (run tb orc (k + 1)) w a n = some (terR w a n) := ternaryRow_s (by omega) hl
  have e3 : c_impl_TernaryRow (run tb orc (k + 1)) w a n = some (terR w a n) := ternaryRow_i (by omega) hl
  have e4 : c_laws_eqIntS (run tb orc (k + 1)) w w = some true := by rw [eqIntS_ret (by omega) hl]; simp
  generalize terR w a n = r at hlen e2 e3
  obtain ⟨r, t, b⟩ := r
  simp only at hlen
  have e5 : c_laws_eqIntS (run tb orc (k + 1)) r r = some true := by rw [eqIntS_ret (by omega) (by omega)]; simp
  have hh : c_laws_heldIntS (run tb orc (k + 1)) (ramp 1 r.length) 1 = some ((1 + (r.length : Int)) : Int) := heldIntS_ret (by omega) (by omega) (by omega)
  have ne : (b != b) = false := by simp
  simp only [e1, e2, e3, e4, e5, Option.bind_some, ne, Bool.not_true, Bool.false_eq_true, if_false, if_true]
  refine (mark_loop (l := w) (k0 := 1) _ (fun _ _ => rfl) (by omega) (by omega) (by omega)).trans ?_
  dsimp only
  have h1 : ¬ (1 + (w.length : Int) < 0) := by omega
  simp only [e5, h1, Option.bind_some, ne, Bool.not_true, Bool.false_eq_true, if_false, if_true]
  refine (mark_loop (l := r) (k0 := 1) _ (fun _ _ => rfl) (by omega) (by omega) (by omega)).trans ?_
  dsimp only
  have hneg : ¬ (1 + (r.length : Int) < 0) := by omega
  simp only [hh, e1, e3, e5, Option.bind_some, ne, hneg, Bool.not_true, Bool.false_eq_true, if_false, if_true]
end Go.Proofs.Ytnlgciomdghfiaa.Fw

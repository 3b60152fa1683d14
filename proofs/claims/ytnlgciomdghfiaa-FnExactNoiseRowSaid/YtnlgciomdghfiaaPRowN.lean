/- Coins: the law of NoiseRow. -/
import Derived.Test.YtnlgciomdghfiaaPNoise
import Derived.Test.YtnlgciomdghfiaaEqRow
namespace Go.Proofs.Ytnlgciomdghfiaa.Fw
open Go Go.RowKit
set_option linter.unusedVariables false

/-- The noises of so many words. -/
def rowN (b : Nat) (w : List Int) : Nat → Nat → List Int → List Int × Int × Bool
  | 0, i, out => (out, (i : Int), true)
  | n + 1, i, out => if i < w.length then rowN b w n (i + 1) (out ++ [nzN (w.getD i 0).toNat b]) else ([], 0, false)
theorem rowN_succ (b : Nat) (w : List Int) (n i : Nat) (out : List Int) : rowN b w (n + 1) i out = if i < w.length then rowN b w n (i + 1) (out ++ [nzN (w.getD i 0).toNat b]) else ([], 0, false) := rfl
theorem rowN_len {b : Nat} {w : List Int} : ∀ {n i : Nat} {out : List Int}, (rowN b w n i out).1.length ≤ out.length + n
  | 0, i, out => by simp [rowN]
  | n + 1, i, out => by
    rw [rowN_succ]
    split
    · have := rowN_len (b := b) (w := w) (n := n) (i := i + 1) (out := out ++ [nzN (w.getD i 0).toNat b])
      simp only [List.length_append, List.length_singleton] at this
      omega
    · simp
section
variable {C0 C1 C2 C3 : Ca tb} {N0 N1 N2 N3 : Nat} {w : List Int} {b : Nat} {x1 x3 : Int} {d1 d2 d3 : Bool}
theorem specNR_fail {m a : Int} {o : List Int} {K : Nat} : iterO (spec_NoiseRow_g1 C0 C1 C2 C3 N0 N1 N2 N3 w x1 (b : Int) x3 d1 d2 d3) (K + 1) (m, a, false, o) = some ([], (0:Int), false) := by
  rw [iterO_succ]; unfold spec_NoiseRow_g1 spec_NoiseRow_x1
  dsimp only
  by_cases h : m > 0
  · rw [if_pos h, if_neg (by simp), if_pos (by simp)]
  · rw [if_neg h, if_pos (by simp)]
theorem specNR_from (hb : b ≤ 16) (hw : w.all inw = true) (hl : w.length < 1099511627776) (hN : b < N2) : ∀ (n i : Nat) (o : List Int), i ≤ w.length → o.length + n ≤ 64 → ∀ K, n + 1 < K →
    iterO (spec_NoiseRow_g1 C0 C1 C2 C3 N0 N1 N2 N3 w x1 (b : Int) x3 d1 d2 d3) K ((n : Int), (i : Int), true, o) = some (rowN b w n i o)
  | 0, i, o, hi, ho, K, hK => by
    obtain ⟨K, rfl⟩ : ∃ j, K = j + 1 := ⟨K - 1, by omega⟩
    rw [iterO_succ]; unfold spec_NoiseRow_g1 spec_NoiseRow_x1
    dsimp only
    rw [if_neg (by omega), if_neg (by simp)]; rfl
  | n + 1, i, o, hi, ho, K, hK => by
    obtain ⟨K, rfl⟩ : ∃ j, K = j + 2 := ⟨K - 2, by omega⟩
    have ih := fun j o' hj ho' => specNR_from hb hw hl hN n j o' hj ho' (K + 1) (by omega)
    have hf := fun m a o' => specNR_fail (C0 := C0) (C1 := C1) (C2 := C2) (C3 := C3) (N0 := N0) (N1 := N1) (N2 := N2) (N3 := N3) (w := w) (b := b) (x1 := x1) (x3 := x3) (d1 := d1) (d2 := d2) (d3 := d3) (m := m) (a := a) (o := o') (K := K)
    rw [iterO_succ]
    generalize iterO (spec_NoiseRow_g1 C0 C1 C2 C3 N0 N1 N2 N3 w x1 (b : Int) x3 d1 d2 d3) (K + 1) = S at ih hf ⊢
    unfold spec_NoiseRow_g1 spec_NoiseRow_x1
    dsimp only
    have hlim : o.length + 1 < lim := lim_lt (by omega)
    rw [if_pos (by omega), if_pos rfl, rowN_succ]
    by_cases hlt : i < w.length
    · have hx := word_at hw hlt
      obtain ⟨x, hx'⟩ : ∃ x : Nat, w.getD i 0 = x := ⟨(w.getD i 0).toNat, by omega⟩
      rw [if_neg (by omega), if_pos hlt, back1 (by omega), if_pos (by omega), if_pos (by omega)]
      have := noise_loop (w := x) (b := b) hb (fun v => if o.length + 1 < lim then S (wr .i64 (((n + 1 : Nat) : Int) - (1:Int)), wr .i64 ((i : Int) + (1:Int)), true, o ++ [v.1]) else none) (G := spec_NoiseRow_g3 C0 C1 C2 C3 N0 N1 N2 N3 S w x1 (b : Int) x3 d1 d2 d3 (((n + 1 : Nat) : Int), (i : Int), true, o)) (fun self v => by
        unfold spec_NoiseRow_g3 spec_NoiseRow_x3
        dsimp only
        rw [back1 (by omega), nat_i, hx']; rfl) b 0 (by omega) N2 (by omega)
      refine Eq.trans this ?_
      dsimp only
      have e : (((n + 1 : Nat) : Int) - 1) = (n : Int) := by omega
      rw [if_pos hlim, w64 (n := ((n + 1 : Nat) : Int) - 1) (by omega) (by omega), e, w64 (by omega) (by omega), ni1, hx', nat_i]
      exact ih _ _ (by omega) (by simp only [List.length_append, List.length_singleton]; omega)
    · rw [if_pos (by omega), if_neg hlt]
      have := noise_loop (w := 0) (b := b) hb (fun v => if o.length + 1 < lim then S (wr .i64 (((n + 1 : Nat) : Int) - (1:Int)), (i : Int), false, o ++ [v.1]) else none) (G := spec_NoiseRow_g2 C0 C1 C2 C3 N0 N1 N2 N3 S w x1 (b : Int) x3 d1 d2 d3 (((n + 1 : Nat) : Int), (i : Int), true, o)) (fun self v => rfl) b 0 (by omega) N2 (by omega)
      refine Eq.trans this ?_
      dsimp only
      rw [if_pos hlim]
      exact hf _ _ _
end
section
variable {C0 C1 C2 C3 C4 C5 C6 : Ca tb} {N0 N1 N2 N3 N4 N5 N6 : Nat} {w : List Int} {b : Nat} {x1 : Int} {x2 d2 : Bool} {m : Nat}
theorem implNR_dry (hb : 1 ≤ b ∧ b ≤ 16) (h5 : ∀ y : Nat, y < 4294967296 → c_impl_coins_noise_1 C5 (y : Int) (b : Int) = some ((bsN y b : Nat) : Int)) (hm : m ≤ 64) : ∀ (n k : Nat) (a : Int) (o : List Int), k + n = m → o.length + n ≤ 64 → ∀ K, n < K →
    iterO (impl_drawn_int_69_g1 C0 C1 C2 C3 C4 C5 C6 N0 N1 N2 N3 N4 N5 N6 w x1 x2 (b : Int) (m : Int) d2) K ((k : Int), a, true, o) = some ([], (0:Int), false)
  | 0, k, a, o, hk, ho, K, hK => by
    obtain ⟨K, rfl⟩ : ∃ j, K = j + 1 := ⟨K - 1, by omega⟩
    rw [iterO_succ]; unfold impl_drawn_int_69_g1 impl_drawn_int_69_x1
    dsimp only
    rw [if_neg (by omega), if_pos rfl]
  | n + 1, k, a, o, hk, ho, K, hK => by
    obtain ⟨K, rfl⟩ : ∃ j, K = j + 1 := ⟨K - 1, by omega⟩
    have ih := fun o' ho' => implNR_dry hb h5 hm n (k + 1) a o' (by omega) ho' K (by omega)
    rw [iterO_succ]
    generalize iterO (impl_drawn_int_69_g1 C0 C1 C2 C3 C4 C5 C6 N0 N1 N2 N3 N4 N5 N6 w x1 x2 (b : Int) (m : Int) d2) K = S at ih ⊢
    unfold impl_drawn_int_69_g1 impl_drawn_int_69_x1
    dsimp only
    have o1 : c_impl_coins_noise_1 C5 (0:Int) (b : Int) = some ((bsN 0 b : Nat) : Int) := h5 0 (by omega)
    have z : shr .i64 (0:Int) (b : Int) = (0 : Int) := by
      have := shrI 0 b (by omega)
      simpa using this
    rw [if_pos (by omega), if_pos rfl, if_pos rfl, z, o1]
    simp only [Option.bind_some]
    rw [if_neg (by omega), if_pos (lim_lt (by simp only [List.length_singleton]; omega)), w64 (n := (k : Int) + 1) (by omega) (by omega), ni1]
    exact ih _ (by simp only [List.length_append, List.length_singleton]; omega)
theorem implNR_from (hb : 1 ≤ b ∧ b ≤ 16) (h5 : ∀ y : Nat, y < 4294967296 → c_impl_coins_noise_1 C5 (y : Int) (b : Int) = some ((bsN y b : Nat) : Int)) (hw : w.all inw = true) (hl : w.length < 1099511627776) (hm : m ≤ 64) : ∀ (n k i : Nat) (o : List Int), k + n = m → i ≤ w.length → o.length + n ≤ 64 → ∀ K, n < K →
    iterO (impl_drawn_int_69_g1 C0 C1 C2 C3 C4 C5 C6 N0 N1 N2 N3 N4 N5 N6 w x1 x2 (b : Int) (m : Int) d2) K ((k : Int), (i : Int), false, o) = some (rowN b w n i o)
  | 0, k, i, o, hk, hi, ho, K, hK => by
    obtain ⟨K, rfl⟩ : ∃ j, K = j + 1 := ⟨K - 1, by omega⟩
    rw [iterO_succ]; unfold impl_drawn_int_69_g1 impl_drawn_int_69_x1
    dsimp only
    rw [if_neg (by omega), if_neg (by simp)]; rfl
  | n + 1, k, i, o, hk, hi, ho, K, hK => by
    obtain ⟨K, rfl⟩ : ∃ j, K = j + 1 := ⟨K - 1, by omega⟩
    have ih := fun j o' hj ho' => implNR_from hb h5 hw hl hm n (k + 1) j o' (by omega) hj ho' K (by omega)
    have hf := fun a o' ho' => implNR_dry (C0 := C0) (C1 := C1) (C2 := C2) (C3 := C3) (C4 := C4) (C5 := C5) (C6 := C6) (N0 := N0) (N1 := N1) (N2 := N2) (N3 := N3) (N4 := N4) (N5 := N5) (N6 := N6) (w := w) (b := b) (x1 := x1) (x2 := x2) (d2 := d2) hb h5 hm n (k + 1) a o' (by omega) ho' K (by omega)
    rw [iterO_succ]
    generalize iterO (impl_drawn_int_69_g1 C0 C1 C2 C3 C4 C5 C6 N0 N1 N2 N3 N4 N5 N6 w x1 x2 (b : Int) (m : Int) d2) K = S at ih hf ⊢
    unfold impl_drawn_int_69_g1 impl_drawn_int_69_x1
    dsimp only
    have o1 : c_impl_coins_noise_1 C5 (0:Int) (b : Int) = some ((bsN 0 b : Nat) : Int) := h5 0 (by omega)
    have z : shr .i64 (0:Int) (b : Int) = (0 : Int) := by
      have := shrI 0 b (by omega)
      simpa using this
    rw [if_pos (by omega), if_neg (by simp), if_neg (by simp), rowN_succ]
    by_cases hlt : i < w.length
    · have hx := word_at hw hlt
      obtain ⟨x, hx'⟩ : ∃ x : Nat, w.getD i 0 = x := ⟨(w.getD i 0).toNat, by omega⟩
      have hd : x / 2 ^ b ≤ x := Nat.div_le_self _ _
      have l1 := bsN_le x b
      have l2 := bsN_le (x / 2 ^ b) b
      rw [if_neg (by omega), if_pos hlt, back1 (by omega), if_pos (by omega), if_pos (by omega), nat_i, hx', shrI x b (by omega), h5 x (by omega)]
      simp only [Option.bind_some]
      rw [if_neg (by omega), h5 (x / 2 ^ b) (by omega)]
      simp only [Option.bind_some]
      rw [if_pos (lim_lt (by simp only [List.length_singleton]; omega)), w64 (n := (k : Int) + 1) (by omega) (by omega), w64 (n := (i : Int) + 1) (by omega) (by omega), ni1 k, ni1 i, w64 (by omega) (by omega), nat_i]
      exact ih _ _ (by omega) (by simp only [List.length_append, List.length_singleton]; omega)
    · rw [if_pos (by omega), if_neg hlt, z, o1]
      simp only [Option.bind_some]
      rw [if_neg (by omega), if_pos (lim_lt (by simp only [List.length_singleton]; omega)), w64 (n := (k : Int) + 1) (by omega) (by omega), ni1 k]
      exact hf _ _ (by simp only [List.length_append, List.length_singleton]; omega)
end
noncomputable def noiR (w : List Int) (a b n : Int) : List Int × Int × Bool := if (wordsB w a && (decide (1 ≤ b ∧ b ≤ 16) && decide (0 ≤ n ∧ n ≤ 64))) = true then rowN b.toNat w n.toNat a.toNat [] else ([], 0, false)
theorem noiR_len (w : List Int) (a b n : Int) : (noiR w a b n).1.length ≤ 64 := by
  unfold noiR
  split
  · rename_i h
    simp only [Bool.and_eq_true, decide_eq_true_eq] at h
    have := rowN_len (b := b.toNat) (w := w) (n := n.toNat) (i := a.toNat) (out := [])
    simp only [List.length_nil] at this
    omega
  · simp
theorem noiseRow_s {k : Nat} (hn : Big + 8 ≤ k) {w : List Int} {a b n : Int} (hl : w.length < 1099511627776) : c_spec_NoiseRow (run tb orc k) w a b n = some (noiR w a b n) := by
  obtain ⟨k, rfl, hm⟩ := up2 hn
  obtain ⟨k, rfl, hm'⟩ := up2 hm
  have hbig := big_ge
  rw [spec_NoiseRow_eq]; unfold spec_NoiseRow_f spec_NoiseRow_x noiR
  rw [l7Words_ret (by omega) hl]
  simp only [Option.bind_some]
  cases hw : wordsB w a with
  | false => simp
  | true =>
    rw [if_neg (by simp), spec_l7Noise_eq]; unfold spec_l7Noise_f spec_l7Noise_x
    rw [l1In_ret (by omega)]
    simp only [Option.bind_some]
    by_cases hp : 1 ≤ b ∧ b ≤ 16
    · rw [decide_eq_true hp, if_neg (by simp), l1In_ret (by omega)]
      simp only [Option.bind_some]
      by_cases hr : 0 ≤ n ∧ n ≤ 64
      · rw [decide_eq_true hr, if_neg (by simp), if_pos (by simp)]
        unfold wordsB at hw
        simp only [Bool.and_eq_true, decide_eq_true_eq] at hw
        obtain ⟨h1, ⟨h2, h3⟩, h4⟩ := hw
        have e : a = (a.toNat : Int) := by omega
        have e2 : n = (n.toNat : Int) := by omega
        have e3 : b = (b.toNat : Int) := by omega
        have := specNR_from (C0 := run tb orc (k + 3)) (C1 := run tb orc (k + 2)) (C2 := run tb orc (k + 1)) (C3 := run tb orc k) (N0 := k + 3) (N1 := k + 2) (N2 := k + 1) (N3 := k) (w := w) (b := b.toNat) (x1 := a) (x3 := n) (d1 := true) (d2 := true) (d3 := true) (by omega) h4 hl (by omega) n.toNat a.toNat [] (by omega) (by simp; omega) (k + 2) (by omega)
        rw [← e, ← e2, ← e3] at this
        exact this
      · rw [decide_eq_false hr, if_pos (by simp), if_neg (by simp)]
    · rw [decide_eq_false hp, if_pos (by simp), if_neg (by simp)]
theorem isRow_ret {k : Nat} (hn : Big + 2 ≤ k) {n : Int} : c_impl_isRow (run tb orc k) n = some (decide (0 ≤ n ∧ n ≤ 64)) := by
  obtain ⟨k, rfl, hm⟩ := up hn
  rw [impl_isRow_eq]; unfold impl_isRow_f impl_isRow_x
  rw [in_ret (by omega)]; rfl
theorem drawnN {k : Nat} (hn : Big + 14 ≤ k) {w : List Int} {a b n : Int} {good : Bool} (hl : w.length < 1099511627776) (hg : good = true → (1 ≤ b ∧ b ≤ 16) ∧ 0 ≤ n ∧ n ≤ 64) :
    c_impl_drawn_int_69 (run tb orc k) w a good b n = some (if (wordsB w a && good) = true then rowN b.toNat w n.toNat a.toNat [] else ([], 0, false)) := by
  obtain ⟨k, rfl, hm⟩ := up3 hn
  obtain ⟨k, rfl, hm2⟩ := up2 hm
  obtain ⟨k, rfl, hm3⟩ := up2 hm2
  have hbig := big_ge
  rw [impl_drawn_int_69_eq]; unfold impl_drawn_int_69_f impl_drawn_int_69_x
  rw [areWords_ret (by omega) hl]
  simp only [Option.bind_some]
  unfold wordsB
  by_cases h1 : (decide (w.length ≤ 4000) && w.all inw) = true
  · rw [if_pos h1, in_ret (by omega)]
    simp only [Bool.and_eq_true, decide_eq_true_eq] at h1
    simp only [Option.bind_some]
    by_cases h2 : 0 ≤ a ∧ a ≤ (w.length : Int)
    · rw [decide_eq_true h2, if_neg (by simp)]
      cases good with
      | false => simp
      | true =>
        obtain ⟨hp, hr⟩ := hg rfl
        have hc : (decide (w.length ≤ 4000) && (true && w.all inw) && true) = true := by simp [h1]
        rw [if_neg (by simp), if_pos hc]
        have e : a = (a.toNat : Int) := by omega
        have e2 : n = (n.toNat : Int) := by omega
        have e3 : b = (b.toNat : Int) := by omega
        have := implNR_from (C0 := run tb orc (k + 6)) (C1 := run tb orc (k + 5)) (C2 := run tb orc (k + 4)) (C3 := run tb orc (k + 3)) (C4 := run tb orc (k + 2)) (C5 := run tb orc (k + 1)) (C6 := run tb orc k) (N0 := k + 6) (N1 := k + 5) (N2 := k + 4) (N3 := k + 3) (N4 := k + 2) (N5 := k + 1) (N6 := k) (w := w) (b := b.toNat) (x1 := a) (x2 := true) (d2 := true) (m := n.toNat) (by omega) (fun y hy => ones_ret (by omega) (by omega) (by omega) hy) h1.2 hl (by omega) n.toNat 0 a.toNat [] (by omega) (by omega) (by simp; omega) (k + 3) (by omega)
        rw [← e, ← e2, ← e3] at this
        exact this
    · rw [decide_eq_false h2, if_pos (by simp), if_neg (by simp)]
  · rw [if_neg h1]
    simp only [Bool.and_eq_true, decide_eq_true_eq, not_and] at h1
    rw [if_neg (by simp only [Bool.and_eq_true, decide_eq_true_eq]; rintro ⟨⟨h3, _, h4⟩, _⟩; exact h1 h3 h4)]
theorem noiseRow_i {k : Nat} (hn : Big + 16 ≤ k) {w : List Int} {a b n : Int} (hl : w.length < 1099511627776) : c_impl_NoiseRow (run tb orc k) w a b n = some (noiR w a b n) := by
  obtain ⟨k, rfl, hm⟩ := up hn
  rw [impl_NoiseRow_eq]; unfold impl_NoiseRow_f impl_NoiseRow_x noiR
  rw [in_ret (by omega)]
  simp only [Option.bind_some]
  by_cases hp : 1 ≤ b ∧ b ≤ 16
  · rw [decide_eq_true hp, if_pos rfl, isRow_ret (by omega)]
    simp only [Option.bind_some]
    rw [drawnN (by omega) hl (fun h => ⟨hp, by simpa using h⟩), Bool.true_and]
    rfl
  · rw [decide_eq_false hp, if_neg (by simp), drawnN (by omega) hl (fun h => by cases h)]
    simp
theorem lawNR {k : Nat} (hn : Big + 18 ≤ k) (w : List Int) (a b n : Int) : c_laws_FnExactNoiseRow (run tb orc k) w a b n = some true := by
  obtain ⟨k, rfl, hm⟩ := up2 hn
  have hbig := big_ge
  rw [laws_FnExactNoiseRow_eq]; unfold laws_FnExactNoiseRow_f laws_FnExactNoiseRow_x
  by_cases h : (w.length : Int) > 1048576
  · rw [if_pos h]
  have hl : w.length < 1099511627776 := by omega
  rw [if_neg h]
  have hlen := noiR_len w a b n
  have e1 : c_laws_toIntS (run tb orc (k + 1)) w = some w := toIntS_ret (by omega) hl
  have e2 : c_spec_NoiseRow (run tb orc (k + 1)) w a b n = some (noiR w a b n) := noiseRow_s (by omega) hl
  have e3 : c_impl_NoiseRow (run tb orc (k + 1)) w a b n = some (noiR w a b n) := noiseRow_i (by omega) hl
  have e4 : c_laws_eqIntS (run tb orc (k + 1)) w w = some true := by rw [eqIntS_ret (by omega) hl]; simp
  generalize noiR w a b n = r at hlen e2 e3
  obtain ⟨r, t, c⟩ := r
  simp only at hlen
  have e5 : c_laws_eqIntS (run tb orc (k + 1)) r r = some true := by rw [eqIntS_ret (by omega) (by omega)]; simp
  have hh : c_laws_heldIntS (run tb orc (k + 1)) (ramp 1 r.length) 1 = some ((1 + (r.length : Int)) : Int) := heldIntS_ret (by omega) (by omega) (by omega)
  have ne : (c != c) = false := by simp
  simp only [e1, e2, e3, e4, e5, Option.bind_some, ne, Bool.not_true, Bool.false_eq_true, if_false, if_true]
  refine (mark_loop (l := w) (k0 := 1) _ (fun _ _ => rfl) (by omega) (by omega) (by omega)).trans ?_
  dsimp only
  have h1 : ¬ (1 + (w.length : Int) < 0) := by omega
  simp only [e5, h1, Option.bind_some, ne, Bool.not_true, Bool.false_eq_true, if_false, if_true]
  refine (mark_loop (l := r) (k0 := 1) _ (fun _ _ => rfl) (by omega) (by omega) (by omega)).trans ?_
  dsimp only
  have hneg : ¬ (1 + (r.length : Int) < 0) := by omega
  simp only [hh, e1, e3, e5, Option.bind_some, ne, hneg, Bool.not_true, Bool.false_eq_true, if_false, if_true]
end Go.Proofs.Ytnlgciomdghfiaa.Fw

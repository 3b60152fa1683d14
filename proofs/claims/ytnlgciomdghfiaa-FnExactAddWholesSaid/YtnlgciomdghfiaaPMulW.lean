/- Products of whole numbers on both sides. -/
import Derived.Test.YtnlgciomdghfiaaPMul
namespace Go.Proofs.Ytnlgciomdghfiaa.Fw
open Go Go.RowKit Go.Proofs.Ytnlgciomdghfiaa.Limbs
set_option linter.unusedVariables false

/-- The loop that leaves noughts behind away: over a length. -/
theorem trim_loop {R : Type} {l : List Int} (K : Nat → Option R) {G : (Int → Option R) → Int → Option R}
    (hs : ∀ self (m : Nat), m < l.length → l.getD m 0 = 0 → G self ((m + 1 : Nat) : Int) = self (m : Int))
    (hk : ∀ self (m : Nat), m ≤ l.length → (m = 0 ∨ l.getD (m - 1) 0 ≠ 0) → G self (m : Int) = K m) : ∀ (m : Nat), m ≤ l.length → Limbs.trim (l.take m) = Limbs.trim l → ∀ n, m < n → iterO G n (m : Int) = K (Limbs.trim l).length
  | 0, hm, ht, n, hn => by
    obtain ⟨n, rfl⟩ : ∃ m, n = m + 1 := ⟨n - 1, by omega⟩
    rw [← ht]
    exact hk _ 0 hm (.inl rfl)
  | m + 1, hm, ht, n, hn => by
    obtain ⟨n, rfl⟩ : ∃ m, n = m + 1 := ⟨n - 1, by omega⟩
    have hlt : m < l.length := by omega
    rw [List.take_succ_eq_append_getElem hlt] at ht
    by_cases h0 : l.getD m 0 = 0
    · refine (hs _ m hlt h0).trans ?_
      refine trim_loop K hs hk m (by omega) ?_ n (by omega)
      rw [getD_get hlt] at h0
      rw [h0, trim_snoc_zero] at ht
      exact ht
    · have e : (Limbs.trim l).length = m + 1 := by
        rw [← ht, trim_snoc_ne _ (by rwa [getD_get hlt] at h0)]
        simp; omega
      rw [e]
      exact hk _ (m + 1) hm (.inr h0)
theorem l2Trim_from : ∀ (m : Nat) {l : List Int}, l.length = m → m < 1099511627776 → ∀ (C : Ca tb) (N n : Nat), m < n → iterO (spec_l2Trim_g1 C N) n l = some (Limbs.trim l)
  | 0, l, hl, _, C, N, n, hn => by
    obtain ⟨n, rfl⟩ : ∃ m, n = m + 1 := ⟨n - 1, by omega⟩
    obtain rfl := List.eq_nil_of_length_eq_zero hl
    rfl
  | m + 1, l, hl, hb, C, N, n, hn => by
    obtain ⟨n, rfl⟩ : ∃ m, n = m + 1 := ⟨n - 1, by omega⟩
    show spec_l2Trim_x1 C _ l = _
    unfold spec_l2Trim_x1
    have e : ((l.length : Int) - 1) = (m : Nat) := by omega
    rw [if_pos (by omega), w64 (by omega) (by omega), e, if_pos (by omega), if_pos (by omega), nat_i]
    have hsn : l = l.take m ++ [l[m]] := by rw [← List.take_succ_eq_append_getElem (by omega), List.take_of_length_le (by omega)]
    rw [getD_get (by omega)]
    by_cases h0 : l[m] = 0
    · rw [if_pos h0, if_pos (by omega), if_pos (by omega), if_pos (by omega), if_pos (by omega)]
      show iterO (spec_l2Trim_g1 C N) n (l.take m) = _
      rw [l2Trim_from m (by simp; omega) (by omega) C N n (by omega)]
      conv => rhs; rw [hsn, h0, trim_snoc_zero]
    · rw [if_neg h0]
      conv => rhs; rw [hsn, trim_snoc_ne _ h0]
      rw [← hsn]
theorem l2Trim_ret {n : Nat} (hn : Big + 1 ≤ n) {l : List Int} (hl : l.length < 1099511627776) : c_spec_l2Trim (run tb orc n) l = some (Limbs.trim l) := by
  obtain ⟨n, rfl, hn⟩ := up hn
  have hb := big_ge
  rw [spec_l2Trim_eq]; unfold spec_l2Trim_f spec_l2Trim_x
  exact l2Trim_from l.length rfl hl _ _ n (by omega)
/-- What comes of a state of the outer loop. -/
theorem l2Mul_from {n : Nat} (hn : Big + 1 ≤ n) {a b : List Int} (ha : Ok a) (hb : Ok b) (hla : a.length ≤ 1048576) (hlb : b.length ≤ 1048576) : ∀ (d i : Nat) (out : List Int), i + d = a.length → MulOut a b i out → ∀ K, d < K →
    ∃ r, Norm r ∧ val r = val a * val b ∧ r.length ≤ a.length + b.length ∧ iterO (spec_l2Mul_g1 (run tb orc n) n a b) K ((i : Int), out) = some r
  | 0, i, out, hi, h, K, hK => by
    obtain ⟨K, rfl⟩ : ∃ j, K = j + 1 := ⟨K - 1, by omega⟩
    have e : i = a.length := by omega
    subst e
    refine ⟨Limbs.trim out, trim_norm h.ok, by rw [val_trim, h.done], by have := trim_length_le out; have := h.len; omega, ?_⟩
    rw [iterO_succ]; unfold spec_l2Mul_g1 spec_l2Mul_x1
    dsimp only
    rw [if_neg (by omega), l2Trim_ret hn (by have := h.len; omega)]
    rfl
  | d + 1, i, out, hi, h, K, hK => by
    obtain ⟨K, rfl⟩ : ∃ j, K = j + 1 := ⟨K - 1, by omega⟩
    have hb' := big_ge
    have hlt : i < a.length := by omega
    generalize hS : iterO (spec_l2Mul_g1 (run tb orc n) n a b) K = S
    have ih : ∀ out', MulOut a b (i + 1) out' → ∃ r, Norm r ∧ val r = val a * val b ∧ r.length ≤ a.length + b.length ∧ S (((i + 1 : Nat) : Int), out') = some r := by
      intro out' h'
      rw [← hS]
      exact l2Mul_from hn ha hb hla hlb d (i + 1) out' (by omega) h' K (by omega)
    have hS' : iterO (spec_l2Mul_g1 (run tb orc n) n a b) (K + 1) ((i : Int), out) = spec_l2Mul_g1 (run tb orc n) n a b S ((i : Int), out) := by rw [← hS]; rfl
    rw [hS']
    have hs : ∀ self out_ c j, MulIn a b i out_ c j → j < b.length → spec_l2Mul_g2 (run tb orc n) n S a b ((i : Int), out) self (c, (j : Int), out_) = self ((c + (out_.getD (i + j) 0 + a.getD i 0 * b.getD j 0)) / 268435456, ((j + 1 : Nat) : Int), out_.set (i + j) ((c + (out_.getD (i + j) 0 + a.getD i 0 * b.getD j 0)) % 268435456)) := by
      intro self o c j hm hj
      have hl := hm.len
      obtain ⟨s1, s2, s3, s4⟩ := hm.sum ha hb
      have c0 := hm.c0
      have c1 := hm.c1
      rw [B_def] at c1
      unfold spec_l2Mul_g2 spec_l2Mul_x2
      dsimp only
      have e2 : ((i : Int) + (j : Int)).toNat = i + j := by omega
      rw [if_pos (by omega), if_pos (by omega), if_pos (by omega), w64 (n := (i : Int) + (j : Int)) (by omega) (by omega), if_pos (by omega), if_pos (by omega), if_neg (by omega), if_pos (by omega), if_pos (by omega), if_neg (by omega), e2, nat_i, nat_i,
        w64 (n := a.getD i 0 * b.getD j 0) (by omega) (by omega), w64 (n := o.getD (i + j) 0 + a.getD i 0 * b.getD j 0) (by omega) (by omega), w64 (n := c + (o.getD (i + j) 0 + a.getD i 0 * b.getD j 0)) (by omega) (by omega), tdiv_nn (by omega), tmod_nn (by omega), w64 (by omega) (by omega), w64 (n := (j : Int) + 1) (by omega) (by omega), ni1]
    have hk : ∀ self v, v.2.1 = (b.length : Int) → spec_l2Mul_g2 (run tb orc n) n S a b ((i : Int), out) self v = iterO (spec_l2Mul_g3 (run tb orc n) n S a b ((i : Int), out)) n (v.1, wr .i64 ((i : Int) + (b.length : Int)), v.2.2) := by
      intro self v hv
      unfold spec_l2Mul_g2 spec_l2Mul_x2
      rw [if_neg (by omega)]
    obtain ⟨out', c', h1, h2⟩ := mul_inner ha hb hlt (fun v => iterO (spec_l2Mul_g3 (run tb orc n) n S a b ((i : Int), out)) n (v.1, wr .i64 ((i : Int) + (b.length : Int)), v.2.2)) (G := spec_l2Mul_g2 (run tb orc n) n S a b ((i : Int), out)) hs hk b.length 0 out 0 (by omega) h.inn n (by omega)
    · have hl := h1.len
      have c1 := h1.c1
      have c0 := h1.c0
      rw [B_def] at c1
      obtain ⟨r, r1, r2, r3, r4⟩ := ih _ (h1.out hlt)
      refine ⟨r, r1, r2, r3, ?_⟩
      have e0 : spec_l2Mul_g1 (run tb orc n) n a b S ((i : Int), out) = iterO (spec_l2Mul_g2 (run tb orc n) n S a b ((i : Int), out)) n ((0 : Int), (0 : Int), out) := by
        unfold spec_l2Mul_g1 spec_l2Mul_x1
        rw [if_pos (by simp; omega), if_pos (by simp), if_pos (by simp; omega)]
      rw [e0]
      refine h2.trans ?_
      dsimp only
      rw [w64 (by omega) (by omega)]
      obtain ⟨m, hm⟩ : ∃ m, n = m + 2 := ⟨n - 2, by omega⟩
      have stop : ∀ self k o, spec_l2Mul_g3 (run tb orc n) n S a b ((i : Int), out) self ((0 : Int), k, o) = S (((i + 1 : Nat) : Int), o) := by
        intro self k o
        unfold spec_l2Mul_g3 spec_l2Mul_x3
        rw [if_neg (by simp)]
        dsimp only
        rw [w64 (by omega) (by omega), ni1]
      have hz := h1.z (i + b.length) (Nat.le_refl _)
      by_cases hc : c' = 0
      · subst hc
        have e1 : out'.set (i + b.length) 0 = out' := by
          conv => lhs; rw [← hz]
          exact set_getD_self (by omega)
        rw [e1] at r4
        have : ∀ q, q = n → iterO (spec_l2Mul_g3 (run tb orc n) n S a b ((i : Int), out)) q ((0 : Int), (i : Int) + (b.length : Int), out') = some r := by
          intro q hq
          obtain ⟨q, rfl⟩ : ∃ j, q = j + 1 := ⟨q - 1, by omega⟩
          exact (stop _ _ _).trans r4
        exact this n rfl
      · have step : ∀ self, spec_l2Mul_g3 (run tb orc n) n S a b ((i : Int), out) self (c', (i : Int) + (b.length : Int), out') = self ((0 : Int), (i : Int) + (b.length : Int) + 1, out'.set (i + b.length) c') := by
          intro self
          unfold spec_l2Mul_g3 spec_l2Mul_x3
          dsimp only
          have e2 : ((i : Int) + (b.length : Int)).toNat = i + b.length := by omega
          rw [if_pos (by omega), if_pos (by omega), if_pos (by omega), if_neg (by omega), if_pos (by omega), if_pos (by omega), if_neg (by omega), e2, hz, Int.add_zero, w64 (n := c') (by omega) (by omega), tdiv_nn c0, tmod_nn c0, Int.ediv_eq_zero_of_lt c0 c1, Int.emod_eq_of_lt c0 c1, w64 (n := 0) (by omega) (by omega), w64 (by omega) (by omega)]
        have : ∀ q, q = n → iterO (spec_l2Mul_g3 (run tb orc n) n S a b ((i : Int), out)) q (c', (i : Int) + (b.length : Int), out') = some r := by
          intro q hq
          obtain ⟨q, rfl⟩ : ∃ j, q = j + 2 := ⟨q - 2, by omega⟩
          refine (step _).trans ?_
          exact (stop _ _ _).trans r4
        exact this n rfl
theorem l2Mul_ret {n : Nat} (hn : Big + 2 ≤ n) {a b : List Int} (ha : Ok a) (hb : Ok b) (hla : a.length ≤ 1048576) (hlb : b.length ≤ 1048576) :
    ∃ r, Norm r ∧ val r = val a * val b ∧ r.length ≤ a.length + b.length ∧ c_spec_l2Mul (run tb orc n) a b = some r := by
  obtain ⟨n, rfl, hm⟩ := up hn
  have hb' := big_ge
  obtain ⟨r, h1, h2, h3, h4⟩ := l2Mul_from hm ha hb hla hlb a.length 0 _ (by omega) (MulOut.start a b) n (by omega)
  refine ⟨r, h1, h2, h3, ?_⟩
  rw [spec_l2Mul_eq]; unfold spec_l2Mul_f spec_l2Mul_x
  rw [w64 (by omega) (by omega)]
  have e : ((a.length : Int) + (b.length : Int)).toNat = a.length + b.length := by omega
  rw [if_pos (by omega), e, if_pos (limB_lt (by omega))]
  exact h4
end Go.Proofs.Ytnlgciomdghfiaa.Fw

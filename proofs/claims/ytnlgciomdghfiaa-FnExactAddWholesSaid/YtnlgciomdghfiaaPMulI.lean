/- Products of whole numbers: the program's, and both told. -/
import Derived.Test.YtnlgciomdghfiaaPMulW
namespace Go.Proofs.Ytnlgciomdghfiaa.Fw
open Go Go.RowKit Go.Proofs.Ytnlgciomdghfiaa.Limbs
set_option linter.unusedVariables false

/-- A sign, but of 0. -/
def sgn (s : Bool) (r : List Int) : Bool := s && decide (0 < r.length)
theorem trimmed_i {n : Nat} (hn : Big + 1 ≤ n) {s : Bool} {l : List Int} (hl : l.length < 1099511627776) : c_impl_trimmed (run tb orc n) s l = some (sgn s (Limbs.trim l), Limbs.trim l) := by
  obtain ⟨n, rfl, hm⟩ := up hn
  have hbig := big_ge
  rw [impl_trimmed_eq]; unfold impl_trimmed_f impl_trimmed_x
  have fin : ∀ m : Nat, m ≤ l.length → (if s = true then (if 0 ≤ (0:Int) then (if (0:Int) ≤ (m : Int) then (if (m : Int) ≤ (m : Int) then (if (m : Int) ≤ (l.length : Int) then (some ((decide ((m : Int) > (0:Int)), (l.take (m : Int).toNat).drop (0:Int).toNat))) else none) else none) else none) else none) else if 0 ≤ (0:Int) then (if (0:Int) ≤ (m : Int) then (if (m : Int) ≤ (m : Int) then (if (m : Int) ≤ (l.length : Int) then (some ((false, (l.take (m : Int).toNat).drop (0:Int).toNat))) else none) else none) else none) else none) = some (s && decide (0 < m), l.take m) := by
    intro m hm
    have h1 : (0 : Int) ≤ (m : Int) := by omega
    have h2 : (m : Int) ≤ (l.length : Int) := by omega
    cases s with
    | true =>
      rw [if_pos rfl, if_pos (Int.le_refl _), if_pos h1, if_pos (Int.le_refl _), if_pos h2, nat_i]
      simp
    | false =>
      rw [if_neg (by simp), if_pos (Int.le_refl _), if_pos h1, if_pos (Int.le_refl _), if_pos h2, nat_i, Bool.false_and]
      simp
  have h := trim_loop (l := l) (fun m => some (s && decide (0 < m), l.take m)) (G := impl_trimmed_g1 (run tb orc n) n s l) ?_ ?_ l.length (Nat.le_refl _) (by rw [List.take_of_length_le (Nat.le_refl _)]) n (by omega)
  · refine h.trans ?_
    have e := trim_eq_take l
    rw [← e]; rfl
  · intro self m hm h0
    unfold impl_trimmed_g1 impl_trimmed_x1
    rw [if_pos (by omega)]
    have e : ((m + 1 : Nat) : Int) - 1 = (m : Int) := by omega
    rw [e, w64 (by omega) (by omega), if_pos (by omega), if_pos (by omega), nat_i, if_pos h0]
  · intro self m hm h0
    unfold impl_trimmed_g1 impl_trimmed_x1
    by_cases hz : m = 0
    · subst hz
      rw [if_neg (by omega)]
      exact fin 0 hm
    · have h1 : l.getD (m - 1) 0 ≠ 0 := h0.resolve_left hz
      rw [if_pos (by omega)]
      have e : ((m : Int) - 1) = ((m - 1 : Nat) : Int) := by omega
      rw [e, w64 (by omega) (by omega), if_pos (by omega), if_pos (by omega), nat_i, if_neg h1]
      exact fin m hm
theorem mulW_from {n : Nat} (hn : Big + 1 ≤ n) {s1 s2 : Bool} {a b : List Int} (ha : Ok a) (hb : Ok b) (hla : a.length ≤ 1048576) (hlb : b.length ≤ 1048576) : ∀ (d i : Nat) (out : List Int), i + d = a.length → MulOut a b i out → ∀ K, d < K →
    ∃ r, Norm r ∧ val r = val a * val b ∧ r.length ≤ a.length + b.length ∧ iterO (impl_mulW_g1 (run tb orc n) n s1 a s2 b) K ((i : Int), out) = some (sgn (s1 != s2) r, r)
  | 0, i, out, hi, h, K, hK => by
    obtain ⟨K, rfl⟩ : ∃ j, K = j + 1 := ⟨K - 1, by omega⟩
    have hb' := big_ge
    have hl := h.len
    have e : i = a.length := by omega
    subst e
    refine ⟨Limbs.trim out, trim_norm h.ok, by rw [val_trim, h.done], by have := trim_length_le out; omega, ?_⟩
    rw [iterO_succ]; unfold impl_mulW_g1 impl_mulW_x1
    dsimp only
    rw [if_neg (by omega), trimmed_i hn (by omega)]
    rfl
  | d + 1, i, out, hi, h, K, hK => by
    obtain ⟨K, rfl⟩ : ∃ j, K = j + 1 := ⟨K - 1, by omega⟩
    have hb' := big_ge
    have hlt : i < a.length := by omega
    generalize hS : iterO (impl_mulW_g1 (run tb orc n) n s1 a s2 b) K = S
    have ih : ∀ out', MulOut a b (i + 1) out' → ∃ r, Norm r ∧ val r = val a * val b ∧ r.length ≤ a.length + b.length ∧ S (((i + 1 : Nat) : Int), out') = some (sgn (s1 != s2) r, r) := by
      intro out' h'
      rw [← hS]
      exact mulW_from hn ha hb hla hlb d (i + 1) out' (by omega) h' K (by omega)
    rw [iterO_succ, hS]
    have hs : ∀ self out_ c j, MulIn a b i out_ c j → j < b.length → impl_mulW_g2 (run tb orc n) n S s1 a s2 b ((i : Int), out) self (c, (j : Int), out_) = self ((c + (out_.getD (i + j) 0 + a.getD i 0 * b.getD j 0)) / 268435456, ((j + 1 : Nat) : Int), out_.set (i + j) ((c + (out_.getD (i + j) 0 + a.getD i 0 * b.getD j 0)) % 268435456)) := by
      intro self o c j hm hj
      have hl := hm.len
      obtain ⟨q1, q2, q3, q4⟩ := hm.sum ha hb
      have c0 := hm.c0
      have c1 := hm.c1
      rw [B_def] at c1
      unfold impl_mulW_g2 impl_mulW_x2
      dsimp only
      have e2 : ((i : Int) + (j : Int)).toNat = i + j := by omega
      rw [if_pos (by omega), if_pos (by omega), if_pos (by omega), w64 (n := (i : Int) + (j : Int)) (by omega) (by omega), if_pos (by omega), if_pos (by omega), if_pos (by omega), if_pos (by omega), if_neg (by omega), e2, nat_i, nat_i,
        w64 (n := a.getD i 0 * b.getD j 0) (by omega) (by omega), w64 (n := o.getD (i + j) 0 + a.getD i 0 * b.getD j 0) (by omega) (by omega), w64 (n := c + (o.getD (i + j) 0 + a.getD i 0 * b.getD j 0)) (by omega) (by omega), shr_28, and_limb, w64 (n := (j : Int) + 1) (by omega) (by omega), ni1]
    have hk : ∀ self v, v.2.1 = (b.length : Int) → impl_mulW_g2 (run tb orc n) n S s1 a s2 b ((i : Int), out) self v = if 0 ≤ wr .i64 ((i : Int) + (b.length : Int)) then (if wr .i64 ((i : Int) + (b.length : Int)) < (v.2.2.length : Int) then S (wr .i64 ((i : Int) + (1:Int)), v.2.2.set ((wr .i64 ((i : Int) + (b.length : Int))).toNat) v.1) else none) else none := by
      intro self v hv
      unfold impl_mulW_g2 impl_mulW_x2
      rw [if_neg (by omega)]
    obtain ⟨out', c', h1, h2⟩ := mul_inner ha hb hlt (fun v => if 0 ≤ wr .i64 ((i : Int) + (b.length : Int)) then (if wr .i64 ((i : Int) + (b.length : Int)) < (v.2.2.length : Int) then S (wr .i64 ((i : Int) + (1:Int)), v.2.2.set ((wr .i64 ((i : Int) + (b.length : Int))).toNat) v.1) else none) else none) (G := impl_mulW_g2 (run tb orc n) n S s1 a s2 b ((i : Int), out)) hs hk b.length 0 out 0 (by omega) h.inn n (by omega)
    have hl := h1.len
    obtain ⟨r, r1, r2, r3, r4⟩ := ih _ (h1.out hlt)
    refine ⟨r, r1, r2, r3, ?_⟩
    unfold impl_mulW_g1 impl_mulW_x1
    dsimp only
    rw [if_pos (by omega), if_pos (by omega), if_pos (by omega)]
    refine h2.trans ?_
    dsimp only
    have e2 : ((i : Int) + (b.length : Int)).toNat = i + b.length := by omega
    rw [w64 (by omega) (by omega), if_pos (by omega), if_pos (by omega), w64 (by omega) (by omega), e2, ni1]
    exact r4
theorem mulW_ret {n : Nat} (hn : Big + 2 ≤ n) {s1 s2 : Bool} {a b : List Int} (ha : Ok a) (hb : Ok b) (hla : a.length ≤ 1048576) (hlb : b.length ≤ 1048576) :
    ∃ r, Norm r ∧ val r = val a * val b ∧ r.length ≤ a.length + b.length ∧ c_impl_mulW (run tb orc n) s1 a s2 b = some (sgn (s1 != s2) r, r) := by
  obtain ⟨n, rfl, hm⟩ := up hn
  have hb' := big_ge
  obtain ⟨r, h1, h2, h3, h4⟩ := mulW_from (n := n) (by omega) (s1 := s1) (s2 := s2) ha hb hla hlb a.length 0 _ (by omega) (MulOut.start a b) n (by omega)
  refine ⟨r, h1, h2, h3, ?_⟩
  rw [impl_mulW_eq]; unfold impl_mulW_f impl_mulW_x
  rw [w64 (by omega) (by omega)]
  have e : ((a.length : Int) + (b.length : Int)).toNat = a.length + b.length := by omega
  rw [if_pos (by omega), e, if_pos (limB_lt (by omega))]
  exact h4
theorem l2Times_ret {n : Nat} (hn : Big + 3 ≤ n) {s1 s2 : Bool} {a b : List Int} (ha : Ok a) (hb : Ok b) (hla : a.length ≤ 1048576) (hlb : b.length ≤ 1048576) :
    ∃ r, Norm r ∧ val r = val a * val b ∧ r.length ≤ a.length + b.length ∧ c_spec_l2Times (run tb orc n) s1 a s2 b = some (sgn (s1 != s2) r, r) := by
  obtain ⟨n, rfl, hm⟩ := up hn
  obtain ⟨r, h1, h2, h3, h4⟩ := l2Mul_ret (n := n) (by omega) ha hb hla hlb
  refine ⟨r, h1, h2, h3, ?_⟩
  rw [spec_l2Times_eq]; unfold spec_l2Times_f spec_l2Times_x
  rw [h4]
  simp only [Option.bind_some]
  unfold sgn
  by_cases h : 0 < r.length
  · rw [if_pos (by omega), decide_eq_true h, Bool.and_true]
  · rw [if_neg (by omega), decide_eq_false h, Bool.and_false]
/-- As it is told: false where it is too long. -/
def told (s : Bool) (r : List Int) : (Bool × List Int) × Bool := if r.length ≤ 40 then ((s, r), true) else ((false, []), false)
theorem told_len (s : Bool) (r : List Int) : (told s r).1.2.length ≤ 40 := by unfold told; split <;> simp_all
theorem clone_ret {n : Nat} (hn : Big + 1 ≤ n) {l : List Int} (hl : l.length < 1099511627776) : c_slices_Clone_int_int (run tb orc n) l = some l := by
  obtain ⟨n, rfl, hm⟩ := up hn
  rw [slices_Clone_int_int_eq]; unfold slices_Clone_int_int_f slices_Clone_int_int_x
  by_cases h : l = []
  · subst h
    rw [if_pos (by simp), if_pos (lim_lt (by simp))]
    exact both_same _
  · rw [if_neg (by simpa using h), if_pos (lim_lt hl)]
theorem copiedW_ret {n : Nat} (hn : Big + 2 ≤ n) {s : Bool} {l : List Int} (hl : l.length < 1099511627776) : c_impl_copiedW (run tb orc n) s l = some (s, l) := by
  obtain ⟨n, rfl, hm⟩ := up hn
  rw [impl_copiedW_eq]; unfold impl_copiedW_f impl_copiedW_x
  rw [clone_ret (by omega) hl]; rfl
theorem kept_ret {n : Nat} (hn : Big + 3 ≤ n) {s : Bool} {l : List Int} : c_impl_kept (run tb orc n) s l = some (told s l) := by
  obtain ⟨n, rfl, hm⟩ := up hn
  rw [impl_kept_eq]; unfold impl_kept_f impl_kept_x told
  by_cases h : l.length ≤ 40
  · rw [if_neg (by omega), if_pos h, copiedW_ret (by omega) (by omega)]; rfl
  · rw [if_pos (by omega), if_neg h]
theorem l2Out_ret {n : Nat} (hn : Big + 1 ≤ n) {s : Bool} {l : List Int} : c_spec_l2Out (run tb orc n) s l = some (told s l) := by
  obtain ⟨n, rfl, hm⟩ := up hn
  rw [spec_l2Out_eq]; unfold spec_l2Out_f spec_l2Out_x told
  by_cases h : l.length ≤ 40
  · rw [if_neg (by omega), if_pos h, if_pos (lim_lt (by omega))]
  · rw [if_pos (by omega), if_neg h]
theorem l2In_ret {n : Nat} (hn : Big + 1 ≤ n) {s : Bool} {l : List Int} : c_spec_l2In (run tb orc n) s l = some (s, l) := by
  obtain ⟨n, rfl, hm⟩ := up hn
  rw [spec_l2In_eq]; rfl
/-- Both sides say the same. -/
theorem mulWholes_both (s1 : Bool) {a : List Int} (s2 : Bool) {b : List Int} (hla : a.length ≤ 1048576) (hlb : b.length ≤ 1048576) :
    ∃ p : (Bool × List Int) × Bool, p.1.2.length ≤ 40 ∧ ∀ n, Big + 8 ≤ n → c_impl_MulWholes (run tb orc n) s1 a s2 b = some p ∧ c_spec_MulWholes (run tb orc n) s1 a s2 b = some p := by
  by_cases g : goodB s1 a = true ∧ goodB s2 b = true
  · obtain ⟨ga, gb⟩ := g
    obtain ⟨⟨na, _⟩, la⟩ := can_of_good ga
    obtain ⟨⟨nb, _⟩, lb⟩ := can_of_good gb
    obtain ⟨r, h1, h2, h3, _⟩ := mulW_ret (n := Big + 2) (Nat.le_refl _) (s1 := s1) (s2 := s2) na.ok nb.ok hla hlb
    refine ⟨told (sgn (s1 != s2) r) r, told_len _ _, fun n hn => ?_⟩
    obtain ⟨n, rfl, hm⟩ := up hn
    obtain ⟨r', h1', h2', h3', h4'⟩ := mulW_ret (n := n) (by omega) (s1 := s1) (s2 := s2) na.ok nb.ok hla hlb
    obtain ⟨r'', h1'', h2'', h3'', h4''⟩ := l2Times_ret (n := n) (by omega) (s1 := s1) (s2 := s2) na.ok nb.ok hla hlb
    obtain rfl : r' = r := norm_inj h1' h1 (by rw [h2, h2'])
    obtain rfl : r'' = r' := norm_inj h1'' h1' (by rw [h2', h2''])
    constructor
    · rw [impl_MulWholes_eq]; unfold impl_MulWholes_f impl_MulWholes_x
      rw [good_i (by omega) (by omega), ga, good_i (by omega) (by omega), gb, h4']
      simp only [Option.bind_some]
      rw [kept_ret (by omega)]; rfl
    · rw [spec_MulWholes_eq]; unfold spec_MulWholes_f spec_MulWholes_x
      rw [good_s (by omega) (by omega), ga, good_s (by omega) (by omega), gb, l2In_ret (by omega), l2In_ret (by omega)]
      simp only [Option.bind_some]
      rw [h4'']
      simp only [Option.bind_some]
      rw [l2Out_ret (by omega)]; rfl
  · refine ⟨((false, []), false), by simp, fun n hn => ?_⟩
    obtain ⟨n, rfl, hm⟩ := up hn
    constructor
    · rw [impl_MulWholes_eq]; unfold impl_MulWholes_f impl_MulWholes_x
      rw [good_i (by omega) (by omega)]
      cases ga : goodB s1 a with
      | false => rfl
      | true =>
        rw [good_i (by omega) (by omega)]
        cases gb : goodB s2 b with
        | false => rfl
        | true => exact absurd ⟨ga, gb⟩ g
    · rw [spec_MulWholes_eq]; unfold spec_MulWholes_f spec_MulWholes_x
      rw [good_s (by omega) (by omega)]
      cases ga : goodB s1 a with
      | false => rfl
      | true =>
        rw [good_s (by omega) (by omega)]
        cases gb : goodB s2 b with
        | false => rfl
        | true => exact absurd ⟨ga, gb⟩ g
end Go.Proofs.Ytnlgciomdghfiaa.Fw

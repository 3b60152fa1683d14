/- Coins: words that are right, and what is drawn until a word is below a wBound. -/
import Derived.Test.YtnlgciomdghfiaaPLaws
import Derived.Test.YtnlgciomdghfiaaEqCoin
namespace Go.Proofs.Ytnlgciomdghfiaa.Fw
open Go Go.RowKit
set_option linter.unusedVariables false

def inw (x : Int) : Bool := decide (0 ≤ x ∧ x ≤ 4294967295)
theorem dropw {l : List Int} {i : Nat} (h : i < l.length) : (l.drop i).all inw = (inw l[i] && (l.drop (i + 1)).all inw) := by
  rw [List.drop_eq_getElem_cons h, List.all_cons]
theorem l1In_ret {n : Nat} (hn : Big + 1 ≤ n) {x a b : Int} : c_spec_l1In (run tb orc n) x a b = some (decide (a ≤ x ∧ x ≤ b)) := by
  obtain ⟨n, rfl, hm⟩ := up hn
  rw [spec_l1In_eq]; unfold spec_l1In_f spec_l1In_x
  by_cases h : a ≤ x
  · rw [if_pos h]; simp [h]
  · rw [if_neg h]; simp [h]
theorem in_ret {n : Nat} (hn : Big + 1 ≤ n) {x a b : Int} : c_impl_in (run tb orc n) x a b = some (decide (a ≤ x ∧ x ≤ b)) := by
  obtain ⟨n, rfl, hm⟩ := up hn
  rw [impl_in_eq]; unfold impl_in_f impl_in_x
  by_cases h : a ≤ x
  · rw [if_pos h]; simp [h]
  · rw [if_neg h]; simp [h]
theorem areWords1_ret {n : Nat} (hn : Big + 2 ≤ n) {x : Int} : c_impl_areWords_1 (run tb orc n) x = some (!inw x) := by
  obtain ⟨n, rfl, hm⟩ := up hn
  rw [impl_areWords_1_eq]; unfold impl_areWords_1_f impl_areWords_1_x
  rw [in_ret (by omega)]; rfl
theorem index_from {n : Nat} (hn : Big + 2 ≤ n) {l : List Int} (hl : l.length < 1099511627776) : ∀ (d i : Nat), i + d = l.length → ∀ K, d < K →
    ∃ r : Int, iterO (slices_IndexFunc_int_int_g1 (run tb orc n) n l) K (i : Int) = some r ∧ decide (r ≥ 0) = !((l.drop i).all inw)
  | 0, i, hi, K, hK => by
    obtain ⟨K, rfl⟩ : ∃ j, K = j + 1 := ⟨K - 1, by omega⟩
    refine ⟨-1, ?_, by rw [List.drop_of_length_le (by omega)]; rfl⟩
    rw [iterO_succ]; unfold slices_IndexFunc_int_int_g1 slices_IndexFunc_int_int_x1
    rw [if_neg (by omega)]
  | d + 1, i, hi, K, hK => by
    obtain ⟨K, rfl⟩ : ∃ j, K = j + 1 := ⟨K - 1, by omega⟩
    have hlt : i < l.length := by omega
    rw [dropw hlt, iterO_succ]; unfold slices_IndexFunc_int_int_g1 slices_IndexFunc_int_int_x1
    rw [if_pos (by omega), if_pos (by omega), if_pos (by omega), areWords1_ret hn, nat_i, getD_get hlt]
    simp only [Option.bind_some]
    cases hb : inw l[i] with
    | false => exact ⟨i, by rw [if_pos (by simp)], by simp⟩
    | true =>
      obtain ⟨r, h1, h2⟩ := index_from hn hl d (i + 1) (by omega) K (by omega)
      refine ⟨r, ?_, by simpa using h2⟩
      rw [if_neg (by simp), w64 (by omega) (by omega), ni1]
      exact h1
theorem areWords_ret {n : Nat} (hn : Big + 5 ≤ n) {l : List Int} (hl : l.length < 1099511627776) : c_impl_areWords (run tb orc n) l = some (decide (l.length ≤ 4000) && l.all inw) := by
  obtain ⟨n, rfl, hm⟩ := up3 hn
  have hb := big_ge
  rw [impl_areWords_eq]; unfold impl_areWords_f impl_areWords_x
  by_cases h : l.length ≤ 4000
  · rw [if_pos (by omega), slices_ContainsFunc_int_int_eq]; unfold slices_ContainsFunc_int_int_f slices_ContainsFunc_int_int_x
    rw [slices_IndexFunc_int_int_eq]; unfold slices_IndexFunc_int_int_f slices_IndexFunc_int_int_x
    obtain ⟨r, h1, h2⟩ := index_from (n := n) (by omega) hl l.length 0 (by omega) n (by omega)
    have h1' : iterO (slices_IndexFunc_int_int_g1 (run tb orc n) n l) n 0 = some r := h1
    simp only [h1', Option.bind_some]
    rw [h2, decide_eq_true h]; simp
  · rw [if_neg (by omega), decide_eq_false h]; rfl
/-- Words and a place in them. -/
def wordsB (l : List Int) (at_ : Int) : Bool := decide (l.length ≤ 4000) && (decide (0 ≤ at_ ∧ at_ ≤ (l.length : Int)) && l.all inw)
theorem l7Words_from {n : Nat} (hn : Big + 1 ≤ n) {l : List Int} (hl : l.length < 1099511627776) : ∀ (d i : Nat), i + d = l.length → ∀ K, d < K →
    iterO (spec_l7Words_g1 (run tb orc n) n l) K (i : Int) = some ((l.drop i).all inw)
  | 0, i, hi, K, hK => by
    obtain ⟨K, rfl⟩ : ∃ j, K = j + 1 := ⟨K - 1, by omega⟩
    rw [iterO_succ, List.drop_of_length_le (by omega)]; unfold spec_l7Words_g1 spec_l7Words_x1
    rw [if_neg (by omega)]; rfl
  | d + 1, i, hi, K, hK => by
    obtain ⟨K, rfl⟩ : ∃ j, K = j + 1 := ⟨K - 1, by omega⟩
    have hlt : i < l.length := by omega
    rw [dropw hlt, iterO_succ]; unfold spec_l7Words_g1 spec_l7Words_x1
    rw [if_pos (by omega), if_pos (by omega), if_pos (by omega), l1In_ret hn, nat_i, getD_get hlt]
    simp only [Option.bind_some]
    rw [show decide (0 ≤ l[i] ∧ l[i] ≤ 4294967295) = inw l[i] from rfl]
    cases hb : inw l[i] with
    | false => simp
    | true =>
      rw [if_neg (by simp), w64 (by omega) (by omega), ni1, Bool.true_and]
      exact l7Words_from hn hl d (i + 1) (by omega) K (by omega)
theorem l7Words_ret {n : Nat} (hn : Big + 2 ≤ n) {l : List Int} {a : Int} (hl : l.length < 1099511627776) : c_spec_l7Words (run tb orc n) l a = some (wordsB l a) := by
  obtain ⟨n, rfl, hm⟩ := up hn
  have hb := big_ge
  rw [spec_l7Words_eq]; unfold spec_l7Words_f spec_l7Words_x wordsB
  by_cases h : l.length ≤ 4000
  · rw [if_neg (by omega), l1In_ret (by omega), decide_eq_true h]
    simp only [Option.bind_some, Bool.true_and]
    cases hd : decide (0 ≤ a ∧ a ≤ (l.length : Int)) with
    | false => simp
    | true =>
      rw [if_neg (by simp), Bool.true_and]
      exact l7Words_from (n := n) (by omega) hl l.length 0 (by omega) n (by omega)
  · rw [if_pos (by omega), decide_eq_false h]; rfl
/-- The first word below a wBound, what is made of it and the place behind it. -/
def drawW (f : Int → Int) (L : Int) (w : List Int) : Nat → Nat → Int × Int × Bool
  | 0, _ => (0, 0, false)
  | d + 1, i => if w.getD i 0 < L then (f (w.getD i 0), ((i + 1 : Nat) : Int), true) else drawW f L w d (i + 1)
theorem drawW_succ (f : Int → Int) (L : Int) (w : List Int) (d i : Nat) : drawW f L w (d + 1) i = if w.getD i 0 < L then (f (w.getD i 0), ((i + 1 : Nat) : Int), true) else drawW f L w d (i + 1) := rfl
noncomputable def wBound (p : Int) : Int := wr .i64 ((wr .i64 ((4294967296:Int).tdiv p)) * p)
theorem wBound_pos {p : Int} (h1 : 2 ≤ p) (h2 : p ≤ 268435456) : 0 < wBound p := by
  unfold wBound
  have e : (4294967296:Int).tdiv p = 4294967296 / p := tdiv_nn (by omega)
  have q1 : 1 ≤ (4294967296 : Int) / p := by
    rw [Int.le_ediv_iff_mul_le (by omega)]; omega
  have q2 : (4294967296 : Int) / p * p ≤ 4294967296 := Int.ediv_mul_le _ (by omega)
  have q3 : p ≤ (4294967296 : Int) / p * p := by
    have := Int.mul_le_mul_of_nonneg_right q1 (by omega : (0:Int) ≤ p)
    omega
  have q4 : (4294967296 : Int) / p ≤ 4294967296 := by
    have := Int.mul_le_mul_of_nonneg_left (by omega : (1:Int) ≤ p) (by omega : (0:Int) ≤ 4294967296 / p)
    omega
  rw [e, w64 (n := 4294967296 / p) (by omega) (by omega), w64 (by omega) (by omega)]
  omega
theorem back1 {i : Nat} (h : i < 1099511627776) : (wr .i64 ((wr .i64 ((i : Int) + (1:Int))) - (1:Int))) = (i : Int) := by
  rw [w64 (n := (i : Int) + 1) (by omega) (by omega), w64 (by omega) (by omega)]; omega
def ter (x : Int) : Int := if x.tmod 3 = 2 then -1 else x.tmod 3

theorem specU_from {C0 C1 C2 : Ca tb} {N0 N1 N2 : Nat} {w : List Int} {p x1 : Int} {d1 d2 : Bool} (hp : 2 ≤ p) (hp2 : p ≤ 268435456) (hl : w.length < 1099511627776) : ∀ (d i : Nat), i + d = w.length → ∀ K, d + 1 < K →
    iterO (spec_UniformFrom_g1 C0 C1 C2 N0 N1 N2 w x1 p d1 d2) K ((i : Int), true) = some (drawW (fun x => x.tmod p) (wBound p) w d i)
  | 0, i, hi, K, hK => by
    obtain ⟨K, rfl⟩ : ∃ j, K = j + 1 := ⟨K - 1, by omega⟩
    rw [iterO_succ]; unfold spec_UniformFrom_g1 spec_UniformFrom_x1
    dsimp only
    have hb := wBound_pos hp hp2
    unfold wBound at hb
    rw [if_pos rfl, if_pos (by omega), if_neg (by omega), if_pos hb, if_neg (by omega)]
    rfl
  | d + 1, i, hi, K, hK => by
    obtain ⟨K, rfl⟩ : ∃ j, K = j + 1 := ⟨K - 1, by omega⟩
    have ih := specU_from (C0 := C0) (C1 := C1) (C2 := C2) (N0 := N0) (N1 := N1) (N2 := N2) (x1 := x1) (d1 := d1) (d2 := d2) hp hp2 hl d (i + 1) (by omega) K (by omega)
    rw [iterO_succ]
    generalize iterO (spec_UniformFrom_g1 C0 C1 C2 N0 N1 N2 w x1 p d1 d2) K = S at ih ⊢
    unfold spec_UniformFrom_g1 spec_UniformFrom_x1
    dsimp only
    rw [if_pos rfl, if_neg (by omega), back1 (by omega), if_pos (by omega), if_pos (by omega), if_neg (by omega), nat_i, w64 (n := (i : Int) + 1) (by omega) (by omega), ni1, ih]
    rw [drawW_succ]
    by_cases h : w.getD i 0 < wBound p
    · rw [if_pos h]
      unfold wBound at h
      rw [if_pos h, if_neg (by omega), if_neg (by simp)]
    · rw [if_neg h]
      unfold wBound at h
      rw [if_neg h]
theorem implU_from {C0 C1 C2 C3 : Ca tb} {N0 N1 N2 N3 : Nat} {w : List Int} {p x1 : Int} {x2 d2 : Bool} (hp : 2 ≤ p) (hp2 : p ≤ 268435456) (hl : w.length < 1099511627776) : ∀ (d i : Nat), i + d = w.length → ∀ K, d + 1 < K →
    iterO (impl_drawn_intb_g1 C0 C1 C2 C3 N0 N1 N2 N3 w x1 x2 p d2) K ((i : Int), false) = some (drawW (fun x => x.tmod p) (wBound p) w d i)
  | 0, i, hi, K, hK => by
    obtain ⟨K, rfl⟩ : ∃ j, K = j + 1 := ⟨K - 1, by omega⟩
    rw [iterO_succ]; unfold impl_drawn_intb_g1 impl_drawn_intb_x1
    dsimp only
    have hb := wBound_pos hp hp2
    unfold wBound at hb
    rw [if_pos (by simp), if_neg (by simp), if_neg (by simp), if_pos (by omega), if_neg (by omega), if_pos hb, if_neg (by omega)]
    rfl
  | d + 1, i, hi, K, hK => by
    obtain ⟨K, rfl⟩ : ∃ j, K = j + 1 := ⟨K - 1, by omega⟩
    have ih := implU_from (C0 := C0) (C1 := C1) (C2 := C2) (C3 := C3) (N0 := N0) (N1 := N1) (N2 := N2) (N3 := N3) (x1 := x1) (x2 := x2) (d2 := d2) hp hp2 hl d (i + 1) (by omega) K (by omega)
    rw [iterO_succ]
    generalize iterO (impl_drawn_intb_g1 C0 C1 C2 C3 N0 N1 N2 N3 w x1 x2 p d2) K = S at ih ⊢
    unfold impl_drawn_intb_g1 impl_drawn_intb_x1
    dsimp only
    rw [if_pos (by simp), if_neg (by simp), if_neg (by simp), if_neg (by omega), back1 (by omega), if_pos (by omega), if_pos (by omega), if_neg (by omega), nat_i, w64 (n := (i : Int) + 1) (by omega) (by omega), ni1, ih]
    rw [drawW_succ]
    by_cases h : w.getD i 0 < wBound p
    · rw [if_pos h]
      unfold wBound at h
      rw [if_pos h, if_neg (by omega), if_neg (by simp)]
    · rw [if_neg h]
      unfold wBound at h
      rw [if_neg h]
/-- Both sides of UniformFrom. -/
noncomputable def uniB (w : List Int) (a p : Int) : Int × Int × Bool := if (wordsB w a && decide (2 ≤ p ∧ p ≤ 268435456)) = true then drawW (fun x => x.tmod p) (wBound p) w (w.length - a.toNat) a.toNat else (0, 0, false)
theorem uniform_s {n : Nat} (hn : Big + 6 ≤ n) {w : List Int} {a p : Int} (hl : w.length < 1099511627776) : c_spec_UniformFrom (run tb orc n) w a p = some (uniB w a p) := by
  obtain ⟨n, rfl, hm⟩ := up3 hn
  have hbig := big_ge
  rw [spec_UniformFrom_eq]; unfold spec_UniformFrom_f spec_UniformFrom_x uniB
  rw [l7Words_ret (by omega) hl]
  simp only [Option.bind_some]
  cases hw : wordsB w a with
  | false => simp
  | true =>
    rw [if_neg (by simp), spec_l1Modulus_eq]; unfold spec_l1Modulus_f spec_l1Modulus_x
    rw [l1In_ret (by omega)]
    simp only [Option.bind_some]
    by_cases hp : 2 ≤ p ∧ p ≤ 268435456
    · rw [decide_eq_true hp, if_neg (by simp), if_pos (by simp)]
      unfold wordsB at hw
      simp only [Bool.and_eq_true, decide_eq_true_eq] at hw
      obtain ⟨h1, ⟨h2, h3⟩, h4⟩ := hw
      have e : a = (a.toNat : Int) := by omega
      have := specU_from (C0 := run tb orc (n + 2)) (C1 := run tb orc (n + 1)) (C2 := run tb orc n) (N0 := n + 2) (N1 := n + 1) (N2 := n) (w := w) (p := p) (x1 := a) (d1 := true) (d2 := true) hp.1 hp.2 hl (w.length - a.toNat) a.toNat (by omega) (n + 1) (by omega)
      rw [← e] at this
      exact this
    · rw [decide_eq_false hp, if_pos (by simp), if_neg (by simp)]
theorem uniform_i {n : Nat} (hn : Big + 12 ≤ n) {w : List Int} {a p : Int} (hl : w.length < 1099511627776) : c_impl_UniformFrom (run tb orc n) w a p = some (uniB w a p) := by
  obtain ⟨n, rfl, hm⟩ := up hn
  have hbig := big_ge
  rw [impl_UniformFrom_eq]; unfold impl_UniformFrom_f impl_UniformFrom_x uniB
  obtain ⟨n, rfl, hm'⟩ := up2 hm
  rw [impl_isModulus_eq]; unfold impl_isModulus_f impl_isModulus_x
  rw [in_ret (by omega)]
  simp only [Option.bind_some]
  obtain ⟨n, rfl, hm''⟩ := up2 hm'
  rw [impl_drawn_intb_eq]; unfold impl_drawn_intb_f impl_drawn_intb_x
  rw [areWords_ret (by omega) hl]
  simp only [Option.bind_some]
  unfold wordsB
  by_cases h1 : (decide (w.length ≤ 4000) && w.all inw) = true
  · rw [if_pos h1, in_ret (by omega)]
    simp only [Bool.and_eq_true, decide_eq_true_eq] at h1
    simp only [Option.bind_some]
    by_cases h2 : 0 ≤ a ∧ a ≤ (w.length : Int)
    · rw [decide_eq_true h2, if_neg (by simp)]
      by_cases hp : 2 ≤ p ∧ p ≤ 268435456
      · rw [decide_eq_true hp, if_neg (by simp), if_pos (by simp [h1])]
        have e : a = (a.toNat : Int) := by omega
        have := implU_from (C0 := run tb orc (n + 3)) (C1 := run tb orc (n + 2)) (C2 := run tb orc (n + 1)) (C3 := run tb orc n) (N0 := n + 3) (N1 := n + 2) (N2 := n + 1) (N3 := n) (w := w) (p := p) (x1 := a) (x2 := true) (d2 := true) hp.1 hp.2 hl (w.length - a.toNat) a.toNat (by omega) (n + 1) (by omega)
        rw [← e] at this
        rw [this]; rfl
      · rw [decide_eq_false hp, if_pos (by simp), if_neg (by simp)]; rfl
    · rw [decide_eq_false h2, if_pos (by simp), if_neg (by simp)]; rfl
  · rw [if_neg h1]
    simp only [Bool.and_eq_true, decide_eq_true_eq, not_and] at h1
    rw [if_neg (by simp only [Bool.and_eq_true, decide_eq_true_eq]; rintro ⟨⟨h3, _, h4⟩, _⟩; exact h1 h3 h4)]; rfl
theorem lawU {n : Nat} (hn : Big + 14 ≤ n) (w : List Int) (a p : Int) : c_laws_FnExactUniformFrom (run tb orc n) w a p = some true := by
  obtain ⟨n, rfl, hm⟩ := up hn
  rw [laws_FnExactUniformFrom_eq]; unfold laws_FnExactUniformFrom_f laws_FnExactUniformFrom_x
  by_cases h : (w.length : Int) > 1048576
  · rw [if_pos h]
  have hl : w.length < 1099511627776 := by omega
  rw [if_neg h]
  have e1 : c_laws_toIntS (run tb orc n) w = some w := toIntS_ret (by omega) hl
  have e2 : c_spec_UniformFrom (run tb orc n) w a p = some (uniB w a p) := uniform_s (by omega) hl
  have e3 : c_impl_UniformFrom (run tb orc n) w a p = some (uniB w a p) := uniform_i (by omega) hl
  have e4 : c_laws_eqIntS (run tb orc n) w w = some true := by rw [eqIntS_ret (by omega) hl]; simp
  generalize uniB w a p = r at e2 e3
  have ne : ∀ b : Bool, (b != b) = false := fun b => by simp
  simp only [e1, e2, e3, e4, Option.bind_some, ne, Bool.not_true, Bool.false_eq_true, if_false, if_true]
end Go.Proofs.Ytnlgciomdghfiaa.Fw

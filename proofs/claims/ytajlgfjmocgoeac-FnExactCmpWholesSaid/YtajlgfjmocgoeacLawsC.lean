/- The plain statements of ModWord, BitsOf and CmpWholes. -/
import Derived.Test.YtajlgfjmocgoeacWhole
import Derived.Test.YtajlgfjmocgoeacModel3
import Derived.Test.YtajlgfjmocgoeacBitLen
namespace Go.Proofs.Ytajlgfjmocgoeac.LawsC
open Go.RowKit Go.Proofs.YtajlgfjmocgoeacW.PrintWords Go.Proofs.YtajlgfjmocgoeacW.PrintLast Go.Proofs.YtajlgfjmocgoeacW.PrintMore Go.Proofs.Ytajlgfjmocgoeac.Lib Go.Proofs.Ytajlgfjmocgoeac.M Go.Proofs.Ytajlgfjmocgoeac.Word Go.Proofs.Ytajlgfjmocgoeac.LawKit Go.Proofs.Ytajlgfjmocgoeac.Plain Go.Proofs.Ytajlgfjmocgoeac.Whole

/-- What a good whole number's limbs meet. -/
theorem good_limbs {neg : Bool} {l : List Int} (h : goodB neg l = true) : l.length ≤ 40 ∧ (∀ x ∈ l, 0 ≤ x ∧ x ≤ 268435455) ∧ (l = [] → neg = false) ∧ (l ≠ [] → l.getD (l.length - 1) 0 ≠ 0) := by
  unfold goodB isWholeB at h
  rw [Bool.and_eq_true, decide_eq_true_eq] at h
  obtain ⟨h1, h2⟩ := h
  by_cases hn : l = []
  · subst hn
    rw [if_pos rfl] at h2
    refine ⟨h1, fun x hx => by simp at hx, fun _ => by simpa using h2, fun h => absurd rfl h⟩
  · rw [if_neg hn, Bool.and_eq_true] at h2
    obtain ⟨h2, h3⟩ := h2
    refine ⟨h1, fun x hx => ?_, fun h => absurd h hn, fun _ => bne_iff_ne.mp h2⟩
    have h4 : l.any badLimb = false := by simpa using h3
    rw [List.any_eq_false] at h4
    have := h4 x hx
    unfold badLimb at this
    simpa using this

/-! ### by a word -/
/-- What is left by m, limb by limb from the last one on. -/
def leftBy (m : Int) (l : List Int) : Int := l.foldr (fun x r => (r * 268435456 + x) % m) 0

theorem leftBy_range {m : Int} (hm : 0 < m) (l : List Int) : 0 ≤ leftBy m l ∧ leftBy m l < m := by
  cases l with
  | nil => exact ⟨Int.le_refl 0, hm⟩
  | cons x xs => exact ⟨Int.emod_nonneg _ (by omega), Int.emod_lt_of_pos _ hm⟩

theorem word_s_from (l : List Int) (m : Int) (hm : 0 < m) (hm2 : m ≤ 268435456) (hl : l.length ≤ 1000) (ho : ∀ x ∈ l, 0 ≤ x ∧ x ≤ 268435455) : ∀ (i : Nat), i ≤ l.length →
    ∀ K, i < K → spec_l2Word.l0 K l m (leftBy m (l.drop i)) ((i : Int) - 1) = some (leftBy m l)
  | 0, _, K, hK => by
    obtain ⟨K, rfl⟩ : ∃ j, K = j + 1 := ⟨K - 1, by omega⟩
    simp only [spec_l2Word.l0]
    rw [if_neg (by omega), List.drop_zero]
  | i + 1, hi, K, hK => by
    obtain ⟨K, rfl⟩ : ∃ j, K = j + 1 := ⟨K - 1, by omega⟩
    simp only [spec_l2Word.l0]
    have h1 : i < l.length := by omega
    have hr := leftBy_range hm (l.drop (i + 1))
    have hx := ho l[i] (List.getElem_mem h1)
    have e : (((i + 1 : Nat) : Int) - 1) = (i : Int) := by omega
    rw [e, if_pos (by omega), if_pos (by omega), if_pos (by omega), if_neg (by omega), rd_getElem h1]
    have hmul : leftBy m (l.drop (i + 1)) * 268435456 ≤ 268435456 * 268435456 := by omega
    rw [w64 (n := leftBy m (l.drop (i + 1)) * 268435456) (by omega) (by omega), w64 (n := leftBy m (l.drop (i + 1)) * 268435456 + l[i]) (by omega) (by omega), tmod_nn (by omega), w64 (n := (i : Int) - 1) (by omega) (by omega)]
    have ih := word_s_from l m hm hm2 hl ho i (by omega) K (by omega)
    rw [List.drop_eq_getElem_cons h1] at ih
    exact ih

theorem word_i_from (neg : Bool) (l : List Int) (m : Int) (hm : 0 < m) (hm2 : m ≤ 268435456) (hl : l.length ≤ 1000) (ho : ∀ x ∈ l, 0 ≤ x ∧ x ≤ 268435455) : ∀ (i : Nat), i ≤ l.length →
    ∀ K, i < K → impl_modW.l0 K m (leftBy m (l.drop i)) ((i : Int) - 1) neg l = some (if neg then (-(leftBy m l)) % m else leftBy m l)
  | 0, _, K, hK => by
    obtain ⟨K, rfl⟩ : ∃ j, K = j + 1 := ⟨K - 1, by omega⟩
    simp only [impl_modW.l0]
    have hr := leftBy_range hm l
    rw [if_neg (by omega), List.drop_zero]
    cases neg with
    | true =>
      rw [if_pos rfl, w64 (by omega) (by omega), modf_i hm (by omega), bind_some]; rfl
    | false => rw [if_neg (by simp)]; rfl
  | i + 1, hi, K, hK => by
    obtain ⟨K, rfl⟩ : ∃ j, K = j + 1 := ⟨K - 1, by omega⟩
    simp only [impl_modW.l0]
    have h1 : i < l.length := by omega
    have hr := leftBy_range hm (l.drop (i + 1))
    have hx := ho l[i] (List.getElem_mem h1)
    have e : (((i + 1 : Nat) : Int) - 1) = (i : Int) := by omega
    rw [e, if_pos (by omega), if_pos (by omega), if_pos (by omega), if_neg (by omega), rd_getElem h1]
    have hmul : leftBy m (l.drop (i + 1)) * 268435456 ≤ 268435456 * 268435456 := by omega
    rw [w64 (n := leftBy m (l.drop (i + 1)) * 268435456) (by omega) (by omega), or_i64_add 28 (by omega) (by omega) (by omega) (by omega) (by omega), tmod_nn (by omega), w64 (n := (i : Int) - 1) (by omega) (by omega)]
    have ih := word_i_from neg l m hm hm2 hl ho i (by omega) K (by omega)
    rw [List.drop_eq_getElem_cons h1] at ih
    exact ih

theorem modW_both (neg : Bool) (l : List Int) (m : Int) (hm : 0 < m) (hm2 : m ≤ 268435456) (hl : l.length ≤ 1000) (ho : ∀ x ∈ l, 0 ≤ x ∧ x ≤ 268435455) :
    Ev (fun k => impl_modW.f k neg l m) (if neg then (-(leftBy m l)) % m else leftBy m l) ∧ Ev (fun k => spec_l2Modulo.f k neg l m) (if neg then (-(leftBy m l)) % m else leftBy m l) := by
  have hr := leftBy_range hm l
  refine ⟨⟨l.length + 1, fun K hK => ?_⟩, ⟨l.length + 1, fun K hK => ?_⟩⟩
  · show impl_modW.f K neg l m = _
    unfold impl_modW.f
    rw [w64 (by omega) (by omega)]
    have := word_i_from neg l m hm hm2 hl ho l.length (Nat.le_refl _) K (by omega)
    rw [List.drop_of_length_le (Nat.le_refl _)] at this
    exact this
  · show spec_l2Modulo.f K neg l m = _
    unfold spec_l2Modulo.f spec_l2Word.f
    rw [w64 (by omega) (by omega)]
    have := word_s_from l m hm hm2 hl ho l.length (Nat.le_refl _) K (by omega)
    rw [List.drop_of_length_le (Nat.le_refl _)] at this
    have h0 : leftBy m [] = 0 := rfl
    rw [h0] at this
    rw [this, bind_some]
    cases neg with
    | false => rw [if_neg (by simp)]; rfl
    | true =>
      rw [if_pos rfl, if_pos rfl]
      by_cases hp : leftBy m l > 0
      · rw [if_pos hp, w64 (by omega) (by omega)]
        congr 1
        have e : -leftBy m l = (m - leftBy m l) + m * (-1) := by omega
        rw [e, Int.add_mul_emod_self_left, Int.emod_eq_of_lt (by omega) (by omega)]
      · have h0 : leftBy m l = 0 := by omega
        rw [if_neg hp, h0]; rfl

theorem modWord_both (neg : Bool) (l : List Int) (m : Int) : ∃ r, Ev (fun k => impl_ModWord.f k neg l m) r ∧ Ev (fun k => spec_ModWord.f k neg l m) r := by
  obtain ⟨K1, h1⟩ := good_s neg l
  dsimp only at h1
  cases hg : goodB neg l with
  | false =>
    refine ⟨0, ⟨0, fun k _ => ?_⟩, ⟨K1 + 1, fun k hk => ?_⟩⟩
    · show impl_ModWord.f k neg l m = _
      unfold impl_ModWord.f
      rw [good_i, bind_some, hg, if_neg (by simp)]
    · show spec_ModWord.f k neg l m = _
      obtain ⟨k, rfl⟩ : ∃ j, k = j + 1 := ⟨k - 1, by omega⟩
      unfold spec_ModWord.f
      rw [h1 _ (by omega), bind_some, hg, if_neg (by simp)]
      simp only [spec_ModWord.j0]; rfl
  | true =>
    obtain ⟨hl, ho, _, _⟩ := good_limbs hg
    by_cases hm : 2 ≤ m ∧ m ≤ 268435456
    · obtain ⟨⟨K2, h2⟩, ⟨K3, h3⟩⟩ := modW_both neg l m (by omega) hm.2 (by omega) ho
      dsimp only at h2 h3
      refine ⟨if neg then (-(leftBy m l)) % m else leftBy m l, ⟨K2, fun k hk => ?_⟩, ⟨K1 + K3 + 1, fun k hk => ?_⟩⟩
      · show impl_ModWord.f k neg l m = _
        unfold impl_ModWord.f
        rw [good_i, bind_some, hg, if_pos rfl, mod_i, bind_some, decide_eq_true hm, if_pos rfl, h2 k hk, bind_some]
      · show spec_ModWord.f k neg l m = _
        obtain ⟨k, rfl⟩ : ∃ j, k = j + 1 := ⟨k - 1, by omega⟩
        unfold spec_ModWord.f
        rw [h1 _ (by omega), bind_some, hg, if_pos rfl, mod_s, bind_some, decide_eq_true hm]
        simp only [spec_ModWord.j0]
        rw [if_neg (by simp)]
        unfold spec_l2In.f
        rw [bind_some]
        dsimp only
        rw [h3 k (by omega), bind_some]
    · refine ⟨0, ⟨0, fun k _ => ?_⟩, ⟨K1 + 1, fun k hk => ?_⟩⟩
      · show impl_ModWord.f k neg l m = _
        unfold impl_ModWord.f
        rw [good_i, bind_some, hg, if_pos rfl, mod_i, bind_some, decide_eq_false hm, if_neg (by simp)]
      · show spec_ModWord.f k neg l m = _
        obtain ⟨k, rfl⟩ : ∃ j, k = j + 1 := ⟨k - 1, by omega⟩
        unfold spec_ModWord.f
        rw [h1 _ (by omega), bind_some, hg, if_pos rfl, mod_s, bind_some, decide_eq_false hm]
        simp only [spec_ModWord.j0]; rfl

theorem modWord : ∀ (a0_0 : Bool) (l0_1 : List Int) (a1 : Int), l0_1.length ≤ 9223372036854775807 → (∀ x ∈ l0_1, (Lit.int .i64 x).wf = true) → (Lit.int .i64 a1).wf = true → ∃ k, laws_FnExactModWord.f k a0_0 l0_1 a1 = some true := by
  intro neg l m hl _ _
  by_cases hsz : (1048576 : Int) - (l.length : Int) < 0
  · refine ⟨0, ?_⟩
    unfold laws_FnExactModWord.f
    rw [szWhole hl (by omega) (by omega), bind_some, if_pos hsz, if_pos (by omega)]
  · obtain ⟨K1, h1⟩ := toWhole (neg := neg) (l := l) (by omega)
    obtain ⟨r, ⟨K2, h2⟩, ⟨K3, h3⟩⟩ := modWord_both neg l m
    obtain ⟨K4, h4⟩ := eqWhole_self neg l (by omega)
    dsimp only at h1 h2 h3 h4
    refine ⟨K1 + K2 + K3 + K4, ?_⟩
    unfold laws_FnExactModWord.f
    rw [szWhole hl (by omega) (by omega), bind_some, if_neg hsz, if_neg (by omega), h1 _ (by omega), bind_some]
    dsimp only
    rw [h3 _ (by omega), bind_some, bind_some]
    dsimp only
    rw [h2 _ (by omega), bind_some, if_pos rfl, bind_some]
    dsimp only
    rw [h4 _ (by omega), bind_some, if_pos rfl]

/-! ### bits -/
theorem bitsOf_both (neg : Bool) (l : List Int) : ∃ r, Ev (fun k => impl_BitsOf.f k neg l) r ∧ Ev (fun k => spec_BitsOf.f k neg l) r := by
  obtain ⟨K1, h1⟩ := good_s neg l
  dsimp only at h1
  cases hg : goodB neg l with
  | false =>
    refine ⟨0, ⟨0, fun k _ => ?_⟩, ⟨K1, fun k hk => ?_⟩⟩
    · show impl_BitsOf.f k neg l = _
      unfold impl_BitsOf.f
      rw [good_i, bind_some, hg, if_neg (by simp)]
    · show spec_BitsOf.f k neg l = _
      unfold spec_BitsOf.f
      rw [h1 _ hk, bind_some, hg, if_neg (by simp)]
  | true =>
    obtain ⟨hl, ho, _, _⟩ := good_limbs hg
    by_cases hn : l = []
    · subst hn
      refine ⟨0, ⟨0, fun k _ => ?_⟩, ⟨K1, fun k hk => ?_⟩⟩
      · show impl_BitsOf.f k neg [] = _
        unfold impl_BitsOf.f impl_bitsW.f
        rw [good_i, bind_some, hg, if_pos rfl, if_pos (by simp), bind_some]
      · show spec_BitsOf.f k neg [] = _
        unfold spec_BitsOf.f spec_l2Length.f
        rw [h1 _ hk, bind_some, hg, if_pos rfl, if_pos (by simp), bind_some]
    · have hpos : 0 < l.length := by cases l with
        | nil => exact absurd rfl hn
        | cons => simp
      have e : wrap64 ((l.length : Int) - 1) = ((l.length - 1 : Nat) : Int) := by rw [w64 (by omega) (by omega)]; omega
      have h2 : l.length - 1 < l.length := by omega
      have hx := ho l[l.length - 1] (List.getElem_mem h2)
      obtain ⟨n, hn2⟩ := Int.eq_ofNat_of_zero_le hx.1
      obtain ⟨K2, k2⟩ := l1Bits (n := n) (by omega)
      dsimp only at k2
      refine ⟨wrap64 ((wrap64 (28 * ((l.length - 1 : Nat) : Int))) + (nb n : Int)), ⟨1, fun k hk => ?_⟩, ⟨K1 + K2, fun k hk => ?_⟩⟩
      · show impl_BitsOf.f k neg l = _
        obtain ⟨k, rfl⟩ : ∃ j, k = j + 1 := ⟨k - 1, by omega⟩
        unfold impl_BitsOf.f impl_bitsW.f
        rw [good_i, bind_some, hg, if_pos rfl, if_neg (by omega), e, if_pos (by omega), if_pos (by omega), rd_getElem h2, hn2, u64_id (by omega) (by omega), len (by omega), bind_some, bind_some]
      · show spec_BitsOf.f k neg l = _
        unfold spec_BitsOf.f spec_l2Length.f
        rw [h1 _ (by omega), bind_some, hg, if_pos rfl, if_neg (by omega), e, if_pos (by omega), if_pos (by omega), rd_getElem h2, hn2, k2 _ (by omega), bind_some, bind_some]

theorem bitsOf : ∀ (a0_0 : Bool) (l0_1 : List Int), l0_1.length ≤ 9223372036854775807 → (∀ x ∈ l0_1, (Lit.int .i64 x).wf = true) → ∃ k, laws_FnExactBitsOf.f k a0_0 l0_1 = some true := by
  intro neg l hl _
  by_cases hsz : (1048576 : Int) - (l.length : Int) < 0
  · refine ⟨0, ?_⟩
    unfold laws_FnExactBitsOf.f
    rw [szWhole hl (by omega) (by omega), bind_some, if_pos hsz, if_pos (by omega)]
  · obtain ⟨K1, h1⟩ := toWhole (neg := neg) (l := l) (by omega)
    obtain ⟨r, ⟨K2, h2⟩, ⟨K3, h3⟩⟩ := bitsOf_both neg l
    obtain ⟨K4, h4⟩ := eqWhole_self neg l (by omega)
    dsimp only at h1 h2 h3 h4
    refine ⟨K1 + K2 + K3 + K4, ?_⟩
    unfold laws_FnExactBitsOf.f
    rw [szWhole hl (by omega) (by omega), bind_some, if_neg hsz, if_neg (by omega), h1 _ (by omega), bind_some]
    dsimp only
    rw [h3 _ (by omega), bind_some, bind_some]
    dsimp only
    rw [h2 _ (by omega), bind_some, if_pos rfl, bind_some]
    dsimp only
    rw [h4 _ (by omega), bind_some, if_pos rfl]

/-! ### compared -/
/-- Two sizes compared: by length, then from the last limb on. -/
def cmpI (a b : Int) : Int := if a < b then -1 else if a > b then 1 else 0
theorem cmpInt (a b : Int) : cmp_Compare_int.f a b = some (cmpI a b) := by
  unfold cmp_Compare_int.f cmp_isNaN_int.f cmpI
  rw [bind_some, bind_some, if_neg (by simp), if_neg (by simp)]
  split
  · rfl
  · split <;> rfl
def cmpFrom (a b : List Int) : Nat → Int
  | 0 => 0
  | i + 1 => if a.getD i 0 = b.getD i 0 then cmpFrom a b i else cmpI (a.getD i 0) (b.getD i 0)
def cmpL (a b : List Int) : Int := if a.length = b.length then cmpFrom a b a.length else cmpI a.length b.length

theorem rd_nat (l : List Int) (i : Nat) : rd l (i : Int) = l.getD i 0 := by unfold rd; rw [Int.toNat_natCast]

theorem cmp_i_from (a b : List Int) (h : a.length = b.length) (hl : a.length ≤ 4611686018427387904) : ∀ i, i ≤ a.length → ∀ K, i < K → impl_sizeCmp.l0 K a b ((i : Int) - 1) = some (cmpFrom a b i)
  | 0, _, K, hK => by
    obtain ⟨K, rfl⟩ : ∃ j, K = j + 1 := ⟨K - 1, by omega⟩
    simp only [impl_sizeCmp.l0]; rw [if_neg (by omega)]; rfl
  | i + 1, hi, K, hK => by
    obtain ⟨K, rfl⟩ : ∃ j, K = j + 1 := ⟨K - 1, by omega⟩
    simp only [impl_sizeCmp.l0]
    have e : (((i + 1 : Nat) : Int) - 1) = (i : Int) := by omega
    rw [e, if_pos (by omega), if_pos (by omega), if_pos (by omega), if_pos (by omega), rd_nat, rd_nat, w64 (n := (i : Int) - 1) (by omega) (by omega)]
    unfold cmpFrom
    by_cases he : a.getD i 0 = b.getD i 0
    · rw [if_pos he, if_pos he]; exact cmp_i_from a b h hl i (by omega) K (by omega)
    · rw [if_neg he, if_neg he, cmpInt]; rfl
theorem cmp_s_from (a b : List Int) (h : a.length = b.length) (hl : a.length ≤ 4611686018427387904) : ∀ i, i ≤ a.length → ∀ K, i < K → spec_l2Cmp.l0 K a b ((i : Int) - 1) = some (cmpFrom a b i)
  | 0, _, K, hK => by
    obtain ⟨K, rfl⟩ : ∃ j, K = j + 1 := ⟨K - 1, by omega⟩
    simp only [spec_l2Cmp.l0]; rw [if_neg (by omega)]; rfl
  | i + 1, hi, K, hK => by
    obtain ⟨K, rfl⟩ : ∃ j, K = j + 1 := ⟨K - 1, by omega⟩
    simp only [spec_l2Cmp.l0]
    have e : (((i + 1 : Nat) : Int) - 1) = (i : Int) := by omega
    rw [e, if_pos (by omega), if_pos (by omega), if_pos (by omega), if_pos (by omega), rd_nat, rd_nat, w64 (n := (i : Int) - 1) (by omega) (by omega)]
    unfold cmpFrom cmpI
    by_cases h1 : a.getD i 0 < b.getD i 0
    · rw [if_pos h1, if_neg (by omega), if_pos h1]
    · rw [if_neg h1]
      by_cases h2 : a.getD i 0 > b.getD i 0
      · rw [if_pos h2, if_neg (by omega), if_neg h1, if_pos h2]
      · rw [if_neg h2, if_pos (by omega)]; exact cmp_s_from a b h hl i (by omega) K (by omega)

theorem sizeCmp_i (a b : List Int) (ha : a.length ≤ 4611686018427387904) : Ev (fun k => impl_sizeCmp.f k a b) (cmpL a b) := by
  refine ⟨a.length + 1, fun K hK => ?_⟩
  show impl_sizeCmp.f K a b = _
  unfold impl_sizeCmp.f cmpL
  by_cases h : a.length = b.length
  · rw [if_pos (by omega), if_pos h, w64 (by omega) (by omega)]
    exact cmp_i_from a b h ha a.length (Nat.le_refl _) K (by omega)
  · rw [if_neg (by omega), if_neg h, cmpInt]; rfl
theorem sizeCmp_s (a b : List Int) (ha : a.length ≤ 4611686018427387904) : Ev (fun k => spec_l2Cmp.f k a b) (cmpL a b) := by
  refine ⟨a.length + 1, fun K hK => ?_⟩
  show spec_l2Cmp.f K a b = _
  unfold spec_l2Cmp.f cmpL
  by_cases h : a.length = b.length
  · rw [if_pos (by omega), if_pos h, w64 (by omega) (by omega)]
    exact cmp_s_from a b h ha a.length (Nat.le_refl _) K (by omega)
  · rw [if_neg (by omega), if_neg h]
    unfold cmpI
    by_cases h1 : (a.length : Int) < (b.length : Int)
    · rw [if_pos h1, if_pos h1]
    · rw [if_neg h1, if_neg h1, if_pos (by omega)]

/-- Whole numbers compared. -/
def cmpW (n1 : Bool) (a : List Int) (n2 : Bool) (b : List Int) : Int := if n1 = n2 then (if n1 then cmpL b a else cmpL a b) else (if n1 then -1 else 1)
theorem cmpW_both (n1 : Bool) (a : List Int) (n2 : Bool) (b : List Int) (ha : a.length ≤ 1048576) (hb : b.length ≤ 1048576) :
    Ev (fun k => impl_cmpW.f k n1 a n2 b) (cmpW n1 a n2 b) ∧ Ev (fun k => spec_l2Compare.f k n1 a n2 b) (cmpW n1 a n2 b) := by
  obtain ⟨K1, h1⟩ := sizeCmp_i a b (by omega)
  obtain ⟨K2, h2⟩ := sizeCmp_i b a (by omega)
  obtain ⟨K3, h3⟩ := sizeCmp_s a b (by omega)
  obtain ⟨K4, h4⟩ := sizeCmp_s b a (by omega)
  dsimp only at h1 h2 h3 h4
  refine ⟨⟨K1 + K2, fun k hk => ?_⟩, ⟨K3 + K4 + 2, fun k hk => ?_⟩⟩
  · show impl_cmpW.f k n1 a n2 b = _
    unfold impl_cmpW.f cmpW
    rw [h1 k (by omega), h2 k (by omega)]
    cases n1 <;> cases n2 <;> simp
  · show spec_l2Compare.f k n1 a n2 b = _
    obtain ⟨k, rfl⟩ : ∃ j, k = j + 2 := ⟨k - 2, by omega⟩
    unfold spec_l2Compare.f cmpW
    have g3 := h3 k (by omega)
    have g4 := h4 k (by omega)
    cases n1 <;> cases n2 <;> simp [spec_l2Compare.j0, spec_l2Compare.j1, g3, g4]

theorem cmpWholes_both (n1 : Bool) (a : List Int) (n2 : Bool) (b : List Int) (ha : a.length ≤ 1048576) (hb : b.length ≤ 1048576) :
    ∃ r, Ev (fun k => impl_CmpWholes.f k n1 a n2 b) r ∧ Ev (fun k => spec_CmpWholes.f k n1 a n2 b) r := by
  obtain ⟨K1, h1⟩ := good_s n1 a
  obtain ⟨K2, h2⟩ := good_s n2 b
  obtain ⟨⟨K3, h3⟩, ⟨K4, h4⟩⟩ := cmpW_both n1 a n2 b ha hb
  dsimp only at h1 h2 h3 h4
  cases g1 : goodB n1 a with
  | false =>
    refine ⟨0, ⟨0, fun k _ => ?_⟩, ⟨K1 + 1, fun k hk => ?_⟩⟩
    · show impl_CmpWholes.f k n1 a n2 b = _
      unfold impl_CmpWholes.f
      rw [good_i, bind_some, g1, if_neg (by simp)]
    · show spec_CmpWholes.f k n1 a n2 b = _
      obtain ⟨k, rfl⟩ : ∃ j, k = j + 1 := ⟨k - 1, by omega⟩
      unfold spec_CmpWholes.f
      rw [h1 _ (by omega), bind_some, g1, if_neg (by simp)]
      simp only [spec_CmpWholes.j0]; rfl
  | true =>
    cases g2 : goodB n2 b with
    | false =>
      refine ⟨0, ⟨0, fun k _ => ?_⟩, ⟨K1 + K2 + 1, fun k hk => ?_⟩⟩
      · show impl_CmpWholes.f k n1 a n2 b = _
        unfold impl_CmpWholes.f
        rw [good_i, bind_some, g1, if_pos rfl, good_i, bind_some, g2, if_neg (by simp)]
      · show spec_CmpWholes.f k n1 a n2 b = _
        obtain ⟨k, rfl⟩ : ∃ j, k = j + 1 := ⟨k - 1, by omega⟩
        unfold spec_CmpWholes.f
        rw [h1 _ (by omega), bind_some, g1, if_pos rfl, h2 _ (by omega), bind_some, g2]
        simp only [spec_CmpWholes.j0]; rfl
    | true =>
      refine ⟨cmpW n1 a n2 b, ⟨K3, fun k hk => ?_⟩, ⟨K1 + K2 + K4 + 1, fun k hk => ?_⟩⟩
      · show impl_CmpWholes.f k n1 a n2 b = _
        unfold impl_CmpWholes.f
        rw [good_i, bind_some, g1, if_pos rfl, good_i, bind_some, g2, if_pos rfl, h3 k hk, bind_some]
      · show spec_CmpWholes.f k n1 a n2 b = _
        obtain ⟨k, rfl⟩ : ∃ j, k = j + 1 := ⟨k - 1, by omega⟩
        unfold spec_CmpWholes.f
        rw [h1 _ (by omega), bind_some, g1, if_pos rfl, h2 _ (by omega), bind_some, g2]
        simp only [spec_CmpWholes.j0]
        rw [if_neg (by simp)]
        unfold spec_l2In.f
        rw [bind_some, bind_some]
        dsimp only
        rw [h4 k (by omega), bind_some]

theorem cmpWholes : ∀ (a0_0 : Bool) (l0_1 : List Int) (a1_0 : Bool) (l1_1 : List Int), l0_1.length ≤ 9223372036854775807 → (∀ x ∈ l0_1, (Lit.int .i64 x).wf = true) →
    l1_1.length ≤ 9223372036854775807 → (∀ x ∈ l1_1, (Lit.int .i64 x).wf = true) → ∃ k, laws_FnExactCmpWholes.f k a0_0 l0_1 a1_0 l1_1 = some true := by
  intro n1 a n2 b ha _ hb _
  by_cases h1 : (1048576 : Int) - (a.length : Int) < 0
  · refine ⟨0, ?_⟩
    unfold laws_FnExactCmpWholes.f
    rw [szWhole ha (by omega) (by omega), bind_some, if_pos h1, if_pos (by omega)]
  · by_cases h2 : (1048576 : Int) - (a.length : Int) - (b.length : Int) < 0
    · refine ⟨0, ?_⟩
      unfold laws_FnExactCmpWholes.f
      rw [szWhole ha (by omega) (by omega), bind_some, if_neg h1, if_neg (by omega), szWhole hb (by omega) (by omega), bind_some, if_pos h2, if_pos (by omega)]
    · obtain ⟨K1, k1⟩ := toWhole (neg := n1) (l := a) (by omega)
      obtain ⟨K2, k2⟩ := toWhole (neg := n2) (l := b) (by omega)
      obtain ⟨r, ⟨K3, k3⟩, ⟨K4, k4⟩⟩ := cmpWholes_both n1 a n2 b (by omega) (by omega)
      obtain ⟨K5, k5⟩ := eqWhole_self n1 a (by omega)
      obtain ⟨K6, k6⟩ := eqWhole_self n2 b (by omega)
      dsimp only at k1 k2 k3 k4 k5 k6
      refine ⟨K1 + K2 + K3 + K4 + K5 + K6, ?_⟩
      unfold laws_FnExactCmpWholes.f
      rw [szWhole ha (by omega) (by omega), bind_some, if_neg h1, if_neg (by omega), szWhole hb (by omega) (by omega), bind_some, if_neg h2, if_neg (by omega), k1 _ (by omega), k2 _ (by omega), bind_some, bind_some]
      dsimp only
      rw [k4 _ (by omega), bind_some, bind_some, bind_some]
      dsimp only
      rw [k3 _ (by omega), bind_some, if_pos rfl, bind_some]
      dsimp only
      rw [k5 _ (by omega), bind_some, if_pos rfl, bind_some]
      dsimp only
      rw [k6 _ (by omega), bind_some, if_pos rfl]

end Go.Proofs.Ytajlgfjmocgoeac.LawsC

/- The laws' own small functions: sizes told, copies made, lists compared, marked and held. -/
import Derived.Test.YtajlgfjmocgoeadModel2
import Derived.Test.YtajlgfjmocgoeadWord
namespace Go.Proofs.Ytajlgfjmocgoead.LawKit
open Go.RowKit Go.Proofs.YtajlgfjmocgoeadW.PrintWords Go.Proofs.YtajlgfjmocgoeadW.PrintLast Go.Proofs.YtajlgfjmocgoeadW.PrintMore Go.Proofs.Ytajlgfjmocgoead.Lib Go.Proofs.Ytajlgfjmocgoead.M

theorem Ev.get {α : Type} {g : Nat → Option α} {r : α} (h : Ev g r) : ∃ K, ∀ k, K ≤ k → g k = some r := h
theorem Ev.mk {α : Type} {g : Nat → Option α} {r : α} (K : Nat) (h : ∀ k, K ≤ k → g k = some r) : Ev g r := ⟨K, h⟩

theorem szIntS {l : List Int} {a : Int} (hl : l.length ≤ 9223372036854775807) (h0 : 0 ≤ a) (h1 : a ≤ 1048576) : laws_szIntS.f l a = some (if a - (l.length : Int) < 0 then -1 else a - (l.length : Int)) := by
  unfold laws_szIntS.f
  rw [w64 (by omega) (by omega)]
  split <;> rfl

theorem rd_getElem {l : List Int} {i : Nat} (h : i < l.length) : rd l (i : Int) = l[i] := by
  unfold rd
  rw [Int.toNat_natCast]
  simp [h]

/-! ### copies -/
theorem toIntS_from (l : List Int) (hl : l.length ≤ 35184372088832) : ∀ (d i : Nat) (out : List Int), i + d = l.length → out.length = l.length → out.take i = l.take i →
    ∀ K, d < K → laws_toIntS.l0 K l out (i : Int) = some l
  | 0, i, out, hi, ho, ht, K, hK => by
    obtain ⟨K, rfl⟩ : ∃ j, K = j + 1 := ⟨K - 1, by omega⟩
    simp only [laws_toIntS.l0]
    rw [if_neg (by omega)]
    rw [List.take_of_length_le (by omega), List.take_of_length_le (by omega)] at ht
    rw [ht]
  | d + 1, i, out, hi, ho, ht, K, hK => by
    obtain ⟨K, rfl⟩ : ∃ j, K = j + 1 := ⟨K - 1, by omega⟩
    simp only [laws_toIntS.l0]
    have hlt : i < l.length := by omega
    rw [if_pos (by omega), if_pos (by omega), if_pos (by omega), w64 (n := (i : Int) + 1) (by omega) (by omega), Int.toNat_natCast, rd_getElem hlt]
    have e : ((i : Int) + 1) = ((i + 1 : Nat) : Int) := by omega
    rw [e]
    refine toIntS_from l hl d (i + 1) (out.set i l[i]) (by omega) (by simpa using ho) ?_ K (by omega)
    rw [List.take_succ_eq_append_getElem (by simpa using (by omega : i < out.length)), List.take_succ_eq_append_getElem hlt]
    rw [List.take_set, List.getElem_set_self]
    rw [List.set_eq_of_length_le (by simp; omega), ht]

theorem toIntS {l : List Int} (hl : l.length ≤ 35184372088832) : Ev (fun k => laws_toIntS.f k l) l := by
  refine ⟨l.length + 1, fun K hK => ?_⟩
  show laws_toIntS.f K l = some l
  unfold laws_toIntS.f
  rw [if_pos (by omega), Int.toNat_natCast, if_pos hl]
  exact toIntS_from l hl l.length 0 (List.replicate l.length 0) (by omega) (by simp) (by simp) K (by omega)

/-! ### compared -/
theorem eqIntS_from (a b : List Int) (hl : a.length = b.length) (ha : a.length ≤ 4611686018427387904) : ∀ (d i : Nat), i + d = a.length → a.take i = b.take i →
    ∀ K, d < K → laws_eqIntS.l0 K a b (i : Int) = some (decide (a = b))
  | 0, i, hi, ht, K, hK => by
    obtain ⟨K, rfl⟩ : ∃ j, K = j + 1 := ⟨K - 1, by omega⟩
    simp only [laws_eqIntS.l0]
    rw [if_neg (by omega)]
    rw [List.take_of_length_le (by omega), List.take_of_length_le (by omega)] at ht
    rw [decide_eq_true ht]
  | d + 1, i, hi, ht, K, hK => by
    obtain ⟨K, rfl⟩ : ∃ j, K = j + 1 := ⟨K - 1, by omega⟩
    simp only [laws_eqIntS.l0]
    have h1 : i < a.length := by omega
    have h2 : i < b.length := by omega
    rw [if_pos (by omega), if_pos (by omega), if_pos (by omega), rd_getElem h1, rd_getElem h2]
    by_cases he : a[i] = b[i]
    · rw [if_pos he, w64 (n := (i : Int) + 1) (by omega) (by omega)]
      have e : ((i : Int) + 1) = ((i + 1 : Nat) : Int) := by omega
      rw [e]
      refine eqIntS_from a b hl ha d (i + 1) (by omega) ?_ K (by omega)
      rw [List.take_succ_eq_append_getElem h1, List.take_succ_eq_append_getElem h2, ht, he]
    · rw [if_neg he]
      have : a ≠ b := by rintro rfl; exact he rfl
      rw [decide_eq_false this]

theorem eqIntS (a b : List Int) (ha : a.length ≤ 4611686018427387904) : Ev (fun k => laws_eqIntS.f k a b) (decide (a = b)) := by
  refine ⟨a.length + 1, fun K hK => ?_⟩
  show laws_eqIntS.f K a b = _
  unfold laws_eqIntS.f
  by_cases hl : a.length = b.length
  · rw [if_pos (by omega)]
    exact eqIntS_from a b hl ha a.length 0 (by omega) (by simp) K (by omega)
  · rw [if_neg (by omega)]
    have : a ≠ b := by rintro rfl; exact hl rfl
    rw [decide_eq_false this]
theorem eqIntS_self (a : List Int) (ha : a.length ≤ 4611686018427387904) : Ev (fun k => laws_eqIntS.f k a a) true := by
  have := eqIntS a a ha
  rwa [decide_eq_true rfl] at this

/-! ### marked and held -/
/-- The numbers from k on, n of them. -/
def ramp (k : Int) : Nat → List Int
  | 0 => []
  | n + 1 => k :: ramp (k + 1) n
theorem ramp_length : ∀ (k : Int) (n : Nat), (ramp k n).length = n
  | _, 0 => rfl
  | k, n + 1 => by simp [ramp, ramp_length]
theorem ramp_get : ∀ (k : Int) (n i : Nat) (h : i < (ramp k n).length), (ramp k n)[i] = k + i
  | _, 0, i, h => by simp [ramp] at h
  | k, n + 1, 0, h => by simp [ramp]
  | k, n + 1, i + 1, h => by
    show (ramp (k + 1) n)[i]'(by simpa [ramp] using h) = _
    rw [ramp_get (k + 1) n i]; omega

theorem mark_from (n : Nat) (k0 : Int) (h0 : 0 ≤ k0) (h1 : k0 + n ≤ 4611686018427387904) : ∀ (d i : Nat) (l : List Int), i + d = n → l.length = n → l.take i = (ramp k0 n).take i →
    ∀ K, d < K → laws_markIntS.l0 K l (k0 + i) (i : Int) = some (k0 + n, ramp k0 n)
  | 0, i, l, hi, hl, ht, K, hK => by
    obtain ⟨K, rfl⟩ : ∃ j, K = j + 1 := ⟨K - 1, by omega⟩
    simp only [laws_markIntS.l0]
    rw [if_neg (by omega)]
    have hr := ramp_length k0 n
    rw [List.take_of_length_le (by omega), List.take_of_length_le (by omega)] at ht
    rw [ht]
    have : i = n := by omega
    rw [this]
  | d + 1, i, l, hi, hl, ht, K, hK => by
    obtain ⟨K, rfl⟩ : ∃ j, K = j + 1 := ⟨K - 1, by omega⟩
    simp only [laws_markIntS.l0]
    have hr := ramp_length k0 n
    rw [if_pos (by omega), if_pos (by omega), w64 (n := k0 + (i : Int) + 1) (by omega) (by omega), w64 (n := (i : Int) + 1) (by omega) (by omega), Int.toNat_natCast]
    have e : ((i : Int) + 1) = ((i + 1 : Nat) : Int) := by omega
    have e2 : k0 + (i : Int) + 1 = k0 + ((i + 1 : Nat) : Int) := by omega
    rw [e, e2]
    refine mark_from n k0 h0 h1 d (i + 1) (l.set i (k0 + i)) (by omega) (by simpa using hl) ?_ K (by omega)
    rw [List.take_succ_eq_append_getElem (by simpa using (by omega : i < l.length)), List.take_succ_eq_append_getElem (by omega)]
    rw [List.take_set, List.getElem_set_self, ramp_get]
    rw [List.set_eq_of_length_le (by simp; omega), ht]

theorem mark {l : List Int} {k0 : Int} (h0 : 0 ≤ k0) (h1 : k0 + l.length ≤ 4611686018427387904) : Ev (fun k => laws_markIntS.f k l k0) (k0 + l.length, ramp k0 l.length) := by
  refine ⟨l.length + 1, fun K hK => ?_⟩
  show laws_markIntS.l0 K l k0 0 = _
  have := mark_from l.length k0 h0 h1 l.length 0 l (by omega) rfl (by simp) K (by omega)
  simpa using this

theorem held_from (n : Nat) (k0 : Int) (h0 : 0 ≤ k0) (h1 : k0 + n ≤ 4611686018427387904) : ∀ (d i : Nat), i + d = n →
    ∀ K, d < K → laws_heldIntS.l0 K (ramp k0 n) (k0 + i) (i : Int) = some (k0 + n)
  | 0, i, hi, K, hK => by
    obtain ⟨K, rfl⟩ : ∃ j, K = j + 1 := ⟨K - 1, by omega⟩
    simp only [laws_heldIntS.l0]
    rw [ramp_length, if_neg (by omega)]
    have : i = n := by omega
    rw [this]
  | d + 1, i, hi, K, hK => by
    obtain ⟨K, rfl⟩ : ∃ j, K = j + 1 := ⟨K - 1, by omega⟩
    simp only [laws_heldIntS.l0]
    have hr := ramp_length k0 n
    rw [rd_getElem (by omega), ramp_get, hr, if_pos (by omega), if_pos (by omega), if_pos rfl, w64 (n := k0 + (i : Int) + 1) (by omega) (by omega), w64 (n := (i : Int) + 1) (by omega) (by omega)]
    have e : ((i : Int) + 1) = ((i + 1 : Nat) : Int) := by omega
    have e2 : k0 + (i : Int) + 1 = k0 + ((i + 1 : Nat) : Int) := by omega
    rw [e, e2]
    exact held_from n k0 h0 h1 d (i + 1) (by omega) K (by omega)

theorem held {n : Nat} {k0 : Int} (h0 : 0 ≤ k0) (h1 : k0 + n ≤ 4611686018427387904) : Ev (fun k => laws_heldIntS.f k (ramp k0 n) k0) (k0 + n) := by
  refine ⟨n + 1, fun K hK => ?_⟩
  show laws_heldIntS.l0 K (ramp k0 n) k0 0 = _
  have := held_from n k0 h0 h1 n 0 (by omega) K (by omega)
  simpa using this

/-! ### the same of whole numbers -/
theorem szWhole {neg : Bool} {l : List Int} {a : Int} (hl : l.length ≤ 9223372036854775807) (h0 : 0 ≤ a) (h1 : a ≤ 1048576) : laws_szWhole.f neg l a = some (if a - (l.length : Int) < 0 then -1 else a - (l.length : Int)) := by
  unfold laws_szWhole.f
  rw [szIntS hl h0 h1, bind_some]
  by_cases h : a - (l.length : Int) < 0
  · rw [if_pos h, if_pos (by omega)]
  · rw [if_neg h, if_neg (by omega)]
theorem toWhole {neg : Bool} {l : List Int} (hl : l.length ≤ 35184372088832) : Ev (fun k => laws_toWhole.f k neg l) (neg, l) := by
  obtain ⟨K, h⟩ := toIntS hl
  dsimp only at h
  refine ⟨K, fun k hk => ?_⟩
  show laws_toWhole.f k neg l = _
  unfold laws_toWhole.f
  rw [h k hk, bind_some]
theorem eqWhole (n1 n2 : Bool) (a b : List Int) (ha : a.length ≤ 4611686018427387904) : Ev (fun k => laws_eqWhole.f k n1 a n2 b) (decide (n1 = n2 ∧ a = b)) := by
  obtain ⟨K, h⟩ := eqIntS a b ha
  dsimp only at h
  refine ⟨K, fun k hk => ?_⟩
  show laws_eqWhole.f k n1 a n2 b = _
  unfold laws_eqWhole.f
  by_cases hn : n1 = n2
  · subst hn
    rw [if_neg (by simp), h k hk, bind_some]
    by_cases he : a = b
    · simp [he]
    · simp [he]
  · rw [if_pos (by simpa using hn)]
    simp [hn]
theorem eqWhole_self (n : Bool) (a : List Int) (ha : a.length ≤ 4611686018427387904) : Ev (fun k => laws_eqWhole.f k n a n a) true := by
  have := eqWhole n n a a ha
  rwa [decide_eq_true ⟨rfl, rfl⟩] at this
theorem markWhole {neg : Bool} {l : List Int} {k0 : Int} (h0 : 0 ≤ k0) (h1 : k0 + l.length ≤ 4611686018427387904) : Ev (fun k => laws_markWhole.f k neg l k0) (k0 + l.length, ramp k0 l.length) := by
  obtain ⟨K, h⟩ := mark (l := l) h0 h1
  dsimp only at h
  refine ⟨K, fun k hk => ?_⟩
  show laws_markWhole.f k neg l k0 = _
  unfold laws_markWhole.f
  rw [h k hk, bind_some]
theorem heldWhole {neg : Bool} {n : Nat} {k0 : Int} (h0 : 0 ≤ k0) (h1 : k0 + n ≤ 4611686018427387904) : Ev (fun k => laws_heldWhole.f k neg (ramp k0 n) k0) (k0 + n) := by
  obtain ⟨K, h⟩ := held (n := n) h0 h1
  dsimp only at h
  refine ⟨K, fun k hk => ?_⟩
  show laws_heldWhole.f k neg (ramp k0 n) k0 = _
  unfold laws_heldWhole.f
  rw [h k hk, bind_some, if_neg (by omega)]

end Go.Proofs.Ytajlgfjmocgoead.LawKit

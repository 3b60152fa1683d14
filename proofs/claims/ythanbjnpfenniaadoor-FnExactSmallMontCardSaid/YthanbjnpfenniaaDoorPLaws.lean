/- What the laws' small functions answer: copies, comparisons, marks. -/
import Derived.Test.YthanbjnpfenniaaDoorPPow
import Derived.Test.YthanbjnpfenniaaDoorEqA
namespace Go.Proofs.YthanbjnpfenniaaDoor.Fw
open Go Go.RowKit
set_option linter.unusedVariables false

theorem szIntS_ret {n : Nat} (hn : Big + 1 ≤ n) {l : List Int} {a : Int} (hl : l.length ≤ 9223372036854775807) (h0 : 0 ≤ a) (h1 : a ≤ 1048576) : c_laws_szIntS (run tb orc n) l a = some (if a - (l.length : Int) < 0 then (-1 : Int) else a - (l.length : Int)) := by
  obtain ⟨n, rfl, hn⟩ := up hn
  rw [laws_szIntS_eq]; unfold laws_szIntS_f laws_szIntS_x
  rw [w64 (by omega) (by omega)]
  split <;> simp_all
theorem toIntS_ret {n : Nat} (hn : Big + 1 ≤ n) {l : List Int} (hl : l.length < 1099511627776) : c_laws_toIntS (run tb orc n) l = some l := by
  obtain ⟨n, rfl, hn⟩ := up hn
  have hb := big_ge
  rw [laws_toIntS_eq]; unfold laws_toIntS_f laws_toIntS_x
  rw [if_pos (by omega), nat_i, if_pos (limB_lt hl)]
  refine iter_eq (G := laws_toIntS_g1 (run tb orc n) n l) (fun _ => some l) (fun v => ∃ i : Nat, i ≤ l.length ∧ v.1 = i ∧ v.2.length = l.length ∧ v.2.take i = l.take i) (fun v => l.length - v.1.toNat) ?_ n _ ⟨0, by omega, rfl, by simp, by simp⟩ (by simp; omega)
  rintro ⟨j, m⟩ self ⟨i, hi, hj, hm, ht⟩ hs
  simp only at hj hm ht hs
  subst hj
  show laws_toIntS_x1 _ _ _ _ = _
  unfold laws_toIntS_x1
  dsimp only
  by_cases h : i < l.length
  · rw [if_pos (by omega), if_pos (by omega), if_pos (by omega), if_pos (by omega), if_pos (by omega), w64 (by omega) (by omega), nat_i, ni1]
    exact hs _ ⟨i + 1, by omega, rfl, by simpa using hm, take_set_succ (by omega) (by omega) ht (getD_get h)⟩ (by simp only [nat_i]; omega)
  · rw [if_neg (by omega)]
    rw [List.take_of_length_le (by omega), List.take_of_length_le (by omega)] at ht
    rw [ht]
theorem eqIntS_ret {n : Nat} (hn : Big + 1 ≤ n) {a b : List Int} (ha : a.length < 1099511627776) : c_laws_eqIntS (run tb orc n) a b = some (decide (a = b)) := by
  obtain ⟨n, rfl, hn⟩ := up hn
  have hb := big_ge
  rw [laws_eqIntS_eq]; unfold laws_eqIntS_f laws_eqIntS_x
  by_cases hl : a.length = b.length
  · rw [if_pos (by omega)]
    refine iter_eq (G := laws_eqIntS_g1 (run tb orc n) n a b) (fun _ => some (decide (a = b))) (fun v => ∃ i : Nat, i ≤ a.length ∧ v = i ∧ a.take i = b.take i) (fun v => a.length - v.toNat) ?_ n _ ⟨0, by omega, rfl, by simp⟩ (by simp; omega)
    rintro j self ⟨i, hi, hj, ht⟩ hs
    subst hj
    show laws_eqIntS_x1 _ _ _ _ _ = _
    unfold laws_eqIntS_x1
    by_cases h : i < a.length
    · have h2 : i < b.length := by omega
      rw [if_pos (by omega), if_pos (by omega), if_pos (by omega), if_pos (by omega), if_pos (by omega), nat_i, getD_get h, getD_get h2]
      by_cases he : a[i] = b[i]
      · rw [if_pos he, w64 (by omega) (by omega), ni1]
        exact hs _ ⟨i + 1, by omega, rfl, by rw [List.take_succ_eq_append_getElem h, List.take_succ_eq_append_getElem h2, ht, he]⟩ (by simp only [nat_i]; omega)
      · rw [if_neg he]
        have : a ≠ b := by rintro rfl; exact he rfl
        rw [decide_eq_false this]
    · rw [if_neg (by omega)]
      rw [List.take_of_length_le (by omega), List.take_of_length_le (by omega)] at ht
      rw [decide_eq_true ht]
  · rw [if_neg (by omega)]
    have : a ≠ b := by rintro rfl; exact hl rfl
    rw [decide_eq_false this]
theorem heldIntS_ret {n : Nat} (hn : Big + 1 ≤ n) {m : Nat} {k0 : Int} (h0 : 0 ≤ k0) (h1 : k0 + m ≤ 1099511627776) : c_laws_heldIntS (run tb orc n) (ramp k0 m) k0 = some ((k0 + m : Int)) := by
  obtain ⟨n, rfl, hn⟩ := up hn
  have hb := big_ge
  have hr := ramp_length k0 m
  rw [laws_heldIntS_eq]; unfold laws_heldIntS_f laws_heldIntS_x
  refine iter_eq (G := laws_heldIntS_g1 (run tb orc n) n (ramp k0 m)) (fun _ => some (k0 + (m : Int))) (fun v => ∃ i : Nat, i ≤ m ∧ v.1 = k0 + i ∧ v.2 = i) (fun v => m - v.2.toNat) ?_ n _ ⟨0, by omega, by simp, rfl⟩ (by simp; omega)
  rintro ⟨k, j⟩ self ⟨i, hi, hk, hj⟩ hs
  simp only at hk hj hs
  subst hk hj
  show laws_heldIntS_x1 _ _ _ _ = _
  unfold laws_heldIntS_x1
  dsimp only
  by_cases h : i < m
  · rw [if_pos (by omega), if_pos (by omega), if_pos (by omega), nat_i, getD_get (by omega), ramp_get, if_pos rfl, w64 (by omega) (by omega), w64 (by omega) (by omega), ni1, Int.add_assoc, ni1]
    exact hs _ ⟨i + 1, by omega, rfl, rfl⟩ (by simp only [nat_i]; omega)
  · rw [if_neg (by omega)]
    have e : i = m := by omega
    rw [e]
end Go.Proofs.YthanbjnpfenniaaDoor.Fw

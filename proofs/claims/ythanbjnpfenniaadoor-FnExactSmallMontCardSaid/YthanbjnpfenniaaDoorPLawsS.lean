/- What the laws' small functions of spaces and rows answer: copies, comparisons, sizes. -/
import Derived.Test.YthanbjnpfenniaaDoorPLaws
import Derived.Test.YthanbjnpfenniaaDoorPPow
import Derived.Test.YthanbjnpfenniaaDoorEqAS
namespace Go.Proofs.YthanbjnpfenniaaDoor.Fw
open Go Go.RowKit
set_option linter.unusedVariables false

theorem eqIntS_self {n : Nat} (hn : Big + 1 ≤ n) {a : List Int} (ha : a.length < 1099511627776) : c_laws_eqIntS (run tb orc n) a a = some true := by
  rw [eqIntS_ret hn ha]; simp
theorem szSpace_ret {n : Nat} (hn : Big + 2 ≤ n) {m : Int} {l : List Int} {a : Int} (hl : l.length ≤ 9223372036854775807) (h0 : 0 ≤ a) (h1 : a ≤ 1048576) : c_laws_szSpace (run tb orc n) m l a = some (if a - (l.length : Int) < 0 then (-1 : Int) else a - (l.length : Int)) := by
  obtain ⟨n, rfl, hn⟩ := up hn
  rw [laws_szSpace_eq]; unfold laws_szSpace_f laws_szSpace_x
  rw [szIntS_ret (by omega) hl h0 h1]
  simp only [Option.bind_some]
  by_cases h : a - (l.length : Int) < 0
  · rw [if_pos h]; rfl
  · rw [if_neg h, if_neg h]
theorem toSpace_ret {n : Nat} (hn : Big + 2 ≤ n) {m : Int} {l : List Int} (hl : l.length < 1099511627776) : c_laws_toSpace (run tb orc n) m l = some (m, l) := by
  obtain ⟨n, rfl, hn⟩ := up hn
  rw [laws_toSpace_eq]; unfold laws_toSpace_f laws_toSpace_x
  rw [toIntS_ret (by omega) hl]; rfl
theorem eqSpace_self {n : Nat} (hn : Big + 2 ≤ n) {m : Int} {l : List Int} (hl : l.length < 1099511627776) : c_laws_eqSpace (run tb orc n) m l m l = some true := by
  obtain ⟨n, rfl, hn⟩ := up hn
  rw [laws_eqSpace_eq]; unfold laws_eqSpace_f laws_eqSpace_x
  rw [if_pos rfl, eqIntS_self (by omega) hl]; rfl
/-- How much rows hold. -/
def sumL : List (List Int) → Nat
  | [] => 0
  | x :: r => x.length + sumL r
theorem sumL_mem : ∀ {r : List (List Int)} {x : List Int}, x ∈ r → x.length ≤ sumL r
  | y :: r, x, h => by
    simp only [sumL]
    rcases List.mem_cons.1 h with rfl | h
    · omega
    · have := sumL_mem h; omega
theorem szSS_loop {n : Nat} (hn : Big + 1 ≤ n) {r : List (List Int)} (hr : ∀ x ∈ r, x.length ≤ 9223372036854775807) (hl : r.length < 1099511627776) : ∀ (d i : Nat) (L : Int), i + d = r.length → 0 ≤ L → L ≤ 1048576 → ∀ K, d < K →
    iterO (laws_szIntSS_g1 (run tb orc n) n r) K (L, (i : Int)) = some (if L - (sumL (r.drop i) : Int) < 0 then (-1 : Int) else L - (sumL (r.drop i) : Int))
  | 0, i, L, hi, h0, h1, K, hK => by
    obtain ⟨K, rfl⟩ : ∃ j, K = j + 1 := ⟨K - 1, by omega⟩
    show laws_szIntSS_x1 _ _ _ _ = _
    unfold laws_szIntSS_x1
    dsimp only
    have e : sumL (r.drop i) = 0 := by rw [List.drop_of_length_le (by omega)]; rfl
    rw [if_neg (by omega), e, if_neg (by omega)]; congr 1; omega
  | d + 1, i, L, hi, h0, h1, K, hK => by
    obtain ⟨K, rfl⟩ : ∃ j, K = j + 1 := ⟨K - 1, by omega⟩
    have hlt : i < r.length := by omega
    have hx := hr _ (List.getElem_mem hlt)
    have ih := fun L h0 h1 => szSS_loop hn hr hl d (i + 1) L (by omega) h0 h1 K (by omega)
    show laws_szIntSS_x1 _ _ _ _ = _
    unfold laws_szIntSS_x1
    dsimp only
    rw [if_pos (by omega), if_pos (by omega), if_pos (by omega), nat_i, getD_get hlt, szIntS_ret hn hx h0 h1]
    simp only [Option.bind_some]
    have e : sumL (r.drop i) = r[i].length + sumL (r.drop (i + 1)) := by rw [List.drop_eq_getElem_cons hlt]; rfl
    rw [e]
    by_cases c : L - (r[i].length : Int) < 0
    · rw [if_pos c, if_pos (by omega), if_pos (by omega)]
    · rw [if_neg c, if_neg c, w64 (n := (i : Int) + 1) (by omega) (by omega), ni1, ih _ (by omega) (by omega)]
      by_cases c2 : L - (r[i].length : Int) - (sumL (r.drop (i + 1)) : Int) < 0
      · rw [if_pos c2, if_pos (by omega)]
      · rw [if_neg c2, if_neg (by omega)]; congr 1; omega
/-- All that rows hold, with the rows themselves. -/
def totL (r : List (List Int)) : Nat := r.length + sumL r
theorem szRows_ret {n : Nat} (hn : Big + 3 ≤ n) {b : Bool} {r : List (List Int)} (hr : ∀ x ∈ r, x.length ≤ 9223372036854775807) (hl : r.length ≤ 9223372036854775807) {a : Int} (h0 : 0 ≤ a) (h1 : a ≤ 1048576) :
    c_laws_szRows (run tb orc n) b r a = some (if a - (totL r : Int) < 0 then (-1 : Int) else a - (totL r : Int)) := by
  obtain ⟨n, rfl, hn⟩ := up2 (k := 1) (by omega : Big + (1 + 2) ≤ n)
  have hb := big_ge
  rw [laws_szRows_eq]; unfold laws_szRows_f laws_szRows_x
  have key : c_laws_szIntSS (run tb orc (n + 1)) r a = some (if a - (totL r : Int) < 0 then (-1 : Int) else a - (totL r : Int)) := by
    rw [laws_szIntSS_eq]; unfold laws_szIntSS_f laws_szIntSS_x totL
    rw [w64 (n := a - (r.length : Int)) (by omega) (by omega)]
    by_cases c : a - (r.length : Int) < 0
    · rw [if_pos c, if_pos (by omega)]
    · rw [if_neg c]
      refine (szSS_loop (n := n) (by omega) hr (by omega) r.length 0 _ (by omega) (by omega) (by omega) n (by omega)).trans ?_
      rw [List.drop_zero]
      by_cases c2 : a - (r.length : Int) - (sumL r : Int) < 0
      · rw [if_pos c2, if_pos (by omega)]
      · rw [if_neg c2, if_neg (by omega)]; congr 1; omega
  rw [key]
  simp only [Option.bind_some]
  by_cases c : a - (totL r : Int) < 0
  · rw [if_pos c]; rfl
  · rw [if_neg c, if_neg c]
theorem toSS_ret {n : Nat} (hn : Big + 2 ≤ n) {r : List (List Int)} (hr : ∀ x ∈ r, x.length < 1099511627776) (hl : r.length < 1099511627776) : c_laws_toIntSS (run tb orc n) r = some r := by
  obtain ⟨n, rfl, hq⟩ := up hn
  have hb := big_ge
  rw [laws_toIntSS_eq]; unfold laws_toIntSS_f laws_toIntSS_x
  rw [if_pos (by omega), nat_i, if_pos (limB_lt hl)]
  refine iter_eq (G := laws_toIntSS_g1 (run tb orc n) n r) (fun _ => some r) (fun v => ∃ i : Nat, i ≤ r.length ∧ v.1 = i ∧ v.2.length = r.length ∧ v.2.take i = r.take i) (fun v => r.length - v.1.toNat) ?_ n _ ⟨0, by omega, rfl, by simp, by simp⟩ (by simp; omega)
  rintro ⟨j, m⟩ self ⟨i, hi, hj, hm, ht⟩ hs
  simp only at hj hm ht hs
  subst hj
  show laws_toIntSS_x1 _ _ _ _ = _
  unfold laws_toIntSS_x1
  dsimp only
  by_cases h : i < r.length
  · rw [if_pos (by omega), if_pos (by omega), if_pos (by omega), nat_i, getD_get h, toIntS_ret hq (hr _ (List.getElem_mem h))]
    simp only [Option.bind_some]
    rw [if_pos (by omega), if_pos (by omega), w64 (by omega) (by omega), ni1]
    exact hs _ ⟨i + 1, by omega, rfl, by simpa using hm, take_set_succ (by omega) (by omega) ht rfl⟩ (by simp only [nat_i]; omega)
  · rw [if_neg (by omega)]
    rw [List.take_of_length_le (by omega), List.take_of_length_le (by omega)] at ht
    rw [ht]
theorem toRows_ret {n : Nat} (hn : Big + 3 ≤ n) {b : Bool} {r : List (List Int)} (hr : ∀ x ∈ r, x.length < 1099511627776) (hl : r.length < 1099511627776) : c_laws_toRows (run tb orc n) b r = some (b, r) := by
  obtain ⟨n, rfl, hn⟩ := up hn
  rw [laws_toRows_eq]; unfold laws_toRows_f laws_toRows_x
  rw [toSS_ret (by omega) hr hl]; rfl
theorem eqSS_self {n : Nat} (hn : Big + 2 ≤ n) {r : List (List Int)} (hr : ∀ x ∈ r, x.length < 1099511627776) (hl : r.length < 1099511627776) : c_laws_eqIntSS (run tb orc n) r r = some true := by
  obtain ⟨n, rfl, hq⟩ := up hn
  have hb := big_ge
  rw [laws_eqIntSS_eq]; unfold laws_eqIntSS_f laws_eqIntSS_x
  rw [if_pos rfl]
  refine (all_idx (fun _ => true) (some true) (some false) (len := r.length) (G := laws_eqIntSS_g1 (run tb orc n) n r r) (fun self i hi => ?_) (fun self => ?_) r.length 0 (by omega) n (by omega)).trans ?_
  · show laws_eqIntSS_x1 _ _ _ _ _ = _
    unfold laws_eqIntSS_x1
    rw [if_pos (by omega), if_pos (by omega), if_pos (by omega), if_pos (by omega), if_pos (by omega), nat_i, getD_get hi, eqIntS_self hq (hr _ (List.getElem_mem hi)), w64 (by omega) (by omega), ni1]
    simp
  · show laws_eqIntSS_x1 _ _ _ _ _ = _
    unfold laws_eqIntSS_x1
    rw [if_neg (by omega)]
  · rw [if_pos (allN_iff.2 fun _ _ _ => rfl)]
theorem eqRows_self {n : Nat} (hn : Big + 3 ≤ n) {b : Bool} {r : List (List Int)} (hr : ∀ x ∈ r, x.length < 1099511627776) (hl : r.length < 1099511627776) : c_laws_eqRows (run tb orc n) b r b r = some true := by
  obtain ⟨n, rfl, hn⟩ := up hn
  rw [laws_eqRows_eq]; unfold laws_eqRows_f laws_eqRows_x
  rw [if_neg (by simp), eqSS_self (by omega) hr hl]; rfl
end Go.Proofs.YthanbjnpfenniaaDoor.Fw

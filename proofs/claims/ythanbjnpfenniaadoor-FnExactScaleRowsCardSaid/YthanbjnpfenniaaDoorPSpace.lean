/- Spaces and rows: whether they are good: both sides. -/
import Derived.Test.YthanbjnpfenniaaDoorPPoly
import Derived.Test.YthanbjnpfenniaaDoorEqS
import Derived.Test.YthanbjnpfenniaaDoorEqZ
namespace Go.Proofs.YthanbjnpfenniaaDoor.Fw
open Go Go.RowKit
set_option linter.unusedVariables false

noncomputable def spaceB (m : Int) (l : List Int) : Bool := powB m 2 16 && (basisB l && allN (fun i => decide ((l.getD i 0 - 1) % (2 * m) = 0)) 0 l.length)
structure SpaceOK (m : Int) (l : List Int) : Prop where
  pw : powB m 2 16 = true
  n : m = 2 ∨ m = 4 ∨ m = 8 ∨ m = 16
  bs : Basis l
  dv : ∀ p ∈ l, (p - 1) % (2 * m) = 0
theorem space_of {m : Int} {l : List Int} (h : spaceB m l = true) : SpaceOK m l := by
  unfold spaceB at h
  simp only [Bool.and_eq_true, allN_iff] at h
  obtain ⟨h1, h2, h3⟩ := h
  refine ⟨h1, powB_16 h1, basis_of h2, fun p hp => ?_⟩
  obtain ⟨i, hi, rfl⟩ := List.mem_iff_getElem.1 hp
  have := of_decide_eq_true (h3 i (Nat.zero_le _) (by omega))
  rwa [getD_get hi] at this
theorem Basis.rng {l : List Int} (h : Basis l) {p : Int} (hp : p ∈ l) : 2 ≤ p ∧ p ≤ 268435456 := (primeB_iff.1 (h.pr p hp)).1
theorem Basis.at {l : List Int} (h : Basis l) {i : Nat} (hi : i < l.length) : l.getD i 0 ∈ l := by rw [getD_get hi]; exact List.getElem_mem hi
theorem goodSpace_i {n : Nat} (hn : Big + 10 ≤ n) {m : Int} {l : List Int} (hl : l.length < 1099511627776) : c_impl_GoodSpace (run tb orc n) m l = some (spaceB m l) := by
  obtain ⟨n, rfl, hq⟩ := up3 (k := 7) (by omega : Big + (7 + 3) ≤ n)
  have hb := big_ge
  rw [impl_GoodSpace_eq]; unfold impl_GoodSpace_f impl_GoodSpace_x spaceB
  rw [isN_ret (by omega)]
  simp only [Option.bind_some]
  cases hw : powB m 2 16 with
  | false => simp
  | true =>
    have hc := powB_16 hw
    rw [if_pos rfl, basis_i (by omega) hl, Bool.true_and]
    simp only [Option.bind_some]
    cases hbs : basisB l with
    | false => simp
    | true =>
      have hB := basis_of hbs
      have w2 : wr .i64 (2 * m) = 2 * m := w64 (by omega) (by omega)
      rw [if_pos rfl, slices_ContainsFunc_int_int_impl_GoodSpace_1_eq, Bool.true_and]
      unfold slices_ContainsFunc_int_int_impl_GoodSpace_1_f slices_ContainsFunc_int_int_impl_GoodSpace_1_x
      rw [slices_IndexFunc_int_int_impl_GoodSpace_1_eq]; unfold slices_IndexFunc_int_int_impl_GoodSpace_1_f slices_IndexFunc_int_int_impl_GoodSpace_1_x
      obtain ⟨r, h1, h2⟩ := first_idx (f := fun i => decide ((l.getD i 0 - 1) % (2 * m) = 0)) (len := l.length) (G := slices_IndexFunc_int_int_impl_GoodSpace_1_g1 (run tb orc n) n l m l) (fun self i hi => by
        show slices_IndexFunc_int_int_impl_GoodSpace_1_x1 _ _ _ _ _ _ = _
        unfold slices_IndexFunc_int_int_impl_GoodSpace_1_x1
        obtain ⟨n, rfl, hq'⟩ := up (k := 6) (by omega : Big + (6 + 1) ≤ n)
        have hr := hB.rng (hB.at hi)
        rw [if_pos (by omega), if_pos (by omega), if_pos (by omega), nat_i, impl_GoodSpace_1_eq]
        unfold impl_GoodSpace_1_f impl_GoodSpace_1_x
        rw [w2, if_neg (by omega), w64 (n := l.getD i 0 - 1) (by omega) (by omega), tmod_nn (by omega), w64 (by omega) (by omega), ni1]
        simp only [Option.bind_some]) (fun self => by
        show slices_IndexFunc_int_int_impl_GoodSpace_1_x1 _ _ _ _ _ _ = _
        unfold slices_IndexFunc_int_int_impl_GoodSpace_1_x1
        rw [if_neg (by omega)]) l.length 0 (by omega) n (by omega)
      have h1' : iterO (slices_IndexFunc_int_int_impl_GoodSpace_1_g1 (run tb orc n) n l m l) n 0 = some r := h1
      simp only [h1', Option.bind_some]
      rw [h2, Bool.not_not]
theorem goodSpace_s {n : Nat} (hn : Big + 5 ≤ n) {m : Int} {l : List Int} (hl : l.length < 1099511627776) : c_spec_GoodSpace (run tb orc n) m l = some (spaceB m l) := by
  obtain ⟨n, rfl, hq⟩ := up hn
  have hb := big_ge
  rw [spec_GoodSpace_eq]; unfold spec_GoodSpace_f spec_GoodSpace_x spaceB
  rw [l3Size_ret (by omega)]
  simp only [Option.bind_some]
  cases hw : powB m 2 16 with
  | false => simp
  | true =>
    have hc := powB_16 hw
    rw [if_neg (by simp), basis_s (by omega) hl, Bool.true_and]
    simp only [Option.bind_some]
    cases hbs : basisB l with
    | false => simp
    | true =>
      have hB := basis_of hbs
      have w2 : wr .i64 (2 * m) = 2 * m := w64 (by omega) (by omega)
      rw [if_neg (by simp), Bool.true_and]
      refine (all_idx (fun i => decide ((l.getD i 0 - 1) % (2 * m) = 0)) (some true) (some false) (len := l.length) (G := spec_GoodSpace_g1 (run tb orc n) n m l) (fun self i hi => ?_) (fun self => ?_) l.length 0 (by omega) n (by omega)).trans ?_
      · show spec_GoodSpace_x1 _ _ _ _ _ = _
        unfold spec_GoodSpace_x1
        have hr := hB.rng (hB.at hi)
        rw [if_pos (by omega), if_pos (by omega), if_pos (by omega), nat_i, w2, if_neg (by omega), w64 (n := l.getD i 0 - 1) (by omega) (by omega), tmod_nn (by omega), w64 (by omega) (by omega), ni1]
        by_cases c : (l.getD i 0 - 1) % (2 * m) = 0
        · rw [if_pos c, decide_eq_true c]; simp
        · rw [if_neg c, decide_eq_false c]; simp
      · show spec_GoodSpace_x1 _ _ _ _ _ = _
        unfold spec_GoodSpace_x1
        rw [if_neg (by omega)]
      · cases allN (fun i => decide ((l.getD i 0 - 1) % (2 * m) = 0)) 0 l.length <;> rfl
/-- Rows of a space whose basis is good. -/
def rowsB (m : Int) (l : List Int) (r : List (List Int)) : Bool := decide (r.length = l.length) && allN (fun i => polyB (l.getD i 0) m (r.getD i [])) 0 l.length
theorem areRows_ret {n : Nat} (hn : Big + 6 ≤ n) {m : Int} {l : List Int} (hB : Basis l) {r : List (List Int)} (hr : ∀ x ∈ r, x.length < 1099511627776) : c_impl_areRows (run tb orc n) m l r = some (rowsB m l r) := by
  obtain ⟨n, rfl, hq⟩ := up hn
  have hb := big_ge
  have hl6 := hB.len
  rw [impl_areRows_eq]; unfold impl_areRows_f impl_areRows_x rowsB
  by_cases h : r.length = l.length
  · rw [if_pos (by omega), decide_eq_true h, Bool.true_and]
    refine (all_idx (fun i => polyB (l.getD i 0) m (r.getD i [])) (some true) (some false) (len := l.length) (G := impl_areRows_g1 (run tb orc n) n m l r) (fun self i hi => ?_) (fun self => ?_) l.length 0 (by omega) n (by omega)).trans ?_
    · show impl_areRows_x1 _ _ _ _ _ _ = _
      unfold impl_areRows_x1
      have hp := hB.rng (hB.at hi)
      have hrl : (r.getD i []).length < 1099511627776 := by rw [getD_get (by omega)]; exact hr _ (List.getElem_mem _)
      rw [if_pos (by omega), if_pos (by omega), if_pos (by omega), if_pos (by omega), if_pos (by omega), nat_i, isPoly_ret (by omega) (by omega) hrl (by omega), w64 (by omega) (by omega), ni1]
      simp only [Option.bind_some]
      cases polyB (l.getD i 0) m (r.getD i []) <;> simp
    · show impl_areRows_x1 _ _ _ _ _ _ = _
      unfold impl_areRows_x1
      rw [if_neg (by omega)]
    · cases allN (fun i => polyB (l.getD i 0) m (r.getD i [])) 0 l.length <;> rfl
  · rw [if_neg (by omega), decide_eq_false h]; rfl
theorem l5Rows_ret {n : Nat} (hn : Big + 6 ≤ n) {m : Int} {l : List Int} (hB : Basis l) {r : List (List Int)} (hr : ∀ x ∈ r, x.length < 1099511627776) : c_spec_l5Rows (run tb orc n) m l r = some (rowsB m l r) := by
  obtain ⟨n, rfl, hq⟩ := up hn
  have hb := big_ge
  have hl6 := hB.len
  rw [spec_l5Rows_eq]; unfold spec_l5Rows_f spec_l5Rows_x rowsB
  by_cases h : r.length = l.length
  · rw [if_pos (by omega), decide_eq_true h, Bool.true_and]
    refine (all_idx (fun i => polyB (l.getD i 0) m (r.getD i [])) (some true) (some false) (len := l.length) (G := spec_l5Rows_g1 (run tb orc n) n m l r) (fun self i hi => ?_) (fun self => ?_) l.length 0 (by omega) n (by omega)).trans ?_
    · show spec_l5Rows_x1 _ _ _ _ _ _ = _
      unfold spec_l5Rows_x1
      have hp := hB.rng (hB.at hi)
      have hrl : (r.getD i []).length < 1099511627776 := by rw [getD_get (by omega)]; exact hr _ (List.getElem_mem _)
      rw [if_pos (by omega), if_pos (by omega), if_pos (by omega), if_pos (by omega), if_pos (by omega), nat_i, l3Poly_ret (by omega) (by omega) hrl (by omega), w64 (by omega) (by omega), ni1]
      simp only [Option.bind_some]
      cases polyB (l.getD i 0) m (r.getD i []) <;> simp
    · show spec_l5Rows_x1 _ _ _ _ _ _ = _
      unfold spec_l5Rows_x1
      rw [if_neg (by omega)]
    · cases allN (fun i => polyB (l.getD i 0) m (r.getD i [])) 0 l.length <;> rfl
  · rw [if_neg (by omega), decide_eq_false h]; rfl
noncomputable def goodRowsB (m : Int) (l : List Int) (r : List (List Int)) : Bool := spaceB m l && rowsB m l r
theorem goodRows_i {n : Nat} (hn : Big + 11 ≤ n) {m : Int} {l : List Int} {a : Bool} {r : List (List Int)} (hl : l.length < 1099511627776) (hr : ∀ x ∈ r, x.length < 1099511627776) : c_impl_GoodRows (run tb orc n) m l a r = some (goodRowsB m l r) := by
  obtain ⟨n, rfl, hq⟩ := up hn
  rw [impl_GoodRows_eq]; unfold impl_GoodRows_f impl_GoodRows_x goodRowsB
  rw [goodSpace_i (by omega) hl]
  simp only [Option.bind_some]
  cases h : spaceB m l with
  | false => rfl
  | true => rw [if_pos rfl, areRows_ret (by omega) (space_of h).bs hr]; rfl
theorem goodRows_s {n : Nat} (hn : Big + 11 ≤ n) {m : Int} {l : List Int} {a : Bool} {r : List (List Int)} (hl : l.length < 1099511627776) (hr : ∀ x ∈ r, x.length < 1099511627776) : c_spec_GoodRows (run tb orc n) m l a r = some (goodRowsB m l r) := by
  obtain ⟨n, rfl, hq⟩ := up hn
  rw [spec_GoodRows_eq]; unfold spec_GoodRows_f spec_GoodRows_x goodRowsB
  rw [goodSpace_s (by omega) hl]
  simp only [Option.bind_some]
  cases h : spaceB m l with
  | false => rfl
  | true => rw [if_pos rfl, l5Rows_ret (by omega) (space_of h).bs hr]; rfl
/-- What good rows have. -/
structure RowsOK (m : Int) (l : List Int) (r : List (List Int)) : Prop where
  sp : SpaceOK m l
  len : r.length = l.length
  row : ∀ i, i < l.length → PolyOK (l.getD i 0) m (r.getD i [])
theorem rows_of {m : Int} {l : List Int} {r : List (List Int)} (h : goodRowsB m l r = true) : RowsOK m l r := by
  unfold goodRowsB at h
  rw [Bool.and_eq_true] at h
  have h2 := h.2
  unfold rowsB at h2
  rw [Bool.and_eq_true, decide_eq_true_eq, allN_iff] at h2
  exact ⟨space_of h.1, h2.1, fun i hi => poly_of (h2.2 i (Nat.zero_le _) (by omega))⟩
end Go.Proofs.YthanbjnpfenniaaDoor.Fw

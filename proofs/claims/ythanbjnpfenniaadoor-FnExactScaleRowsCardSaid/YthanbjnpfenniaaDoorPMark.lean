/- Marks in rows. -/
import Derived.Test.YthanbjnpfenniaaDoorPLawsS
namespace Go.Proofs.YthanbjnpfenniaaDoor.Fw
open Go Go.RowKit
set_option linter.unusedVariables false

def rampR : Int → List (List Int) → List (List Int)
  | _, [] => []
  | k, x :: t => ramp k x.length :: rampR (k + x.length) t
theorem mark_inner {R : Type} (K : Int × Int × List (List Int) → Option R) {i : Nat} {G : (Int × Int × List (List Int) → Option R) → Int × Int × List (List Int) → Option R}
    (hG : ∀ self v, G self v = if v.2.1 < ((v.2.2.getD i []).length : Int) then (if 0 ≤ v.2.1 then (if v.2.1 < ((v.2.2.getD i []).length : Int) then self (wr .i64 (v.1 + (1:Int)), wr .i64 (v.2.1 + (1:Int)), v.2.2.set i ((v.2.2.getD i []).set v.2.1.toNat v.1)) else none) else none) else K v)
    {m0 : List (List Int)} {x : List Int} (hi : i < m0.length) (hx : m0.getD i [] = x) {k0 : Int} (h0 : 0 ≤ k0) (h1 : k0 + x.length ≤ 4611686018427387904) {n : Nat} (hn : Big ≤ n) :
    iterO G n (k0, (0:Int), m0) = K (k0 + x.length, (x.length : Int), m0.set i (ramp k0 x.length)) := by
  have hb := big_ge
  have hr := ramp_length k0 x.length
  have gs : ∀ w : List Int, (m0.set i w).getD i [] = w := fun w => by rw [getD_get (by simpa using hi), List.getElem_set_self]
  have := iter_eq (G := G) (fun _ => K (k0 + x.length, (x.length : Int), m0.set i (ramp k0 x.length))) (fun v => ∃ (j : Nat) (w : List Int), j ≤ x.length ∧ v = (k0 + j, (j : Int), m0.set i w) ∧ w.length = x.length ∧ w.take j = (ramp k0 x.length).take j) (fun v => x.length - v.2.1.toNat) ?_ n (k0, (0:Int), m0) ⟨0, x, by omega, ?_, rfl, by simp⟩ (by simp; omega)
  · exact this
  · rintro v self ⟨j, w, hj, rfl, hw, ht⟩ hs
    rw [hG]
    dsimp only at hs ⊢
    rw [gs]
    by_cases h : j < x.length
    · rw [if_pos (by omega), if_pos (by omega), if_pos (by omega), w64 (by omega) (by omega), w64 (by omega) (by omega), nat_i, ni1, Int.add_assoc, ni1, List.set_set]
      exact hs _ ⟨j + 1, _, by omega, rfl, by simpa using hw, take_set_succ (by omega) (by omega) ht (by rw [ramp_get])⟩ (by simp only [nat_i]; omega)
    · rw [if_neg (by omega)]
      have e : j = x.length := by omega
      subst e
      rw [List.take_of_length_le (by omega), List.take_of_length_le (by omega)] at ht
      rw [ht]
  · rw [show m0.set i x = m0 by rw [← hx, getD_get hi, List.set_getElem_self]]
    simp
theorem getD_mid {α : Type} (A : List α) (x : α) (t : List α) (d : α) : (A ++ x :: t).getD A.length d = x := by
  rw [getD_get (by simp), List.getElem_append_right (Nat.le_refl _)]
  simp
theorem set_mid {α : Type} (A : List α) (x y : α) (t : List α) : (A ++ x :: t).set A.length y = A ++ y :: t := by
  rw [List.set_append_right _ _ (Nat.le_refl _)]
  simp
theorem mark_rows_from {R : Type} (K : Int × Int × List (List Int) → Option R) {N : Nat} {G : (Int × Int × List (List Int) → Option R) → Int × Int × List (List Int) → Option R}
    {H : (Int × Int × List (List Int) → Option R) → Int × Int × List (List Int) → (Int × Int × List (List Int) → Option R) → Int × Int × List (List Int) → Option R}
    (hG : ∀ self v, G self v = if v.2.1 < (v.2.2.length : Int) then (if 0 ≤ v.2.1 then (if v.2.1 < (v.2.2.length : Int) then iterO (H self v) N (v.1, (0:Int), v.2.2) else none) else none) else K v)
    (hH : ∀ self u self2 v, H self u self2 v = if v.2.1 < ((v.2.2.getD u.2.1.toNat []).length : Int) then (if 0 ≤ v.2.1 then (if v.2.1 < ((v.2.2.getD u.2.1.toNat []).length : Int) then self2 (wr .i64 (v.1 + (1:Int)), wr .i64 (v.2.1 + (1:Int)), v.2.2.set u.2.1.toNat ((v.2.2.getD u.2.1.toNat []).set v.2.1.toNat v.1)) else none) else none) else self (v.1, wr .i64 (u.2.1 + (1:Int)), v.2.2))
    (hN : Big ≤ N) : ∀ (rest A : List (List Int)) (k : Int), 0 ≤ k → k + sumL rest ≤ 1099511627776 → A.length + rest.length ≤ 1099511627776 → ∀ n, rest.length < n →
      iterO G n (k, (A.length : Int), A ++ rest) = K (k + sumL rest, ((A.length + rest.length : Nat) : Int), A ++ rampR k rest)
  | [], A, k, h0, h1, h2, n, hn => by
    obtain ⟨n, rfl⟩ : ∃ m, n = m + 1 := ⟨n - 1, by omega⟩
    rw [iterO_succ, hG]
    dsimp only
    rw [List.append_nil, if_neg (by omega)]
    simp [sumL, rampR]
  | x :: t, A, k, h0, h1, h2, n, hn => by
    obtain ⟨n, rfl⟩ : ∃ m, n = m + 1 := ⟨n - 1, by omega⟩
    have hs : sumL (x :: t) = x.length + sumL t := rfl
    rw [hs] at h1
    have hl : (x :: t).length = t.length + 1 := rfl
    rw [hl] at h2 hn
    rw [iterO_succ, hG]
    dsimp only
    rw [if_pos (by simp; omega), if_pos (by omega), if_pos (by simp; omega)]
    refine (mark_inner (i := A.length) (x := x) (fun v => iterO G n (v.1, wr .i64 ((A.length : Int) + (1:Int)), v.2.2)) (fun self v => ?_) (by simp) (getD_mid A x t []) h0 (by omega) hN).trans ?_
    · rw [hH]
      simp only [nat_i]
    · dsimp only
      rw [set_mid, w64 (by omega) (by omega)]
      have := mark_rows_from K hG hH hN t (A ++ [ramp k x.length]) (k + x.length) (by omega) (by omega) (by simp; omega) n (by omega)
      rw [show ((A ++ [ramp k x.length]).length : Int) = (A.length : Int) + 1 by simp] at this
      rw [List.append_assoc, List.append_assoc] at this
      refine this.trans ?_
      rw [hs, hl, Int.add_assoc]
      congr 2
      congr 1
      rw [List.length_append, List.length_singleton]
      omega
/-- The loops that mark rows. -/
theorem mark_rows {R : Type} (K : Int × Int × List (List Int) → Option R) {N M : Nat} {G : (Int × Int × List (List Int) → Option R) → Int × Int × List (List Int) → Option R}
    (H : (Int × Int × List (List Int) → Option R) → Int × Int × List (List Int) → (Int × Int × List (List Int) → Option R) → Int × Int × List (List Int) → Option R)
    (hG : ∀ self v, G self v = if v.2.1 < (v.2.2.length : Int) then (if 0 ≤ v.2.1 then (if v.2.1 < (v.2.2.length : Int) then iterO (H self v) N (v.1, (0:Int), v.2.2) else none) else none) else K v)
    (hH : ∀ self u self2 v, H self u self2 v = if v.2.1 < ((v.2.2.getD u.2.1.toNat []).length : Int) then (if 0 ≤ v.2.1 then (if v.2.1 < ((v.2.2.getD u.2.1.toNat []).length : Int) then self2 (wr .i64 (v.1 + (1:Int)), wr .i64 (v.2.1 + (1:Int)), v.2.2.set u.2.1.toNat ((v.2.2.getD u.2.1.toNat []).set v.2.1.toNat v.1)) else none) else none) else self (v.1, wr .i64 (u.2.1 + (1:Int)), v.2.2))
    (hN : Big ≤ N) (hM : Big ≤ M) {l : List (List Int)} {k : Int} (h0 : 0 ≤ k) (h1 : k + sumL l ≤ 1099511627776) (h2 : l.length ≤ 1099511627776) :
      iterO G M (k, (0:Int), l) = K (k + sumL l, (l.length : Int), rampR k l) := by
  have hb := big_ge
  have := mark_rows_from K hG hH hN l [] k h0 h1 (by simpa using h2) M (by omega)
  simpa using this
theorem heldSS_from {C : Ca tb} {N m : Nat} (hm : Big + 1 ≤ m) : ∀ (rest A : List (List Int)) (k : Int), 0 ≤ k → k + sumL rest ≤ 1099511627776 → A.length + rest.length ≤ 1099511627776 → ∀ n, rest.length < n →
      iterO (laws_heldIntSS_g1 (run tb orc m) N (A ++ rampR k rest)) n (k, (A.length : Int)) = some (k + sumL rest)
  | [], A, k, h0, h1, h2, n, hn => by
    obtain ⟨n, rfl⟩ : ∃ m, n = m + 1 := ⟨n - 1, by omega⟩
    show laws_heldIntSS_x1 _ _ _ _ = _
    unfold laws_heldIntSS_x1
    dsimp only
    rw [show A ++ rampR k [] = A by simp [rampR], if_neg (by omega)]
    simp [sumL]
  | x :: t, A, k, h0, h1, h2, n, hn => by
    obtain ⟨n, rfl⟩ : ∃ m, n = m + 1 := ⟨n - 1, by omega⟩
    have hs : sumL (x :: t) = x.length + sumL t := rfl
    rw [hs] at h1
    have hl : (x :: t).length = t.length + 1 := rfl
    rw [hl] at h2 hn
    have hr : rampR k (x :: t) = ramp k x.length :: rampR (k + x.length) t := rfl
    show laws_heldIntSS_x1 _ _ _ _ = _
    unfold laws_heldIntSS_x1
    dsimp only
    rw [hr, if_pos (by simp; omega), if_pos (by omega), if_pos (by simp; omega), nat_i, getD_mid, heldIntS_ret hm h0 (by omega)]
    simp only [Option.bind_some]
    rw [if_neg (by omega), w64 (by omega) (by omega)]
    have := heldSS_from (C := C) (N := N) hm t (A ++ [ramp k x.length]) (k + x.length) (by omega) (by omega) (by simp; omega) n (by omega)
    rw [show ((A ++ [ramp k x.length]).length : Int) = (A.length : Int) + 1 by simp, List.append_assoc] at this
    refine this.trans ?_
    rw [hs]; congr 1; omega
theorem heldRows_ret {n : Nat} (hn : Big + 3 ≤ n) {b : Bool} {r : List (List Int)} {k : Int} (h0 : 0 ≤ k) (h1 : k + sumL r ≤ 1099511627776) (h2 : r.length ≤ 1099511627776) : c_laws_heldRows (run tb orc n) b (rampR k r) k = some (k + sumL r) := by
  obtain ⟨n, rfl, hq⟩ := up2 (k := 1) hn
  have hb := big_ge
  rw [laws_heldRows_eq]; unfold laws_heldRows_f laws_heldRows_x
  rw [laws_heldIntSS_eq]; unfold laws_heldIntSS_f laws_heldIntSS_x
  have := heldSS_from (C := run tb orc n) (N := n) hq r [] k h0 h1 (by simpa using h2) n (by omega)
  have this' : iterO (laws_heldIntSS_g1 (run tb orc n) n (rampR k r)) n (k, 0) = some (k + sumL r) := by simpa using this
  simp only [this', Option.bind_some]
  rw [if_neg (by omega)]
/-- Rows as a ring's are: not many, not long. -/
structure SmallR (r : List (List Int)) : Prop where
  len : r.length ≤ 6
  row : ∀ x ∈ r, x.length ≤ 16
theorem sum_small : ∀ {r : List (List Int)}, (∀ x ∈ r, x.length ≤ 16) → sumL r ≤ 16 * r.length
  | [], _ => Nat.le_refl _
  | y :: t, h => by
    have h1 := h y (List.mem_cons_self ..)
    have h2 := sum_small (r := t) fun x hx => h x (List.mem_cons_of_mem _ hx)
    show y.length + sumL t ≤ 16 * (t.length + 1)
    omega
theorem SmallR.sum {r : List (List Int)} (h : SmallR r) : sumL r ≤ 96 := by
  have := sum_small h.row
  have := h.len
  omega
theorem SmallR.nil : SmallR [] := ⟨by simp, fun x hx => by cases hx⟩
theorem smallR_idx {f : Nat → List Int} {n : Nat} (hn : n ≤ 6) (h : ∀ i, i < n → (f i).length ≤ 16) : SmallR (idxL f 0 n) :=
  ⟨by rw [idxL_length]; exact hn, idxL_all f n 0 fun j _ hj => h j (by omega)⟩
end Go.Proofs.YthanbjnpfenniaaDoor.Fw

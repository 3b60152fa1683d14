/- Residues of a basis: whether they are good: both sides. -/
import Derived.Test.YthanbjnpfenniaaDoorPPow
import Derived.Test.YthanbjnpfenniaaDoorEqI
namespace Go.Proofs.YthanbjnpfenniaaDoor.Fw
open Go Go.RowKit
set_option linter.unusedVariables false

noncomputable def residB (r l : List Int) : Bool := basisB l && (decide (r.length = l.length) && allN (fun i => decide (0 ≤ r.getD i 0 ∧ r.getD i 0 ≤ l.getD i 0 - 1)) 0 l.length)
structure ResOK (r l : List Int) : Prop where
  bs : Basis l
  len : r.length = l.length
  rng : ∀ i, i < l.length → 0 ≤ r.getD i 0 ∧ r.getD i 0 < l.getD i 0
theorem resid_of {r l : List Int} (h : residB r l = true) : ResOK r l := by
  unfold residB at h
  simp only [Bool.and_eq_true, decide_eq_true_eq, allN_iff] at h
  refine ⟨basis_of h.1, h.2.1, fun i hi => ?_⟩
  have := h.2.2 i (Nat.zero_le _) (by omega)
  omega
theorem brng {l : List Int} (h : Basis l) {i : Nat} (hi : i < l.length) : 2 ≤ l.getD i 0 ∧ l.getD i 0 ≤ 268435456 := by
  have : l.getD i 0 ∈ l := by rw [getD_get hi]; exact List.getElem_mem hi
  exact (primeB_iff.1 (h.pr _ this)).1
theorem areResidues_ret {n : Nat} (hn : Big + 10 ≤ n) {r l : List Int} (hr : r.length < 1099511627776) (hl : l.length < 1099511627776) : c_impl_areResidues (run tb orc n) r l = some (residB r l) := by
  obtain ⟨n, rfl, hq⟩ := up (k := 9) hn
  have hbig := big_ge
  rw [impl_areResidues_eq]; unfold impl_areResidues_f impl_areResidues_x residB
  rw [basis_i hq hl]
  simp only [Option.bind_some]
  cases hB : basisB l with
  | false => rfl
  | true =>
    have hb := basis_of hB
    rw [if_neg nt, Bool.true_and]
    by_cases h : r.length = l.length
    · rw [if_pos (by omega), decide_eq_true h, Bool.true_and]
      refine (all_idx (fun i => decide (0 ≤ r.getD i 0 ∧ r.getD i 0 ≤ l.getD i 0 - 1)) (some true) (some false) (len := l.length) (G := impl_areResidues_g1 (run tb orc n) n r l) (fun self i hi => ?_) (fun self => ?_) l.length 0 (by omega) n (by omega)).trans ?_
      · show impl_areResidues_x1 _ _ _ _ _ = _
        unfold impl_areResidues_x1
        have := brng hb hi
        rw [if_pos (by omega), if_pos (by omega), if_pos (by omega), if_pos (by omega), if_pos (by omega), nat_i, w64 (n := l.getD i 0 - 1) (by omega) (by omega), in_ret (by omega), w64 (by omega) (by omega), ni1]
        simp only [Option.bind_some]
        by_cases c : 0 ≤ r.getD i 0 ∧ r.getD i 0 ≤ l.getD i 0 - 1
        · rw [decide_eq_true c]; simp
        · rw [decide_eq_false c]; simp
      · show impl_areResidues_x1 _ _ _ _ _ = _
        unfold impl_areResidues_x1
        rw [if_neg (by omega)]
      · cases allN (fun i => decide (0 ≤ r.getD i 0 ∧ r.getD i 0 ≤ l.getD i 0 - 1)) 0 l.length <;> rfl
    · rw [if_neg (by omega), decide_eq_false h]; rfl
theorem l4Good_ret {n : Nat} (hn : Big + 5 ≤ n) {r l : List Int} (hr : r.length < 1099511627776) (hl : l.length < 1099511627776) : c_spec_l4Good (run tb orc n) r l = some (residB r l) := by
  obtain ⟨n, rfl, hq⟩ := up (k := 4) hn
  have hbig := big_ge
  rw [spec_l4Good_eq]; unfold spec_l4Good_f spec_l4Good_x residB
  rw [basis_s hq hl]
  simp only [Option.bind_some]
  cases hB : basisB l with
  | false => rfl
  | true =>
    have hb := basis_of hB
    rw [if_neg nt, Bool.true_and]
    by_cases h : r.length = l.length
    · rw [if_pos (by omega), decide_eq_true h, Bool.true_and]
      refine (all_idx (fun i => decide (0 ≤ r.getD i 0 ∧ r.getD i 0 ≤ l.getD i 0 - 1)) (some true) (some false) (len := l.length) (G := spec_l4Good_g1 (run tb orc n) n r l) (fun self i hi => ?_) (fun self => ?_) l.length 0 (by omega) n (by omega)).trans ?_
      · show spec_l4Good_x1 _ _ _ _ _ = _
        unfold spec_l4Good_x1
        have := brng hb hi
        rw [if_pos (by omega), if_pos (by omega), if_pos (by omega), if_pos (by omega), if_pos (by omega), nat_i, w64 (n := l.getD i 0 - 1) (by omega) (by omega), l1In_ret (by omega), w64 (by omega) (by omega), ni1]
        simp only [Option.bind_some]
        by_cases c : 0 ≤ r.getD i 0 ∧ r.getD i 0 ≤ l.getD i 0 - 1
        · rw [decide_eq_true c]; simp
        · rw [decide_eq_false c]; simp
      · show spec_l4Good_x1 _ _ _ _ _ = _
        unfold spec_l4Good_x1
        rw [if_neg (by omega)]
      · cases allN (fun i => decide (0 ≤ r.getD i 0 ∧ r.getD i 0 ≤ l.getD i 0 - 1)) 0 l.length <;> rfl
    · rw [if_neg (by omega), decide_eq_false h]; rfl
end Go.Proofs.YthanbjnpfenniaaDoor.Fw

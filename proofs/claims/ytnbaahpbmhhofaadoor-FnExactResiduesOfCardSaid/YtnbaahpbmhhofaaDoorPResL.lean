/- ResiduesOf: both sides. -/
import Derived.Test.YtnbaahpbmhhofaaDoorPRes
import Derived.Test.YtnbaahpbmhhofaaDoorEqRes
import Derived.Test.YtnbaahpbmhhofaaDoorEqLResiduesOf
namespace Go.Proofs.YtnbaahpbmhhofaaDoor.Fw
open Go Go.RowKit Go.Proofs.YtnbaahpbmhhofaaDoor.Limbs
set_option linter.unusedVariables false

def residP (s : Bool) (w l : List Int) : List Int := idxL (fun i => resP (l.getD i 0) s w) 0 l.length
theorem basis_rng {l : List Int} (h : Basis l) {i : Nat} (hi : i < l.length) : 2 ≤ l.getD i 0 ∧ l.getD i 0 ≤ 268435456 := by
  have : l.getD i 0 ∈ l := by rw [getD_get hi]; exact List.getElem_mem hi
  exact (primeB_iff.1 (h.pr _ this)).1
theorem residues_i {n : Nat} (hn : Big + 3 ≤ n) {s : Bool} {w l : List Int} (hw : Ok w) (hL : w.length < 1099511627776) (hB : Basis l) : c_impl_residues (run tb orc n) s w l = some (residP s w l) := by
  obtain ⟨n, rfl, hq⟩ := up (k := 2) hn
  have hbig := big_ge
  have l6 := hB.len
  rw [impl_residues_eq]; unfold impl_residues_f impl_residues_x
  refine (map_idx (fun i out => (i, out)) (fun i => resP (l.getD i 0) s w) (fun out => some out) (len := l.length) (G := impl_residues_g1 (run tb orc n) n s w l) (fun self i out hi ho => ?_) (fun self out ho => ?_) l.length 0 [] (by omega) rfl n (by omega)).trans rfl
  · show impl_residues_x1 _ _ _ _ _ _ = _
    unfold impl_residues_x1
    dsimp only
    have r := basis_rng hB hi
    rw [if_pos (by omega), if_pos (by omega), if_pos (by omega), nat_i, modW_ret hq (by omega) r.2 hw hL]
    simp only [Option.bind_some]
    rw [if_pos (by rw [List.length_singleton]; exact lim_lt (by omega)), w64 (by omega) (by omega), ni1]
  · show impl_residues_x1 _ _ _ _ _ _ = _
    unfold impl_residues_x1
    dsimp only
    rw [if_neg (by omega)]
theorem residues_s {n : Nat} (hn : Big + 3 ≤ n) {s : Bool} {w l : List Int} (hw : Ok w) (hL : w.length < 1099511627776) (hB : Basis l) : c_spec_l4Residues (run tb orc n) s w l = some (residP s w l) := by
  obtain ⟨n, rfl, hq⟩ := up (k := 2) hn
  have hbig := big_ge
  have l6 := hB.len
  rw [spec_l4Residues_eq]; unfold spec_l4Residues_f spec_l4Residues_x
  refine (map_idx (fun i out => (i, out)) (fun i => resP (l.getD i 0) s w) (fun out => some out) (len := l.length) (G := spec_l4Residues_g1 (run tb orc n) n s w l) (fun self i out hi ho => ?_) (fun self out ho => ?_) l.length 0 [] (by omega) rfl n (by omega)).trans rfl
  · show spec_l4Residues_x1 _ _ _ _ _ _ = _
    unfold spec_l4Residues_x1
    dsimp only
    have r := basis_rng hB hi
    rw [if_pos (by omega), if_pos (by omega), if_pos (by omega), nat_i, l2Modulo_ret hq (by omega) r.2 hw hL]
    simp only [Option.bind_some]
    rw [if_pos (by rw [List.length_singleton]; exact lim_lt (by omega)), w64 (by omega) (by omega), ni1]
  · show spec_l4Residues_x1 _ _ _ _ _ _ = _
    unfold spec_l4Residues_x1
    dsimp only
    rw [if_neg (by omega)]
theorem l2In_ret {n : Nat} (hn : Big + 1 ≤ n) {s : Bool} {l : List Int} : c_spec_l2In (run tb orc n) s l = some (s, l) := by
  obtain ⟨n, rfl, hq⟩ := up hn
  rw [spec_l2In_eq]; rfl
theorem residuesOf_both (s : Bool) (w l : List Int) (hw : w.length < 1099511627776) (hl : l.length < 1099511627776) : ∃ r : List Int × Bool, r.1.length ≤ 6 ∧ ∀ n, Big + 12 ≤ n → c_impl_ResiduesOf (run tb orc n) s w l = some r ∧ c_spec_ResiduesOf (run tb orc n) s w l = some r := by
  refine ⟨if goodB s w = true then (if basisB l = true then (residP s w l, true) else ([], false)) else ([], false), ?_, fun n hn => ?_⟩
  · by_cases c : goodB s w = true
    · rw [if_pos c]
      by_cases d : basisB l = true
      · rw [if_pos d]
        show (residP s w l).length ≤ 6
        unfold residP
        rw [idxL_length]; exact (basis_of d).len
      · rw [if_neg d]; simp
    · rw [if_neg c]; simp
  · obtain ⟨n, rfl, hq⟩ := up hn
    rw [impl_ResiduesOf_eq, spec_ResiduesOf_eq]; unfold impl_ResiduesOf_f impl_ResiduesOf_x spec_ResiduesOf_f spec_ResiduesOf_x
    rw [good_i (by omega) hw, good_s (by omega) hw]
    simp only [Option.bind_some]
    by_cases c : goodB s w = true
    · obtain ⟨c1, c2⟩ := can_of_good c
      rw [if_pos c, c, if_neg nt, if_neg nt, basis_i (by omega) hl, basis_s (by omega) hl]
      simp only [Option.bind_some]
      by_cases d : basisB l = true
      · rw [if_pos d, d, if_neg nt, if_neg nt, l2In_ret (by omega), residues_i (by omega) c1.1.ok hw (basis_of d)]
        simp only [Option.bind_some]
        rw [residues_s (by omega) c1.1.ok hw (basis_of d)]
        simp
      · have d' : basisB l = false := by simpa using d
        rw [if_neg d, d']; exact ⟨rfl, rfl⟩
    · have c' : goodB s w = false := by simpa using c
      rw [if_neg c, c']; exact ⟨rfl, rfl⟩
end Go.Proofs.YtnbaahpbmhhofaaDoor.Fw

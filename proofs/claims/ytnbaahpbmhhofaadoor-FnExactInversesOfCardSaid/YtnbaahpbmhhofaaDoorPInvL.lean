/- InversesOf: both sides. -/
import Derived.Test.YtnbaahpbmhhofaaDoorPProd
import Derived.Test.YtnbaahpbmhhofaaDoorEqLInversesOf
namespace Go.Proofs.YtnbaahpbmhhofaaDoor.Fw
open Go Go.RowKit Go.Proofs.YtnbaahpbmhhofaaDoor.Limbs
set_option linter.unusedVariables false

theorem inversesOf_both (l : List Int) (hl : l.length < 1099511627776) : ∃ r : List Int × Bool, r.1.length ≤ 6 ∧ ∀ n, Big + 12 ≤ n → c_impl_InversesOf (run tb orc n) l = some r ∧ c_spec_InversesOf (run tb orc n) l = some r := by
  have hbig := big_ge
  refine ⟨if basisB l = true then (invsP l, true) else ([], false), ?_, fun n hn => ?_⟩
  · by_cases d : basisB l = true
    · rw [if_pos d]
      show (invsP l).length ≤ 6
      unfold invsP
      rw [idxL_length]; exact (basis_of d).len
    · rw [if_neg d]; simp
  · obtain ⟨n, rfl, hq⟩ := up hn
    rw [impl_InversesOf_eq, spec_InversesOf_eq]; unfold impl_InversesOf_f impl_InversesOf_x spec_InversesOf_f spec_InversesOf_x
    rw [basis_i (by omega) hl, basis_s (by omega) hl]
    simp only [Option.bind_some]
    by_cases d : basisB l = true
    · have hB := basis_of d
      have h6 := hB.len
      rw [if_pos d, d, if_neg nt, if_neg nt, inverses_ret (by omega) hB]
      refine ⟨rfl, ?_⟩
      refine (map_idx (fun i out => (i, out)) (invAt l) (fun out => some (out, true)) (len := l.length) (G := spec_InversesOf_g1 (run tb orc n) n l) (fun self i out hi ho => ?_) (fun self out ho => ?_) l.length 0 [] (by omega) rfl n (by omega)).trans rfl
      · show spec_InversesOf_x1 _ _ _ _ = _
        unfold spec_InversesOf_x1
        dsimp only
        rw [if_pos (by omega), (invAt_is hB hi).2.2.2.2 n (by omega)]
        simp only [Option.bind_some]
        rw [if_pos (by rw [List.length_singleton]; exact lim_lt (by omega)), w64 (by omega) (by omega), ni1]
      · show spec_InversesOf_x1 _ _ _ _ = _
        unfold spec_InversesOf_x1
        dsimp only
        rw [if_neg (by omega)]
    · have d' : basisB l = false := by simpa using d
      rw [if_neg d, d']; exact ⟨rfl, rfl⟩
end Go.Proofs.YtnbaahpbmhhofaaDoor.Fw

/- FastConvert: both sides. -/
import Derived.Test.YthanbjnpfenniaaDoorPFast
import Derived.Test.YthanbjnpfenniaaDoorPResS
import Derived.Test.YthanbjnpfenniaaDoorEqRes
namespace Go.Proofs.YthanbjnpfenniaaDoor.Fw
open Go Go.RowKit Go.Proofs.YthanbjnpfenniaaDoor.Limbs
set_option linter.unusedVariables false

def residP (s : Bool) (w l : List Int) : List Int := idxL (fun i => resP (l.getD i 0) s w) 0 l.length
theorem residues_s {n : Nat} (hn : Big + 3 ≤ n) {s : Bool} {w l : List Int} (hw : Ok w) (hL : w.length < 1099511627776) (hB : Basis l) : c_spec_l4Residues (run tb orc n) s w l = some (residP s w l) := by
  obtain ⟨n, rfl, hq⟩ := up (k := 2) hn
  have hbig := big_ge
  have l6 := hB.len
  rw [spec_l4Residues_eq]; unfold spec_l4Residues_f spec_l4Residues_x
  refine (map_idx (fun i out => (i, out)) (fun i => resP (l.getD i 0) s w) (fun out => some out) (len := l.length) (G := spec_l4Residues_g1 (run tb orc n) n s w l) (fun self i out hi ho => ?_) (fun self out ho => ?_) l.length 0 [] (by omega) rfl n (by omega)).trans rfl
  · show spec_l4Residues_x1 _ _ _ _ _ _ = _
    unfold spec_l4Residues_x1
    dsimp only
    have r := brng hB hi
    rw [if_pos (by omega), if_pos (by omega), if_pos (by omega), nat_i, l2Modulo_ret hq (by omega) r.2 hw hL]
    simp only [Option.bind_some]
    rw [if_pos (by rw [List.length_singleton]; exact lim_lt (by omega)), w64 (by omega) (by omega), ni1]
  · show spec_l4Residues_x1 _ _ _ _ _ _ = _
    unfold spec_l4Residues_x1
    dsimp only
    rw [if_neg (by omega)]
end Go.Proofs.YthanbjnpfenniaaDoor.Fw

/- Sums of rows: the specification. -/
import Derived.Test.YthanbjnpfenniaaDoorPTwo
namespace Go.Proofs.YthanbjnpfenniaaDoor.Fw
open Go Go.RowKit
set_option linter.unusedVariables false

def addF (l : List Int) (a b : List (List Int)) (i k : Nat) : Int := ((a.getD i []).getD k 0 + (b.getD i []).getD k 0) % l.getD i 0
theorem l5Add_ret {n : Nat} (hn : Big + 1 ≤ n) {m : Int} {l : List Int} {a b : List (List Int)} (ha : RowsOK m l a) (hb : RowsOK m l b) : c_spec_l5Add (run tb orc n) m l a b = some (eachR l a (addF l a b)) := by
  obtain ⟨n, rfl, hq⟩ := up hn
  have hbig := big_ge
  have l6 := ha.sp.bs.len
  have g1 := ha.len; have g2 := hb.len
  rw [spec_l5Add_eq]; unfold spec_l5Add_f spec_l5Add_x
  refine each_loop ha (fun i => idxL (addF l a b i) 0 (a.getD i []).length) (G := spec_l5Add_g1 (run tb orc n) n m l a b) (n := n) (by omega) (fun self i out hi ho => ?_) (fun self out => ?_)
  · show spec_l5Add_x1 _ _ _ _ _ _ _ _ = _
    unfold spec_l5Add_x1
    dsimp only
    obtain ⟨p1, p2, p3, p4, p5⟩ := ha.at hi
    obtain ⟨q1, q2, q3, q4, q5⟩ := hb.at hi
    rw [if_pos (by omega), if_pos (by omega), if_pos (by omega), if_pos (by omega), if_pos (by omega)]
    refine (map_idx (fun i out => (i, out)) (addF l a b i) (fun row => self (((i + 1 : Nat) : Int), out ++ [row])) (len := (a.getD i []).length) (G := spec_l5Add_g2 (run tb orc n) n self m l a b ((i : Int), out)) (fun self2 k row hk hr => ?_) (fun self2 row hr => ?_) (a.getD i []).length 0 [] (by omega) rfl n (by omega)).trans rfl
    · show spec_l5Add_x2 _ _ _ _ _ _ _ _ _ = _
      unfold spec_l5Add_x2 addF
      dsimp only
      have r1 := p5 k hk
      have r2 := q5 k (by omega)
      rw [nat_i, if_pos (by omega), if_pos (by omega), if_pos (by omega), if_pos (by omega), if_pos (by omega), if_pos (by omega), if_pos (by omega), if_pos (by omega), if_pos (by omega), if_neg (by omega), if_pos (by rw [List.length_singleton]; exact lim_lt (by omega)), nat_i, w64 (n := (a.getD i []).getD k 0 + (b.getD i []).getD k 0) (by omega) (by omega), w64 (by omega) (by omega), tmod_nn (by omega), ni1]
    · show spec_l5Add_x2 _ _ _ _ _ _ _ _ _ = _
      unfold spec_l5Add_x2
      dsimp only
      rw [nat_i, if_neg (by omega), if_pos (by rw [List.length_singleton]; exact lim_lt (by omega)), w64 (by omega) (by omega), ni1]
  · show spec_l5Add_x1 _ _ _ _ _ _ _ _ = _
    unfold spec_l5Add_x1
    dsimp only
    rw [if_neg (by omega)]
theorem eachR_get {l : List Int} {r : List (List Int)} {f : Nat → Nat → Int} {i : Nat} (hi : i < l.length) : (eachR l r f).getD i [] = idxL (f i) 0 (r.getD i []).length := by
  unfold eachR
  rw [getD_get (by rw [idxL_length]; exact hi), idxL_get, Nat.zero_add]
theorem idxL_getD {f : Nat → Int} {n k : Nat} (hk : k < n) : (idxL f 0 n).getD k 0 = f k := by
  rw [getD_get (by rw [idxL_length]; exact hk), idxL_get, Nat.zero_add]
theorem eachR_ok {m : Int} {l : List Int} {r : List (List Int)} (h : RowsOK m l r) {f : Nat → Nat → Int} (hf : ∀ i k, i < l.length → k < (r.getD i []).length → 0 ≤ f i k ∧ f i k < l.getD i 0) : RowsOK m l (eachR l r f) := by
  refine ⟨h.sp, by unfold eachR; rw [idxL_length], fun i hi => ?_⟩
  rw [eachR_get hi]
  refine ⟨by rw [idxL_length]; exact (h.row i hi).len, fun k hk => ?_⟩
  rw [idxL_length] at hk
  rw [idxL_getD hk]
  exact hf i k hi hk
theorem eachR_congr {l : List Int} {r : List (List Int)} {f g : Nat → Nat → Int} (h : ∀ i k, i < l.length → k < (r.getD i []).length → f i k = g i k) : eachR l r f = eachR l r g :=
  idxL_congr l.length 0 fun i _ hi => idxL_congr _ 0 fun k _ hk => h i k (by omega) (by omega)
end Go.Proofs.YthanbjnpfenniaaDoor.Fw

/- ScaleRows: both sides. -/
import Derived.Test.YthanbjnpfenniaaDoorPTwo
import Derived.Test.YthanbjnpfenniaaDoorPResS
import Derived.Test.YthanbjnpfenniaaDoorEqLScaleRows
namespace Go.Proofs.YthanbjnpfenniaaDoor.Fw
open Go Go.RowKit Go.Proofs.YthanbjnpfenniaaDoor.Limbs
set_option linter.unusedVariables false

def scaleF (l : List Int) (a : List (List Int)) (s : Bool) (w : List Int) (i k : Nat) : Int := (a.getD i []).getD k 0 * resP (l.getD i 0) s w % l.getD i 0
theorem scaleRows1 {n : Nat} (hn : Big + 3 ≤ n) {m : Int} {l : List Int} {a : List (List Int)} (ha : RowsOK m l a) {s : Bool} {w : List Int} (hw : Ok w) (hL : w.length < 1099511627776) {i : Nat} (hi : i < l.length) :
    c_impl_scaleRows_1 (run tb orc n) i (l.getD i 0) s w a = some (idxL (scaleF l a s w i) 0 (a.getD i []).length) := by
  obtain ⟨n, rfl, hq⟩ := up (k := 2) hn
  have hbig := big_ge
  have l6 := ha.sp.bs.len
  obtain ⟨p1, p2, p3, p4, p5⟩ := ha.at hi
  have g1 := ha.len
  have rr := resP_rng (p := l.getD i 0) (by omega) s w
  rw [impl_scaleRows_1_eq]; unfold impl_scaleRows_1_f impl_scaleRows_1_x
  rw [modW_ret hq (by omega) p2 hw hL]
  simp only [Option.bind_some]
  rw [if_pos (by omega), if_pos (by omega)]
  refine (map_idx (fun i out => (i, out)) (scaleF l a s w i) (fun out => some out) (len := (a.getD i []).length) (G := impl_scaleRows_1_g1 (run tb orc n) n i (l.getD i 0) a (resP (l.getD i 0) s w)) (fun self k out hk ho => ?_) (fun self out ho => ?_) (a.getD i []).length 0 [] (by omega) rfl n (by omega)).trans rfl
  · show impl_scaleRows_1_x1 _ _ _ _ _ _ _ = _
    unfold impl_scaleRows_1_x1 scaleF
    dsimp only
    have q := mul_small (p5 k hk).1 (by have := (p5 k hk).2; omega) rr.1 (by omega)
    rw [nat_i, if_pos (by omega), if_pos (by omega), if_pos (by omega), if_neg (by omega), if_pos (by rw [List.length_singleton]; exact lim_lt (by omega)), nat_i, w64 (n := (a.getD i []).getD k 0 * resP (l.getD i 0) s w) (by omega) (by omega), w64 (by omega) (by omega), tmod_nn q.1, ni1]
  · show impl_scaleRows_1_x1 _ _ _ _ _ _ _ = _
    unfold impl_scaleRows_1_x1
    dsimp only
    rw [nat_i, if_neg (by omega)]
theorem scaleRows_i {n : Nat} (hn : Big + 5 ≤ n) {m : Int} {l : List Int} {a : List (List Int)} (ha : RowsOK m l a) {s : Bool} {w : List Int} (hw : Ok w) (hL : w.length < 1099511627776) : c_impl_scaleRows (run tb orc n) m l a s w = some (eachR l a (scaleF l a s w)) := by
  obtain ⟨n, rfl, hq⟩ := up2 (k := 3) hn
  have hbig := big_ge
  have l6 := ha.sp.bs.len
  rw [impl_scaleRows_eq]; unfold impl_scaleRows_f impl_scaleRows_x
  rw [impl_each_impl_scaleRows_1_eq]; unfold impl_each_impl_scaleRows_1_f impl_each_impl_scaleRows_1_x
  have := each_loop ha (fun i => idxL (scaleF l a s w i) 0 (a.getD i []).length) (G := impl_each_impl_scaleRows_1_g1 (run tb orc n) n m l s w a) (n := n) (by omega) (fun self i out hi ho => ?_) (fun self out => ?_)
  · simp only [this, Option.bind_some]; rfl
  · show impl_each_impl_scaleRows_1_x1 _ _ _ _ _ _ _ _ = _
    unfold impl_each_impl_scaleRows_1_x1
    dsimp only
    rw [if_pos (by omega), if_pos (by omega), if_pos (by omega), nat_i, scaleRows1 hq ha hw hL hi]
    simp only [Option.bind_some]
    rw [if_pos (by rw [List.length_singleton]; exact lim_lt (by omega)), w64 (by omega) (by omega), ni1]
  · show impl_each_impl_scaleRows_1_x1 _ _ _ _ _ _ _ _ = _
    unfold impl_each_impl_scaleRows_1_x1
    dsimp only
    rw [if_neg (by omega)]
theorem l5Scale_ret {n : Nat} (hn : Big + 3 ≤ n) {m : Int} {l : List Int} {a : List (List Int)} (ha : RowsOK m l a) {s : Bool} {w : List Int} (hw : Ok w) (hL : w.length < 1099511627776) : c_spec_l5Scale (run tb orc n) m l a s w = some (eachR l a (scaleF l a s w)) := by
  obtain ⟨n, rfl, hq⟩ := up (k := 2) hn
  have hbig := big_ge
  have l6 := ha.sp.bs.len
  have g1 := ha.len
  rw [spec_l5Scale_eq]; unfold spec_l5Scale_f spec_l5Scale_x
  refine each_loop ha (fun i => idxL (scaleF l a s w i) 0 (a.getD i []).length) (G := spec_l5Scale_g1 (run tb orc n) n m l a s w) (n := n) (by omega) (fun self i out hi ho => ?_) (fun self out => ?_)
  · show spec_l5Scale_x1 _ _ _ _ _ _ _ _ _ = _
    unfold spec_l5Scale_x1
    dsimp only
    obtain ⟨p1, p2, p3, p4, p5⟩ := ha.at hi
    have rr := resP_rng (p := l.getD i 0) (by omega) s w
    rw [if_pos (by omega), if_pos (by omega), if_pos (by omega), nat_i, l2Modulo_ret hq (by omega) p2 hw hL]
    simp only [Option.bind_some]
    rw [if_pos (by omega), if_pos (by omega)]
    refine (map_idx (fun i out => (i, out)) (scaleF l a s w i) (fun row => self (((i + 1 : Nat) : Int), out ++ [row])) (len := (a.getD i []).length) (G := spec_l5Scale_g2 (run tb orc n) n self m l a s w (resP (l.getD i 0) s w) ((i : Int), out)) (fun self2 k row hk hr => ?_) (fun self2 row hr => ?_) (a.getD i []).length 0 [] (by omega) rfl n (by omega)).trans rfl
    · show spec_l5Scale_x2 _ _ _ _ _ _ _ _ _ _ _ = _
      unfold spec_l5Scale_x2 scaleF
      dsimp only
      have q := mul_small (p5 k hk).1 (by have := (p5 k hk).2; omega) rr.1 (by omega)
      rw [nat_i, if_pos (by omega), if_pos (by omega), if_pos (by omega), if_neg (by omega), if_pos (by rw [List.length_singleton]; exact lim_lt (by omega)), nat_i, w64 (n := (a.getD i []).getD k 0 * resP (l.getD i 0) s w) (by omega) (by omega), w64 (by omega) (by omega), tmod_nn q.1, ni1]
    · show spec_l5Scale_x2 _ _ _ _ _ _ _ _ _ _ _ = _
      unfold spec_l5Scale_x2
      dsimp only
      rw [nat_i, if_neg (by omega), if_pos (by rw [List.length_singleton]; exact lim_lt (by omega)), w64 (by omega) (by omega), ni1]
  · show spec_l5Scale_x1 _ _ _ _ _ _ _ _ _ = _
    unfold spec_l5Scale_x1
    dsimp only
    rw [if_neg (by omega)]
theorem l2In_ret {n : Nat} (hn : Big + 1 ≤ n) {s : Bool} {l : List Int} : c_spec_l2In (run tb orc n) s l = some (s, l) := by
  obtain ⟨n, rfl, hq⟩ := up hn
  rw [spec_l2In_eq]; rfl
theorem scaleRows_both (m : Int) (l : List Int) (a : Bool) (ra : List (List Int)) (s : Bool) (w : List Int) (hl : l.length < 1099511627776) (ha : ∀ x ∈ ra, x.length < 1099511627776) (hw : w.length < 1099511627776) :
    ∃ r : (Bool × List (List Int)) × Bool, SmallR r.1.2 ∧ ∀ n, Big + 20 ≤ n → c_impl_ScaleRows (run tb orc n) m l a ra s w = some r ∧ c_spec_ScaleRows (run tb orc n) m l a ra s w = some r := by
  refine ⟨if goodRowsB m l ra = true then (if goodB s w = true then ((a, eachR l ra (scaleF l ra s w)), true) else ((false, []), false)) else ((false, []), false), ?_, fun n hn => ?_⟩
  · by_cases c : goodRowsB m l ra = true
    · rw [if_pos c]
      by_cases d : goodB s w = true
      · rw [if_pos d]; exact eachR_small (rows_of c) _
      · rw [if_neg d]; exact SmallR.nil
    · rw [if_neg c]; exact SmallR.nil
  · obtain ⟨n, rfl, hq⟩ := up hn
    rw [impl_ScaleRows_eq, spec_ScaleRows_eq]; unfold impl_ScaleRows_f impl_ScaleRows_x spec_ScaleRows_f spec_ScaleRows_x
    rw [goodRows_i (by omega) hl ha, goodRows_s (by omega) hl ha]
    simp only [Option.bind_some]
    by_cases c : goodRowsB m l ra = true
    · rw [if_pos c, c, if_neg nt, if_neg nt, good_i (by omega) hw, good_s (by omega) hw]
      simp only [Option.bind_some]
      by_cases d : goodB s w = true
      · obtain ⟨c1, c2⟩ := can_of_good d
        rw [if_pos d, d, if_neg nt, if_neg nt, l2In_ret (by omega), scaleRows_i (by omega) (rows_of c) c1.1.ok hw]
        simp only [Option.bind_some]
        rw [l5Scale_ret (by omega) (rows_of c) c1.1.ok hw]
        exact ⟨trivial, rfl⟩
      · have d' : goodB s w = false := by simpa using d
        rw [if_neg d, d']; exact ⟨rfl, rfl⟩
    · have c' : goodRowsB m l ra = false := by simpa using c
      rw [if_neg c, c']; exact ⟨rfl, rfl⟩
end Go.Proofs.YthanbjnpfenniaaDoor.Fw

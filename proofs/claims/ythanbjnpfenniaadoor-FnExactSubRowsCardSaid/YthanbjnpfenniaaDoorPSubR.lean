/- SubRows: both sides. -/
import Derived.Test.YthanbjnpfenniaaDoorPAdd5
import Derived.Test.YthanbjnpfenniaaDoorEqLSubRows
namespace Go.Proofs.YthanbjnpfenniaaDoor.Fw
open Go Go.RowKit
set_option linter.unusedVariables false

def subF (l : List Int) (a b : List (List Int)) (i k : Nat) : Int := ((a.getD i []).getD k 0 - (b.getD i []).getD k 0) % l.getD i 0
def negF (l : List Int) (b : List (List Int)) (i k : Nat) : Int := -((b.getD i []).getD k 0) % l.getD i 0
theorem subRows1 {n : Nat} (hn : Big + 2 ≤ n) {m : Int} {l : List Int} {a b : List (List Int)} (ha : RowsOK m l a) (hb : RowsOK m l b) {i : Nat} (hi : i < l.length) :
    c_impl_subRows_1 (run tb orc n) i (l.getD i 0) a b = some (idxL (subF l a b i) 0 (a.getD i []).length) := by
  obtain ⟨n, rfl, hq⟩ := up (k := 1) hn
  have hbig := big_ge
  have l6 := ha.sp.bs.len
  obtain ⟨p1, p2, p3, p4, p5⟩ := ha.at hi
  obtain ⟨q1, q2, q3, q4, q5⟩ := hb.at hi
  have g1 := ha.len; have g2 := hb.len
  rw [impl_subRows_1_eq]; unfold impl_subRows_1_f impl_subRows_1_x
  rw [if_pos (by omega), if_pos (by omega)]
  refine (map_idx (fun i out => (i, out)) (subF l a b i) (fun out => some out) (len := (a.getD i []).length) (G := impl_subRows_1_g1 (run tb orc n) n i (l.getD i 0) a b) (fun self k out hk ho => ?_) (fun self out ho => ?_) (a.getD i []).length 0 [] (by omega) rfl n (by omega)).trans rfl
  · show impl_subRows_1_x1 _ _ _ _ _ _ _ = _
    unfold impl_subRows_1_x1 subF
    dsimp only
    have r1 := p5 k hk
    have r2 := q5 k (by omega)
    rw [nat_i, if_pos (by omega), if_pos (by omega), if_pos (by omega), if_pos (by omega), if_pos (by omega), if_pos (by omega), if_pos (by omega), nat_i, w64 (n := (a.getD i []).getD k 0 - (b.getD i []).getD k 0) (by omega) (by omega), mod_ret hq (by omega) (by omega)]
    simp only [Option.bind_some]
    rw [if_pos (by rw [List.length_singleton]; exact lim_lt (by omega)), w64 (by omega) (by omega), ni1]
  · show impl_subRows_1_x1 _ _ _ _ _ _ _ = _
    unfold impl_subRows_1_x1
    dsimp only
    rw [nat_i, if_neg (by omega)]
theorem subRows_i {n : Nat} (hn : Big + 4 ≤ n) {m : Int} {l : List Int} {a b : List (List Int)} (ha : RowsOK m l a) (hb : RowsOK m l b) : c_impl_subRows (run tb orc n) m l a b = some (eachR l a (subF l a b)) := by
  obtain ⟨n, rfl, hq⟩ := up2 (k := 2) hn
  have hbig := big_ge
  have l6 := ha.sp.bs.len
  rw [impl_subRows_eq]; unfold impl_subRows_f impl_subRows_x
  rw [impl_each_impl_subRows_1_eq]; unfold impl_each_impl_subRows_1_f impl_each_impl_subRows_1_x
  have := each_loop ha (fun i => idxL (subF l a b i) 0 (a.getD i []).length) (G := impl_each_impl_subRows_1_g1 (run tb orc n) n m l a b) (n := n) (by omega) (fun self i out hi ho => ?_) (fun self out => ?_)
  · simp only [this, Option.bind_some]; rfl
  · show impl_each_impl_subRows_1_x1 _ _ _ _ _ _ _ = _
    unfold impl_each_impl_subRows_1_x1
    dsimp only
    rw [if_pos (by omega), if_pos (by omega), if_pos (by omega), nat_i, subRows1 hq ha hb hi]
    simp only [Option.bind_some]
    rw [if_pos (by rw [List.length_singleton]; exact lim_lt (by omega)), w64 (by omega) (by omega), ni1]
  · show impl_each_impl_subRows_1_x1 _ _ _ _ _ _ _ = _
    unfold impl_each_impl_subRows_1_x1
    dsimp only
    rw [if_neg (by omega)]
theorem l5Neg_ret {n : Nat} (hn : Big + 2 ≤ n) {m : Int} {l : List Int} {b : List (List Int)} (hb : RowsOK m l b) : c_spec_l5Neg (run tb orc n) m l b = some (eachR l b (negF l b)) := by
  obtain ⟨n, rfl, hq⟩ := up (k := 1) hn
  have hbig := big_ge
  have l6 := hb.sp.bs.len
  have g2 := hb.len
  rw [spec_l5Neg_eq]; unfold spec_l5Neg_f spec_l5Neg_x
  refine each_loop hb (fun i => idxL (negF l b i) 0 (b.getD i []).length) (G := spec_l5Neg_g1 (run tb orc n) n m l b) (n := n) (by omega) (fun self i out hi ho => ?_) (fun self out => ?_)
  · show spec_l5Neg_x1 _ _ _ _ _ _ _ = _
    unfold spec_l5Neg_x1
    dsimp only
    obtain ⟨q1, q2, q3, q4, q5⟩ := hb.at hi
    rw [if_pos (by omega), if_pos (by omega), if_pos (by omega), if_pos (by omega), if_pos (by omega)]
    refine (map_idx (fun i out => (i, out)) (negF l b i) (fun row => self (((i + 1 : Nat) : Int), out ++ [row])) (len := (b.getD i []).length) (G := spec_l5Neg_g2 (run tb orc n) n self m l b ((i : Int), out)) (fun self2 k row hk hr => ?_) (fun self2 row hr => ?_) (b.getD i []).length 0 [] (by omega) rfl n (by omega)).trans rfl
    · show spec_l5Neg_x2 _ _ _ _ _ _ _ _ = _
      unfold spec_l5Neg_x2 negF
      dsimp only
      have r2 := q5 k hk
      rw [nat_i, if_pos (by omega), if_pos (by omega), if_pos (by omega), nat_i, w64 (n := 0 - (b.getD i []).getD k 0) (by omega) (by omega), l1Mod_ret hq (by omega) (by omega)]
      simp only [Option.bind_some]
      rw [if_pos (by rw [List.length_singleton]; exact lim_lt (by omega)), w64 (by omega) (by omega), ni1, Int.zero_sub]
    · show spec_l5Neg_x2 _ _ _ _ _ _ _ _ = _
      unfold spec_l5Neg_x2
      dsimp only
      rw [nat_i, if_neg (by omega), if_pos (by rw [List.length_singleton]; exact lim_lt (by omega)), w64 (by omega) (by omega), ni1]
  · show spec_l5Neg_x1 _ _ _ _ _ _ _ = _
    unfold spec_l5Neg_x1
    dsimp only
    rw [if_neg (by omega)]
theorem subRows_both (m : Int) (l : List Int) (a : Bool) (ra : List (List Int)) (b : Bool) (rb : List (List Int)) (hl : l.length < 1099511627776) (ha : ∀ x ∈ ra, x.length < 1099511627776) (hb : ∀ x ∈ rb, x.length < 1099511627776) :
    ∃ r : (Bool × List (List Int)) × Bool, SmallR r.1.2 ∧ ∀ n, Big + 20 ≤ n → c_impl_SubRows (run tb orc n) m l a ra b rb = some r ∧ c_spec_SubRows (run tb orc n) m l a ra b rb = some r := by
  refine ⟨if twoB m l a ra b rb = true then ((a, eachR l ra (subF l ra rb)), true) else ((false, []), false), ?_, fun n hn => ?_⟩
  · by_cases c : twoB m l a ra b rb = true
    · rw [if_pos c]; exact eachR_small (two_of c).1 _
    · rw [if_neg c]; exact SmallR.nil
  · obtain ⟨n, rfl, hq⟩ := up hn
    rw [impl_SubRows_eq, spec_SubRows_eq]; unfold impl_SubRows_f impl_SubRows_x spec_SubRows_f spec_SubRows_x
    rw [alike_i (by omega) hl ha hb, two_s (by omega) hl ha hb]
    simp only [Option.bind_some]
    by_cases c : twoB m l a ra b rb = true
    · obtain ⟨o1, o2, _⟩ := two_of c
      rw [if_pos c, c, if_neg nt, if_neg nt, subRows_i (by omega) o1 o2, l5Neg_ret (by omega) o2]
      simp only [Option.bind_some]
      have o3 := eachR_ok o2 (f := negF l rb) fun i k hi hk => by
        have := (o2.at hi).1
        unfold negF
        exact ⟨Int.emod_nonneg _ (by omega), Int.emod_lt_of_pos _ (by omega)⟩
      rw [l5Add_ret (by omega) o1 o3]
      refine ⟨trivial, ?_⟩
      have e : eachR l ra (addF l ra (eachR l rb (negF l rb))) = eachR l ra (subF l ra rb) := eachR_congr fun i k hi hk => by
        have a1 := (o1.at hi).2.2.1
        have a2 := (o2.at hi).2.2.1
        unfold addF subF
        rw [eachR_get hi, idxL_getD (by omega)]
        unfold negF
        rw [Int.add_emod_emod, ← Int.sub_eq_add_neg]
      rw [e]; rfl
    · have c' : twoB m l a ra b rb = false := by simpa using c
      rw [if_neg c, c']; exact ⟨rfl, rfl⟩
end Go.Proofs.YthanbjnpfenniaaDoor.Fw

/- AddRows: both sides. -/
import Derived.Test.YthanbjnpfenniaaDoorPAdd5
import Derived.Test.YthanbjnpfenniaaDoorEqLAddRows
namespace Go.Proofs.YthanbjnpfenniaaDoor.Fw
open Go Go.RowKit
set_option linter.unusedVariables false

theorem addRows1 {n : Nat} (hn : Big + 1 ≤ n) {m : Int} {l : List Int} {a b : List (List Int)} (ha : RowsOK m l a) (hb : RowsOK m l b) {i : Nat} (hi : i < l.length) :
    c_impl_addRows_1 (run tb orc n) i (l.getD i 0) a b = some (idxL (addF l a b i) 0 (a.getD i []).length) := by
  obtain ⟨n, rfl, hq⟩ := up hn
  have hbig := big_ge
  have l6 := ha.sp.bs.len
  obtain ⟨p1, p2, p3, p4, p5⟩ := ha.at hi
  obtain ⟨q1, q2, q3, q4, q5⟩ := hb.at hi
  have g1 := ha.len; have g2 := hb.len
  rw [impl_addRows_1_eq]; unfold impl_addRows_1_f impl_addRows_1_x
  rw [if_pos (by omega), if_pos (by omega)]
  refine (map_idx (fun i out => (i, out)) (addF l a b i) (fun out => some out) (len := (a.getD i []).length) (G := impl_addRows_1_g1 (run tb orc n) n i (l.getD i 0) a b) (fun self k out hk ho => ?_) (fun self out ho => ?_) (a.getD i []).length 0 [] (by omega) rfl n (by omega)).trans rfl
  · show impl_addRows_1_x1 _ _ _ _ _ _ _ = _
    unfold impl_addRows_1_x1 addF
    dsimp only
    have r1 := p5 k hk
    have r2 := q5 k (by omega)
    rw [nat_i, if_pos (by omega), if_pos (by omega), if_pos (by omega), if_pos (by omega), if_pos (by omega), if_pos (by omega), if_pos (by omega), if_neg (by omega), if_pos (by rw [List.length_singleton]; exact lim_lt (by omega)), nat_i, w64 (n := (a.getD i []).getD k 0 + (b.getD i []).getD k 0) (by omega) (by omega), w64 (by omega) (by omega), tmod_nn (by omega), ni1]
  · show impl_addRows_1_x1 _ _ _ _ _ _ _ = _
    unfold impl_addRows_1_x1
    dsimp only
    rw [nat_i, if_neg (by omega)]
theorem addRows_i {n : Nat} (hn : Big + 3 ≤ n) {m : Int} {l : List Int} {a b : List (List Int)} (ha : RowsOK m l a) (hb : RowsOK m l b) : c_impl_addRows (run tb orc n) m l a b = some (eachR l a (addF l a b)) := by
  obtain ⟨n, rfl, hq⟩ := up2 (k := 1) hn
  have hbig := big_ge
  have l6 := ha.sp.bs.len
  rw [impl_addRows_eq]; unfold impl_addRows_f impl_addRows_x
  rw [impl_each_impl_addRows_1_eq]; unfold impl_each_impl_addRows_1_f impl_each_impl_addRows_1_x
  have := each_loop ha (fun i => idxL (addF l a b i) 0 (a.getD i []).length) (G := impl_each_impl_addRows_1_g1 (run tb orc n) n m l a b) (n := n) (by omega) (fun self i out hi ho => ?_) (fun self out => ?_)
  · simp only [this, Option.bind_some]; rfl
  · show impl_each_impl_addRows_1_x1 _ _ _ _ _ _ _ = _
    unfold impl_each_impl_addRows_1_x1
    dsimp only
    rw [if_pos (by omega), if_pos (by omega), if_pos (by omega), nat_i, addRows1 hq ha hb hi]
    simp only [Option.bind_some]
    rw [if_pos (by rw [List.length_singleton]; exact lim_lt (by omega)), w64 (by omega) (by omega), ni1]
  · show impl_each_impl_addRows_1_x1 _ _ _ _ _ _ _ = _
    unfold impl_each_impl_addRows_1_x1
    dsimp only
    rw [if_neg (by omega)]
theorem addRows_both (m : Int) (l : List Int) (a : Bool) (ra : List (List Int)) (b : Bool) (rb : List (List Int)) (hl : l.length < 1099511627776) (ha : ∀ x ∈ ra, x.length < 1099511627776) (hb : ∀ x ∈ rb, x.length < 1099511627776) :
    ∃ r : (Bool × List (List Int)) × Bool, SmallR r.1.2 ∧ ∀ n, Big + 20 ≤ n → c_impl_AddRows (run tb orc n) m l a ra b rb = some r ∧ c_spec_AddRows (run tb orc n) m l a ra b rb = some r := by
  refine ⟨if twoB m l a ra b rb = true then ((a, eachR l ra (addF l ra rb)), true) else ((false, []), false), ?_, fun n hn => ?_⟩
  · by_cases c : twoB m l a ra b rb = true
    · rw [if_pos c]; exact eachR_small (two_of c).1 _
    · rw [if_neg c]; exact SmallR.nil
  · obtain ⟨n, rfl, hq⟩ := up hn
    rw [impl_AddRows_eq, spec_AddRows_eq]; unfold impl_AddRows_f impl_AddRows_x spec_AddRows_f spec_AddRows_x
    rw [alike_i (by omega) hl ha hb, two_s (by omega) hl ha hb]
    simp only [Option.bind_some]
    by_cases c : twoB m l a ra b rb = true
    · obtain ⟨o1, o2, _⟩ := two_of c
      rw [if_pos c, c, if_neg nt, if_neg nt, addRows_i (by omega) o1 o2, l5Add_ret (by omega) o1 o2]
      exact ⟨rfl, rfl⟩
    · have c' : twoB m l a ra b rb = false := by simpa using c
      rw [if_neg c, c']; exact ⟨rfl, rfl⟩
end Go.Proofs.YthanbjnpfenniaaDoor.Fw

/- MulRows: both sides. -/
import Derived.Test.YthanbjnpfenniaaDoorPTwo
import Derived.Test.YthanbjnpfenniaaDoorPEach
import Derived.Test.YthanbjnpfenniaaDoorEqLMulRows
namespace Go.Proofs.YthanbjnpfenniaaDoor.Fw
open Go Go.RowKit
set_option linter.unusedVariables false

def eachMR (l : List Int) (a b : List (List Int)) (i : Nat) : List Int := eachP (l.getD i 0) (a.getD i []) (b.getD i [])
def polyMR (l : List Int) (m : Nat) (a b : List (List Int)) (i : Nat) : List Int := mulP (l.getD i 0) m (a.getD i []) (b.getD i [])
theorem RowsOK.nat {m : Int} {l : List Int} {r : List (List Int)} (h : RowsOK m l r) : ∃ k : Nat, m = (k : Int) ∧ k ≤ 16 := by
  have := h.sp.n
  exact ⟨m.toNat, by omega, by omega⟩
theorem mulAhead_i {n : Nat} (hn : Big + 3 ≤ n) {m : Int} {l : List Int} {a b : List (List Int)} {s t : Bool} (ha : RowsOK m l a) (hb : RowsOK m l b) : c_impl_each_impl_MulRows_1 (run tb orc n) m l s a t b = some (idxL (eachMR l a b) 0 l.length) := by
  obtain ⟨n, rfl, hq⟩ := up (k := 2) hn
  have hbig := big_ge
  have l6 := ha.sp.bs.len
  have g1 := ha.len; have g2 := hb.len
  rw [impl_each_impl_MulRows_1_eq]; unfold impl_each_impl_MulRows_1_f impl_each_impl_MulRows_1_x
  refine each_loop ha (eachMR l a b) (G := impl_each_impl_MulRows_1_g1 (run tb orc n) n m l s a t b) (n := n) (by omega) (fun self i out hi ho => ?_) (fun self out => ?_)
  · show impl_each_impl_MulRows_1_x1 _ _ _ _ _ _ _ _ _ = _
    unfold impl_each_impl_MulRows_1_x1
    dsimp only
    obtain ⟨p1, p2, p3, p4, p5⟩ := ha.at hi
    obtain ⟨n, rfl, hq'⟩ := up (k := 1) hq
    rw [if_pos (by omega), if_pos (by omega), if_pos (by omega), nat_i, impl_MulRows_1_eq]
    unfold impl_MulRows_1_f impl_MulRows_1_x
    rw [if_pos (by omega), if_pos (by omega), if_pos (by omega), if_pos (by omega), nat_i, mulEach_i hq' p1 p2 (ha.row i hi) (hb.row i hi) p4]
    simp only [Option.bind_some]
    rw [if_pos (by rw [List.length_singleton]; exact lim_lt (by omega)), w64 (by omega) (by omega), ni1]; rfl
  · show impl_each_impl_MulRows_1_x1 _ _ _ _ _ _ _ _ _ = _
    unfold impl_each_impl_MulRows_1_x1
    dsimp only
    rw [if_neg (by omega)]
theorem mulRows_i {n : Nat} (hn : Big + 5 ≤ n) {m : Nat} {l : List Int} {a b : List (List Int)} (ha : RowsOK m l a) (hb : RowsOK m l b) : c_impl_mulRows (run tb orc n) m l a b = some (idxL (polyMR l m a b) 0 l.length) := by
  obtain ⟨n, rfl, hq⟩ := up2 (k := 3) hn
  have hbig := big_ge
  have l6 := ha.sp.bs.len
  have g1 := ha.len; have g2 := hb.len
  rw [impl_mulRows_eq]; unfold impl_mulRows_f impl_mulRows_x
  rw [impl_each_impl_mulRows_1_eq]; unfold impl_each_impl_mulRows_1_f impl_each_impl_mulRows_1_x
  have := each_loop ha (polyMR l m a b) (G := impl_each_impl_mulRows_1_g1 (run tb orc n) n m l a b) (n := n) (by omega) (fun self i out hi ho => ?_) (fun self out => ?_)
  · simp only [this, Option.bind_some]
  · show impl_each_impl_mulRows_1_x1 _ _ _ _ _ _ _ = _
    unfold impl_each_impl_mulRows_1_x1
    dsimp only
    obtain ⟨p1, p2, p3, p4, p5⟩ := ha.at hi
    obtain ⟨n, rfl, hq'⟩ := up (k := 2) hq
    rw [if_pos (by omega), if_pos (by omega), if_pos (by omega), nat_i, impl_mulRows_1_eq]
    unfold impl_mulRows_1_f impl_mulRows_1_x
    rw [if_pos (by omega), if_pos (by omega), if_pos (by omega), if_pos (by omega), nat_i, mulPoly_i hq' p1 p2 (ha.row i hi) (hb.row i hi) (by omega)]
    simp only [Option.bind_some]
    rw [if_pos (by rw [List.length_singleton]; exact lim_lt (by omega)), w64 (by omega) (by omega), ni1]; rfl
  · show impl_each_impl_mulRows_1_x1 _ _ _ _ _ _ _ = _
    unfold impl_each_impl_mulRows_1_x1
    dsimp only
    rw [if_neg (by omega)]
theorem l5Mul_ret {n : Nat} (hn : Big + 3 ≤ n) {m : Nat} {l : List Int} {a b : List (List Int)} (ha : RowsOK m l a) (hb : RowsOK m l b) : c_spec_l5Mul (run tb orc n) m l a b = some (idxL (polyMR l m a b) 0 l.length) := by
  obtain ⟨n, rfl, hq⟩ := up (k := 2) hn
  have hbig := big_ge
  have l6 := ha.sp.bs.len
  have g1 := ha.len; have g2 := hb.len
  rw [spec_l5Mul_eq]; unfold spec_l5Mul_f spec_l5Mul_x
  refine each_loop ha (polyMR l m a b) (G := spec_l5Mul_g1 (run tb orc n) n m l a b) (n := n) (by omega) (fun self i out hi ho => ?_) (fun self out => ?_)
  · show spec_l5Mul_x1 _ _ _ _ _ _ _ = _
    unfold spec_l5Mul_x1
    dsimp only
    obtain ⟨p1, p2, p3, p4, p5⟩ := ha.at hi
    rw [if_pos (by omega), if_pos (by omega), if_pos (by omega), if_pos (by omega), if_pos (by omega), if_pos (by omega), if_pos (by omega), nat_i, l3Mul_s hq p1 p2 (ha.row i hi) (hb.row i hi) (by omega)]
    simp only [Option.bind_some]
    rw [if_pos (by rw [List.length_singleton]; exact lim_lt (by omega)), w64 (by omega) (by omega), ni1]; rfl
  · show spec_l5Mul_x1 _ _ _ _ _ _ _ = _
    unfold spec_l5Mul_x1
    dsimp only
    rw [if_neg (by omega)]
theorem mulAhead_s {C : Ca tb} {n : Nat} (hn : Big ≤ n) {m : Int} {l : List Int} {a b : List (List Int)} {s t : Bool} (ha : RowsOK m l a) (hb : RowsOK m l b) : iterO (spec_MulRows_g1 C n m l s a t b) n (0, []) = some ((true, idxL (eachMR l a b) 0 l.length), true) := by
  have hbig := big_ge
  have l6 := ha.sp.bs.len
  have g1 := ha.len; have g2 := hb.len
  refine (map_idx (fun i out => (i, out)) (eachMR l a b) (fun out => some ((true, out), true)) (len := l.length) (G := spec_MulRows_g1 C n m l s a t b) (fun self i out hi ho => ?_) (fun self out ho => ?_) l.length 0 [] (by omega) rfl n (by omega)).trans rfl
  · show spec_MulRows_x1 _ _ _ _ _ _ _ _ _ _ = _
    unfold spec_MulRows_x1
    dsimp only
    obtain ⟨p1, p2, p3, p4, p5⟩ := ha.at hi
    obtain ⟨q1, q2, q3, q4, q5⟩ := hb.at hi
    rw [if_pos (by omega), if_pos (by omega), if_pos (by omega), if_pos (by omega), if_pos (by omega)]
    refine (map_idx (fun i out => (i, out)) (fun k => (a.getD i []).getD k 0 * (b.getD i []).getD k 0 % l.getD i 0) (fun row => self (((i + 1 : Nat) : Int), out ++ [row])) (len := (a.getD i []).length) (G := spec_MulRows_g2 C n self m l s a t b ((i : Int), out)) (fun self2 k row hk hr => ?_) (fun self2 row hr => ?_) (a.getD i []).length 0 [] (by omega) rfl n (by omega)).trans rfl
    · show spec_MulRows_x2 _ _ _ _ _ _ _ _ _ _ _ = _
      unfold spec_MulRows_x2
      dsimp only
      obtain ⟨w1, w2⟩ := small_mul p2 (p5 k hk) (q5 k (by omega))
      rw [nat_i, if_pos (by omega), if_pos (by omega), if_pos (by omega), if_pos (by omega), if_pos (by omega), if_pos (by omega), if_pos (by omega), if_pos (by omega), if_pos (by omega), if_neg (by omega), if_pos (by rw [List.length_singleton]; exact lim_lt (by omega)), nat_i, w64 (n := (a.getD i []).getD k 0 * (b.getD i []).getD k 0) (by omega) (by omega), w64 (by omega) (by omega), tmod_nn w1, ni1]
    · show spec_MulRows_x2 _ _ _ _ _ _ _ _ _ _ _ = _
      unfold spec_MulRows_x2
      dsimp only
      rw [nat_i, if_neg (by omega), if_pos (by rw [List.length_singleton]; exact lim_lt (by omega)), w64 (by omega) (by omega), ni1]
  · show spec_MulRows_x1 _ _ _ _ _ _ _ _ _ _ = _
    unfold spec_MulRows_x1
    dsimp only
    rw [if_neg (by omega)]
theorem mulRows_both (m : Int) (l : List Int) (a : Bool) (ra : List (List Int)) (b : Bool) (rb : List (List Int)) (hl : l.length < 1099511627776) (ha : ∀ x ∈ ra, x.length < 1099511627776) (hb : ∀ x ∈ rb, x.length < 1099511627776) :
    ∃ r : (Bool × List (List Int)) × Bool, SmallR r.1.2 ∧ ∀ n, Big + 20 ≤ n → c_impl_MulRows (run tb orc n) m l a ra b rb = some r ∧ c_spec_MulRows (run tb orc n) m l a ra b rb = some r := by
  by_cases c : twoB m l a ra b rb = true
  · obtain ⟨o1, o2, e⟩ := two_of c
    obtain ⟨k, rfl, k16⟩ := o1.nat
    cases a with
    | true =>
      refine ⟨((true, idxL (eachMR l ra rb) 0 l.length), true), smallR_idx o1.sp.bs.len fun i hi => ?_, fun n hn => ?_⟩
      · obtain ⟨p1, p2, p3, p4, p5⟩ := o1.at hi
        unfold eachMR eachP
        rw [idxL_length]; omega
      · obtain ⟨n, rfl, hq⟩ := up hn
        rw [impl_MulRows_eq, spec_MulRows_eq]; unfold impl_MulRows_f impl_MulRows_x spec_MulRows_f spec_MulRows_x
        rw [alike_i (by omega) hl ha hb, two_s (by omega) hl ha hb]
        simp only [Option.bind_some]
        rw [c]
        simp only [Bool.not_true, Bool.false_eq_true, if_true, if_false]
        rw [mulAhead_i (by omega) o1 o2, mulAhead_s (by omega) o1 o2]
        exact ⟨rfl, rfl⟩
    | false =>
      refine ⟨((false, idxL (polyMR l k ra rb) 0 l.length), true), smallR_idx o1.sp.bs.len fun i hi => ?_, fun n hn => ?_⟩
      · obtain ⟨p1, p2, p3, p4, p5⟩ := o1.at hi
        have := (mulP_poly (p := l.getD i 0) p1 (m := k) (a := ra.getD i []) (b := rb.getD i [])).len
        show (mulP (l.getD i 0) k (ra.getD i []) (rb.getD i [])).length ≤ 16
        omega
      · obtain ⟨n, rfl, hq⟩ := up hn
        rw [impl_MulRows_eq, spec_MulRows_eq]; unfold impl_MulRows_f impl_MulRows_x spec_MulRows_f spec_MulRows_x
        rw [alike_i (by omega) hl ha hb, two_s (by omega) hl ha hb]
        simp only [Option.bind_some]
        rw [c]
        simp only [Bool.not_true, Bool.not_false, Bool.false_eq_true, if_true, if_false]
        rw [mulRows_i (by omega) o1 o2, l5Mul_ret (by omega) o1 o2]
        exact ⟨rfl, rfl⟩
  · have c' : twoB m l a ra b rb = false := by simpa using c
    refine ⟨((false, []), false), SmallR.nil, fun n hn => ?_⟩
    obtain ⟨n, rfl, hq⟩ := up hn
    rw [impl_MulRows_eq, spec_MulRows_eq]; unfold impl_MulRows_f impl_MulRows_x spec_MulRows_f spec_MulRows_x
    rw [alike_i (by omega) hl ha hb, two_s (by omega) hl ha hb]
    simp only [Option.bind_some]
    rw [c']; exact ⟨rfl, rfl⟩
end Go.Proofs.YthanbjnpfenniaaDoor.Fw

/- Products of polynomials, place by place and in the ring: both sides. -/
import Derived.Test.YthanbjnpfenniaaDoorPPoly
import Derived.Test.YthanbjnpfenniaaDoorEqE
import Derived.Test.YthanbjnpfenniaaDoorEqF
namespace Go.Proofs.YthanbjnpfenniaaDoor.Fw
open Go Go.RowKit
set_option linter.unusedVariables false

theorem poly_set {p m : Int} {s : List Int} (h : PolyOK p m s) {k : Nat} {x : Int} (h0 : 0 ≤ x) (h1 : x < p) : PolyOK p m (s.set k x) := by
  refine ⟨by rw [List.length_set]; exact h.len, fun i hi => ?_⟩
  rw [List.length_set] at hi
  rw [getD_get (by rwa [List.length_set]), List.getElem_set]
  by_cases e : k = i
  · rw [if_pos e]; exact ⟨h0, h1⟩
  · rw [if_neg e, ← getD_get (d := (0 : Int)) hi]; exact h.rng i hi
theorem poly_zero {p : Int} (hp : 0 < p) {k : Nat} : PolyOK p (k : Int) (List.replicate k (0:Int)) := by
  refine ⟨by rw [List.length_replicate], fun i hi => ?_⟩
  rw [List.length_replicate] at hi
  rw [getD_get (by rwa [List.length_replicate]), List.getElem_replicate]
  omega
def eachP (p : Int) (a b : List Int) : List Int := idxL (fun i => a.getD i 0 * b.getD i 0 % p) 0 a.length
theorem small_mul {p : Int} {x y : Int} (hp' : p ≤ 268435456) (hx : 0 ≤ x ∧ x < p) (hy : 0 ≤ y ∧ y < p) : 0 ≤ x * y ∧ x * y ≤ 72057594037927936 :=
  mul_small hx.1 (by omega) hy.1 (by omega)
theorem each_poly {p m : Int} {a b : List Int} (hp : 2 ≤ p) (ha : PolyOK p m a) : PolyOK p m (eachP p a b) := by
  have := poly_idx (p := p) (f := fun i => a.getD i 0 * b.getD i 0 % p) (k := a.length) (fun j _ => ⟨Int.emod_nonneg _ (by omega), Int.emod_lt_of_pos _ (by omega)⟩)
  rwa [ha.len] at this
theorem mulEach_i {n : Nat} (hn : Big + 1 ≤ n) {p m : Int} (hp : 2 ≤ p) (hp' : p ≤ 268435456) {a b : List Int} (ha : PolyOK p m a) (hb : PolyOK p m b) (hm : m ≤ 16) : c_impl_mulEach (run tb orc n) a b p = some (eachP p a b) := by
  obtain ⟨n, rfl, hq⟩ := up hn
  have hbig := big_ge
  have l1 := ha.len; have l2 := hb.len
  rw [impl_mulEach_eq]; unfold impl_mulEach_f impl_mulEach_x
  refine (map_idx (fun i out => (i, out)) (fun i => a.getD i 0 * b.getD i 0 % p) (fun out => some out) (len := a.length) (G := impl_mulEach_g1 (run tb orc n) n a b p) (fun self i out hi ho => ?_) (fun self out ho => ?_) a.length 0 [] (by omega) rfl n (by omega)).trans rfl
  · show impl_mulEach_x1 _ _ _ _ _ _ = _
    unfold impl_mulEach_x1
    dsimp only
    obtain ⟨q1, q2⟩ := small_mul hp' (ha.rng i (by omega)) (hb.rng i (by omega))
    rw [if_pos (by omega), if_pos (by omega), if_pos (by omega), if_pos (by omega), if_pos (by omega), if_neg (by omega), if_pos (by rw [List.length_singleton]; exact lim_lt (by omega)), nat_i, w64 (by omega) (by omega), w64 (by omega) (by omega), tmod_nn q1, ni1]
  · show impl_mulEach_x1 _ _ _ _ _ _ = _
    unfold impl_mulEach_x1
    dsimp only
    rw [if_neg (by omega)]

/-- One step of the ring's product. -/
def mulStep (p : Int) (m : Nat) (a b : List Int) (i j : Nat) (s : List Int) : List Int :=
  if i + j < m then s.set (i + j) ((s.getD (i + j) 0 + a.getD i 0 * b.getD j 0) % p) else s.set (i + j - m) ((s.getD (i + j - m) 0 - a.getD i 0 * b.getD j 0) % p)
def mulP (p : Int) (m : Nat) (a b : List Int) : List Int := foldN (fun i s => foldN (mulStep p m a b i) 0 m s) 0 m (List.replicate m 0)
theorem step_poly {p : Int} (hp : 2 ≤ p) {m : Nat} {a b s : List Int} {i j : Nat} (hs : PolyOK p m s) : PolyOK p m (mulStep p m a b i j s) := by
  unfold mulStep
  split
  · exact poly_set hs (Int.emod_nonneg _ (by omega)) (Int.emod_lt_of_pos _ (by omega))
  · exact poly_set hs (Int.emod_nonneg _ (by omega)) (Int.emod_lt_of_pos _ (by omega))
theorem mulP_poly {p : Int} (hp : 2 ≤ p) {m : Nat} {a b : List Int} : PolyOK p m (mulP p m a b) :=
  fold_inv (fun i s hs => fold_inv (fun j s hs => step_poly hp hs) m 0 s hs) m 0 _ (poly_zero (by omega))
theorem mulPoly_i {n : Nat} (hn : Big + 2 ≤ n) {p : Int} {m : Nat} (hp : 2 ≤ p) (hp' : p ≤ 268435456) {a b : List Int} (ha : PolyOK p m a) (hb : PolyOK p m b) (hm : m ≤ 16) : c_impl_mulPoly (run tb orc n) a b p = some (mulP p m a b) := by
  obtain ⟨n, rfl, hq⟩ := up (k := 1) hn
  have hbig := big_ge
  have l1 := ha.len; have l2 := hb.len
  rw [impl_mulPoly_eq]; unfold impl_mulPoly_f impl_mulPoly_x
  rw [if_pos (by omega), nat_i, if_pos (limB_lt (by omega)), show a.length = m by omega]
  refine (fold_idx (fun i s => ((i, s) : Int × List Int)) (fun i s => foldN (mulStep p m a b i) 0 m s) (fun _ s => PolyOK p m s) (fun s => some s) (len := m) (G := impl_mulPoly_g1 (run tb orc n) n a b p) (fun self i s hi hs => ⟨fold_inv (fun j s hs => step_poly hp hs) m 0 s hs, ?_⟩) (fun self s hs => ?_) m 0 _ (by omega) (poly_zero (by omega)) n (by omega)).1
  · show impl_mulPoly_x1 _ _ _ _ _ _ _ = _
    unfold impl_mulPoly_x1
    dsimp only
    rw [if_pos (by omega), if_pos (by omega), if_pos (by omega)]
    refine (fold_idx (fun j s => ((j, s) : Int × List Int)) (mulStep p m a b i) (fun _ s => PolyOK p m s) (fun s' => self (((i + 1 : Nat) : Int), s')) (len := m) (G := impl_mulPoly_g2 (run tb orc n) n self a b p ((i : Int), s)) (fun self2 j s2 hj hs2 => ⟨step_poly hp hs2, ?_⟩) (fun self2 s2 hs2 => ?_) m 0 s (by omega) hs n (by omega)).1
    · show impl_mulPoly_x2 _ _ _ _ _ _ _ _ = _
      unfold impl_mulPoly_x2
      dsimp only
      obtain ⟨q1, q2⟩ := small_mul hp' (ha.rng i (by omega)) (hb.rng j (by omega))
      have ls := hs2.len
      rw [if_pos (by omega), if_pos (by omega), if_pos (by omega), w64 (n := (i : Int) + (j : Int)) (by omega) (by omega), w64 (n := (j : Int) + 1) (by omega) (by omega), ni1, nat_i, nat_i, w64 (n := a.getD i 0 * b.getD j 0) (by omega) (by omega)]
      unfold mulStep
      by_cases c : i + j < m
      · have r := hs2.rng (i + j) (by omega)
        rw [if_pos (by omega), if_pos (by omega), if_pos (by omega), if_neg (by omega), if_pos (by omega), if_pos (by omega), if_pos c, show (i : Int) + (j : Int) = ((i + j : Nat) : Int) by omega, nat_i, w64 (by omega) (by omega), tmod_nn (by omega)]
      · have r := hs2.rng (i + j - m) (by omega)
        have f1 : 0 ≤ a.getD i 0 * b.getD j 0 % p := Int.emod_nonneg _ (by omega)
        have f2 : a.getD i 0 * b.getD j 0 % p < p := Int.emod_lt_of_pos _ (by omega)
        rw [if_neg (by omega), w64 (n := (i : Int) + (j : Int) - (a.length : Int)) (by omega) (by omega), if_pos (by omega), if_pos (by omega), if_neg (by omega), tmod_nn q1, show (i : Int) + (j : Int) - (a.length : Int) = ((i + j - m : Nat) : Int) by omega, nat_i, w64 (by omega) (by omega), mod_ret hq (by omega) (by omega)]
        simp only [Option.bind_some]
        rw [if_pos (by omega), if_pos (by omega), if_neg c, Int.sub_emod_emod]
    · show impl_mulPoly_x2 _ _ _ _ _ _ _ _ = _
      unfold impl_mulPoly_x2
      dsimp only
      rw [if_neg (by omega), w64 (by omega) (by omega), ni1]
  · show impl_mulPoly_x1 _ _ _ _ _ _ _ = _
    unfold impl_mulPoly_x1
    dsimp only
    rw [if_neg (by omega)]
theorem l3Mul_s {n : Nat} (hn : Big + 2 ≤ n) {p v : Int} {m : Nat} (hp : 2 ≤ p) (hp' : p ≤ 268435456) {a b : List Int} (ha : PolyOK p m a) (hb : PolyOK p m b) (hm : m ≤ 16) : c_spec_l3Mul (run tb orc n) p m v a b = some (mulP p m a b) := by
  obtain ⟨n, rfl, hq⟩ := up (k := 1) hn
  have hbig := big_ge
  have l1 := ha.len; have l2 := hb.len
  rw [spec_l3Mul_eq]; unfold spec_l3Mul_f spec_l3Mul_x
  rw [if_pos (by omega), nat_i, if_pos (limB_lt (by omega))]
  refine (fold_idx (fun i s => ((i, s) : Int × List Int)) (fun i s => foldN (mulStep p m a b i) 0 m s) (fun _ s => PolyOK p m s) (fun s => some s) (len := m) (G := spec_l3Mul_g1 (run tb orc n) n p m v a b) (fun self i s hi hs => ⟨fold_inv (fun j s hs => step_poly hp hs) m 0 s hs, ?_⟩) (fun self s hs => ?_) m 0 _ (by omega) (poly_zero (by omega)) n (by omega)).1
  · show spec_l3Mul_x1 _ _ _ _ _ _ _ _ _ = _
    unfold spec_l3Mul_x1
    dsimp only
    rw [if_pos (by omega), if_pos (by omega), if_pos (by omega)]
    refine (fold_idx (fun j s => ((j, s) : Int × List Int)) (mulStep p m a b i) (fun _ s => PolyOK p m s) (fun s' => self (((i + 1 : Nat) : Int), s')) (len := m) (G := spec_l3Mul_g2 (run tb orc n) n self p m v a b ((i : Int), s)) (fun self2 j s2 hj hs2 => ⟨step_poly hp hs2, ?_⟩) (fun self2 s2 hs2 => ?_) m 0 s (by omega) hs n (by omega)).1
    · show spec_l3Mul_x2 _ _ _ _ _ _ _ _ _ _ = _
      unfold spec_l3Mul_x2
      dsimp only
      obtain ⟨q1, q2⟩ := small_mul hp' (ha.rng i (by omega)) (hb.rng j (by omega))
      have ls := hs2.len
      have f1 : 0 ≤ a.getD i 0 * b.getD j 0 % p := Int.emod_nonneg _ (by omega)
      have f2 : a.getD i 0 * b.getD j 0 % p < p := Int.emod_lt_of_pos _ (by omega)
      rw [if_pos (by omega), if_pos (by omega), if_pos (by omega), if_neg (by omega), w64 (n := (i : Int) + (j : Int)) (by omega) (by omega), w64 (n := (j : Int) + 1) (by omega) (by omega), ni1, nat_i, nat_i, w64 (n := a.getD i 0 * b.getD j 0) (by omega) (by omega), tmod_nn q1]
      unfold mulStep
      by_cases c : i + j < m
      · have r := hs2.rng (i + j) (by omega)
        rw [if_pos (by omega), if_pos (by omega), if_pos (by omega), if_neg (by omega), if_pos (by omega), if_pos (by omega), if_pos c, show (i : Int) + (j : Int) = ((i + j : Nat) : Int) by omega, nat_i, w64 (by omega) (by omega), tmod_nn (by omega), Int.add_emod_emod]
      · have r := hs2.rng (i + j - m) (by omega)
        rw [if_neg (by omega), w64 (n := (i : Int) + (j : Int) - (m : Int)) (by omega) (by omega), if_pos (by omega), if_pos (by omega), if_neg (by omega), show (i : Int) + (j : Int) - (m : Int) = ((i + j - m : Nat) : Int) by omega, nat_i, w64 (n := s2.getD (i + j - m) 0 + p) (by omega) (by omega), w64 (by omega) (by omega), tmod_nn (by omega)]
        rw [if_pos (by omega), if_pos (by omega), if_neg c]
        have e : (s2.getD (i + j - m) 0 + p - a.getD i 0 * b.getD j 0 % p) % p = (s2.getD (i + j - m) 0 - a.getD i 0 * b.getD j 0) % p := by
          rw [Int.sub_emod_emod, show s2.getD (i + j - m) 0 + p - a.getD i 0 * b.getD j 0 = s2.getD (i + j - m) 0 - a.getD i 0 * b.getD j 0 + p by omega, Int.add_emod_right]
        rw [e]
    · show spec_l3Mul_x2 _ _ _ _ _ _ _ _ _ _ = _
      unfold spec_l3Mul_x2
      dsimp only
      rw [if_neg (by omega), w64 (by omega) (by omega), ni1]
  · show spec_l3Mul_x1 _ _ _ _ _ _ _ _ _ = _
    unfold spec_l3Mul_x1
    dsimp only
    rw [if_neg (by omega)]
end Go.Proofs.YthanbjnpfenniaaDoor.Fw

/- Turned polynomials: both sides. -/
import Derived.Test.YtnbaahpbmhhofaaDoorPEach
import Derived.Test.YtnbaahpbmhhofaaDoorEqT
namespace Go.Proofs.YtnbaahpbmhhofaaDoor.Fw
open Go Go.RowKit
set_option linter.unusedVariables false

def oddB (m k : Int) : Bool := if decide (1 ≤ k ∧ k ≤ 2 * m - 1) = true then decide (k.tmod 2 = 1) else false
theorem odd_rng {m k : Int} (h : oddB m k = true) : 1 ≤ k ∧ k ≤ 2 * m - 1 := by
  unfold oddB at h
  by_cases c : 1 ≤ k ∧ k ≤ 2 * m - 1
  · exact c
  · rw [decide_eq_false c, if_neg (by simp)] at h; cases h
theorem isTurn_ret {n : Nat} (hn : Big + 2 ≤ n) {m k : Int} (h0 : 0 ≤ m) (h1 : m ≤ 64) : c_impl_isTurn (run tb orc n) m k = some (oddB m k) := by
  obtain ⟨n, rfl, hq⟩ := up (k := 1) hn
  rw [impl_isTurn_eq]; unfold impl_isTurn_f impl_isTurn_x oddB
  rw [w64 (n := 2 * m) (by omega) (by omega), w64 (by omega) (by omega), in_ret hq]
  simp only [Option.bind_some]
  by_cases c : decide (1 ≤ k ∧ k ≤ 2 * m - 1) = true
  · rw [if_pos c, if_pos c, if_neg (by omega)]
  · rw [if_neg c, if_neg c]
theorem l3Odd_ret {n : Nat} (hn : Big + 2 ≤ n) {m k : Int} (h0 : 0 ≤ m) (h1 : m ≤ 64) : c_spec_l3Odd (run tb orc n) m k = some (oddB m k) := by
  obtain ⟨n, rfl, hq⟩ := up (k := 1) hn
  rw [spec_l3Odd_eq]; unfold spec_l3Odd_f spec_l3Odd_x oddB
  rw [w64 (n := 2 * m) (by omega) (by omega), w64 (by omega) (by omega), l1In_ret hq]
  simp only [Option.bind_some]
  by_cases c : decide (1 ≤ k ∧ k ≤ 2 * m - 1) = true
  · rw [if_pos c, if_pos c, if_neg (by omega)]
  · rw [if_neg c, if_neg c]
/-- Where a coefficient goes. -/
def spot (m k : Nat) (i : Nat) : Nat := i * k % (2 * m)
def turnStep (p : Int) (m k : Nat) (a : List Int) (i : Nat) (s : List Int) : List Int :=
  if spot m k i < m then s.set (spot m k i) (a.getD i 0) else s.set (spot m k i - m) (-a.getD i 0 % p)
def turnP (p : Int) (m k : Nat) (a : List Int) : List Int := foldN (turnStep p m k a) 0 m (List.replicate m 0)
theorem turn_poly {p : Int} (hp : 2 ≤ p) {m k : Nat} {a s : List Int} (ha : PolyOK p m a) {i : Nat} (hi : i < m) (hs : PolyOK p m s) : PolyOK p m (turnStep p m k a i s) := by
  have hl := ha.len
  have r := ha.rng i (by omega)
  unfold turnStep
  split
  · exact poly_set hs r.1 r.2
  · exact poly_set hs (Int.emod_nonneg _ (by omega)) (Int.emod_lt_of_pos _ (by omega))
theorem foldN_inv {S : Type} {P : S → Prop} {len : Nat} {f : Nat → S → S} (h : ∀ i s, i < len → P s → P (f i s)) : ∀ (d i : Nat) (s : S), i + d = len → P s → P (foldN f i d s)
  | 0, _, _, _, hs => hs
  | d + 1, i, s, hi, hs => foldN_inv h d (i + 1) _ (by omega) (h i s (by omega) hs)
theorem turnP_poly {p : Int} (hp : 2 ≤ p) {m k : Nat} {a : List Int} (ha : PolyOK p m a) : PolyOK p m (turnP p m k a) :=
  foldN_inv (len := m) (fun i s hi hs => turn_poly hp ha hi hs) m 0 _ (by omega) (poly_zero (by omega))
theorem spot_int {m k i : Nat} : (i : Int) * (k : Int) % (2 * (m : Int)) = (spot m k i : Int) := by
  unfold spot; push_cast; rfl
theorem spot_lt {m k i : Nat} (h : 0 < m) : spot m k i < 2 * m := Nat.mod_lt _ (by omega)
theorem turned_i {n : Nat} (hn : Big + 4 ≤ n) {p : Int} {m k : Nat} (hp : 2 ≤ p) (hp' : p ≤ 268435456) {a : List Int} (ha : PolyOK p m a) (h0 : 0 < m) (hm : m ≤ 64) (hk : k ≤ 128) : c_impl_turnPoly (run tb orc n) a k p = some (turnP p m k a) := by
  obtain ⟨n, rfl, hq⟩ := up2 (k := 2) hn
  have hbig := big_ge
  have l1 := ha.len
  have la : a.length = m := by omega
  rw [impl_turnPoly_eq]; unfold impl_turnPoly_f impl_turnPoly_x
  rw [impl_turned_int_impl_turnPoly_1_eq]; unfold impl_turned_int_impl_turnPoly_1_f impl_turned_int_impl_turnPoly_1_x
  rw [if_pos (by omega), nat_i, if_pos (limB_lt (by omega)), la]
  have := (fold_idx (fun i s => ((i, s) : Int × List Int)) (turnStep p m k a) (fun _ s => PolyOK p m s) (fun s => some s) (len := m) (G := impl_turned_int_impl_turnPoly_1_g1 (run tb orc n) n a k p) (fun self i s hi hs => ⟨turn_poly hp ha hi hs, ?_⟩) (fun self s hs => ?_) m 0 _ (by omega) (poly_zero (by omega)) n (by omega)).1
  · have this' : iterO (impl_turned_int_impl_turnPoly_1_g1 (run tb orc n) n a k p) n (0, List.replicate m 0) = some (turnP p m k a) := this
    simp only [this', Option.bind_some]
  · show impl_turned_int_impl_turnPoly_1_x1 _ _ _ _ _ _ = _
    unfold impl_turned_int_impl_turnPoly_1_x1
    dsimp only
    have q1 : 0 ≤ (i : Int) * (k : Int) := Int.mul_nonneg (by omega) (by omega)
    have q2 : (i : Int) * (k : Int) ≤ 64 * 128 := Int.mul_le_mul (by omega) (by omega) (by omega) (by omega)
    have ls := hs.len
    have r := ha.rng i (by omega)
    have sl := spot_lt (m := m) (k := k) (i := i) h0
    rw [if_pos (by omega), if_pos (by omega), if_pos (by omega), w64 (n := 2 * (a.length : Int)) (by omega) (by omega), if_neg (by omega), w64 (n := (i : Int) * (k : Int)) (by omega) (by omega), tmod_nn q1, show (a.length : Int) = (m : Int) by omega, spot_int, nat_i, nat_i, w64 (n := (i : Int) + 1) (by omega) (by omega), ni1]
    unfold turnStep
    by_cases c : spot m k i < m
    · rw [if_pos (by omega), if_pos (by omega), if_pos (by omega), if_pos c]
    · obtain ⟨n, rfl, hq'⟩ := up (k := 1) hq
      rw [if_neg (by omega), impl_turnPoly_1_eq]
      unfold impl_turnPoly_1_f impl_turnPoly_1_x
      rw [w64 (n := 0 - a.getD i 0) (by omega) (by omega), mod_ret hq' (by omega) (by omega)]
      simp only [Option.bind_some]
      rw [w64 (n := (spot m k i : Int) - (m : Int)) (by omega) (by omega), if_pos (by omega), if_pos (by omega), if_neg c, show (spot m k i : Int) - (m : Int) = ((spot m k i - m : Nat) : Int) by omega, nat_i, Int.zero_sub]
  · show impl_turned_int_impl_turnPoly_1_x1 _ _ _ _ _ _ = _
    unfold impl_turned_int_impl_turnPoly_1_x1
    dsimp only
    rw [if_neg (by omega)]
theorem turn_s {n : Nat} (hn : Big + 2 ≤ n) {p : Int} {m k : Nat} (hp : 2 ≤ p) (hp' : p ≤ 268435456) {a : List Int} (ha : PolyOK p m a) (h0 : 0 < m) (hm : m ≤ 64) (hk : k ≤ 128) : c_spec_l3Turn (run tb orc n) p m a k = some (turnP p m k a) := by
  obtain ⟨n, rfl, hq⟩ := up (k := 1) hn
  have hbig := big_ge
  have l1 := ha.len
  rw [spec_l3Turn_eq]; unfold spec_l3Turn_f spec_l3Turn_x
  rw [if_pos (by omega), nat_i, if_pos (limB_lt (by omega))]
  refine (fold_idx (fun i s => ((i, s) : Int × List Int)) (turnStep p m k a) (fun _ s => PolyOK p m s) (fun s => some s) (len := m) (G := spec_l3Turn_g1 (run tb orc n) n p m a k) (fun self i s hi hs => ⟨turn_poly hp ha hi hs, ?_⟩) (fun self s hs => ?_) m 0 _ (by omega) (poly_zero (by omega)) n (by omega)).1
  · show spec_l3Turn_x1 _ _ _ _ _ _ _ = _
    unfold spec_l3Turn_x1
    dsimp only
    have q1 : 0 ≤ (i : Int) * (k : Int) := Int.mul_nonneg (by omega) (by omega)
    have q2 : (i : Int) * (k : Int) ≤ 64 * 128 := Int.mul_le_mul (by omega) (by omega) (by omega) (by omega)
    have ls := hs.len
    have r := ha.rng i (by omega)
    have sl := spot_lt (m := m) (k := k) (i := i) h0
    rw [if_pos (by omega), if_pos (by omega), if_pos (by omega), w64 (n := 2 * (m : Int)) (by omega) (by omega), if_neg (by omega), w64 (n := (i : Int) * (k : Int)) (by omega) (by omega), tmod_nn q1, spot_int, nat_i, nat_i, w64 (n := (i : Int) + 1) (by omega) (by omega), ni1]
    unfold turnStep
    by_cases c : spot m k i < m
    · rw [if_pos (by omega), if_pos (by omega), if_pos (by omega), if_pos c]
    · rw [if_neg (by omega), w64 (n := 0 - a.getD i 0) (by omega) (by omega), l1Mod_ret hq (by omega) (by omega)]
      simp only [Option.bind_some]
      rw [w64 (n := (spot m k i : Int) - (m : Int)) (by omega) (by omega), if_pos (by omega), if_pos (by omega), if_neg c, show (spot m k i : Int) - (m : Int) = ((spot m k i - m : Nat) : Int) by omega, nat_i, Int.zero_sub]
  · show spec_l3Turn_x1 _ _ _ _ _ _ _ = _
    unfold spec_l3Turn_x1
    dsimp only
    rw [if_neg (by omega)]
end Go.Proofs.YtnbaahpbmhhofaaDoor.Fw

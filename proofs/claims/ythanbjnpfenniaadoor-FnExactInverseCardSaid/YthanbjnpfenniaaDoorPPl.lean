/- The exponents of a ring's points: both sides. -/
import Derived.Test.YthanbjnpfenniaaDoorPRing0
import Derived.Test.YthanbjnpfenniaaDoorPLoop
import Derived.Test.YthanbjnpfenniaaDoorPLz
import Derived.Test.YthanbjnpfenniaaDoorPBits
import Derived.Test.YthanbjnpfenniaaDoorEqPl
namespace Go.Proofs.YthanbjnpfenniaaDoor.Fw
open Go Go.RowKit
set_option linter.unusedVariables false

/-- Bits, from the last to the first. -/
def bb : Nat → Nat → Nat → Nat
  | 0, _, out => out
  | b + 1, k, out => bb b (k / 2) (2 * out + k % 2)
theorem bb_lt : ∀ (b k out : Nat), bb b k out < (out + 1) * 2 ^ b
  | 0, k, out => by simp [bb]
  | b + 1, k, out => by
    have h := bb_lt b (k / 2) (2 * out + k % 2)
    have h2 : (2 * out + k % 2 + 1) * 2 ^ b ≤ (2 * out + 2) * 2 ^ b := Nat.mul_le_mul_right _ (by omega)
    have h3 : (2 * out + 2) * 2 ^ b = (out + 1) * 2 ^ (b + 1) := by rw [Nat.pow_succ, Nat.mul_comm (2 ^ b) 2, ← Nat.mul_assoc]; congr 1; omega
    show bb b (k / 2) (2 * out + k % 2) < _
    omega
theorem shl_1 {x : Int} (h0 : 0 ≤ x) (h1 : x ≤ 1099511627776) : shl .i64 x (1 : Int) = 2 * x := by
  unfold shl
  rw [show min (1 : Int).toNat IntKind.i64.bits = 1 from rfl, show (2 : Int) ^ 1 = 2 from rfl, Int.mul_comm]
  exact w64 (by omega) (by omega)
theorem shr_1 (x : Int) : shr .i64 x (1 : Int) = x / 2 := by unfold shr; rfl
theorem bitBack_from {C : Ca tb} {N b : Nat} (hb : b ≤ 10) : ∀ (d k out c : Nat), c + d = b → (out + 1) * 2 ^ d ≤ 1024 → k ≤ 4611686018427387904 → ∀ K, d < K → iterO (impl_bitBack_g1 C N b) K ((k : Int), (out : Int), (c : Int)) = some (bb d k out : Int)
  | 0, k, out, c, hc, ho, hk, K, hK => by
    obtain ⟨K, rfl⟩ : ∃ j, K = j + 1 := ⟨K - 1, by omega⟩
    show impl_bitBack_x1 C _ _ _ = _
    unfold impl_bitBack_x1
    dsimp only
    rw [if_neg (by omega)]; rfl
  | d + 1, k, out, c, hc, ho, hk, K, hK => by
    obtain ⟨K, rfl⟩ : ∃ j, K = j + 1 := ⟨K - 1, by omega⟩
    have hp : 0 < 2 ^ (d + 1) := Nat.pow_pos (by omega)
    have ho1 : (out + 1) * 1 ≤ (out + 1) * 2 ^ (d + 1) := Nat.mul_le_mul_left _ hp
    have h2 : (2 * out + k % 2 + 1) * 2 ^ d ≤ (2 * out + 2) * 2 ^ d := Nat.mul_le_mul_right _ (by omega)
    have h3 : (2 * out + 2) * 2 ^ d = (out + 1) * 2 ^ (d + 1) := by rw [Nat.pow_succ, Nat.mul_comm (2 ^ d) 2, ← Nat.mul_assoc]; congr 1; omega
    refine Eq.trans ?_ (bitBack_from (C := C) (N := N) hb d (k / 2) (2 * out + k % 2) (c + 1) (by omega) (by omega) (by omega) K (by omega))
    show impl_bitBack_x1 C _ _ _ = _
    unfold impl_bitBack_x1
    dsimp only
    rw [if_pos (by omega), if_neg (by omega), if_neg (by omega), shr_1, shl_1 (by omega) (by omega), and_one_i64, or_i64_add 1 (by omega) (by omega) (by rw [show (2 : Int) ^ 1 = 2 from rfl]; omega) (by rw [show (2 : Int) ^ 1 = 2 from rfl]; omega) (by omega), w64 (by omega) (by omega)]
    congr 2
theorem bitBack_ret {n : Nat} (hn : Big + 1 ≤ n) {k b : Nat} (hb : b ≤ 10) (hk : k ≤ 4611686018427387904) : c_impl_bitBack (run tb orc n) k b = some (bb b k 0 : Int) := by
  obtain ⟨n, rfl, hq⟩ := up hn
  have hbig := big_ge
  rw [impl_bitBack_eq]; unfold impl_bitBack_f impl_bitBack_x
  have hp : 2 ^ b ≤ 2 ^ 10 := Nat.pow_le_pow_right (by omega) hb
  exact bitBack_from hb b k 0 0 (by omega) (by simpa using hp) hk n (by omega)
theorem l3Back_from {C : Ca tb} {N : Nat} : ∀ (d k out : Nat), d ≤ 10 → (out + 1) * 2 ^ d ≤ 1024 → k ≤ 4611686018427387904 → ∀ K, d < K → iterO (spec_l3Back_g1 C N) K ((k : Int), (d : Int), (out : Int)) = some (bb d k out : Int)
  | 0, k, out, hd, ho, hk, K, hK => by
    obtain ⟨K, rfl⟩ : ∃ j, K = j + 1 := ⟨K - 1, by omega⟩
    rw [iterO_succ]; unfold spec_l3Back_g1 spec_l3Back_x1
    dsimp only
    rw [if_neg (by omega)]; rfl
  | d + 1, k, out, hd, ho, hk, K, hK => by
    obtain ⟨K, rfl⟩ : ∃ j, K = j + 1 := ⟨K - 1, by omega⟩
    have hp : 0 < 2 ^ (d + 1) := Nat.pow_pos (by omega)
    have ho1 : (out + 1) * 1 ≤ (out + 1) * 2 ^ (d + 1) := Nat.mul_le_mul_left _ hp
    have h2 : (2 * out + k % 2 + 1) * 2 ^ d ≤ (2 * out + 2) * 2 ^ d := Nat.mul_le_mul_right _ (by omega)
    have h3 : (2 * out + 2) * 2 ^ d = (out + 1) * 2 ^ (d + 1) := by rw [Nat.pow_succ, Nat.mul_comm (2 ^ d) 2, ← Nat.mul_assoc]; congr 1; omega
    refine Eq.trans ?_ (l3Back_from (C := C) (N := N) d (k / 2) (2 * out + k % 2) (by omega) (by omega) (by omega) K (by omega))
    show spec_l3Back_x1 C _ _ = _
    unfold spec_l3Back_x1
    dsimp only
    rw [if_pos (by omega), if_neg (by omega), if_neg (by omega), tdiv_nn (by omega), tmod_nn (by omega), w64 (n := (k : Int) / 2) (by omega) (by omega), w64 (n := ((d + 1 : Nat) : Int) - 1) (by omega) (by omega), w64 (n := 2 * (out : Int)) (by omega) (by omega), w64 (by omega) (by omega)]
    rw [show ((d + 1 : Nat) : Int) - 1 = (d : Int) by omega, show (k : Int) / 2 = ((k / 2 : Nat) : Int) by omega, show 2 * (out : Int) + (k : Int) % 2 = ((2 * out + k % 2 : Nat) : Int) by omega]
theorem l3Back_ret {n : Nat} (hn : Big + 1 ≤ n) {k b : Nat} (hb : b ≤ 10) (hk : k ≤ 4611686018427387904) : c_spec_l3Back (run tb orc n) k b = some (bb b k 0 : Int) := by
  obtain ⟨n, rfl, hq⟩ := up hn
  have hbig := big_ge
  rw [spec_l3Back_eq]; unfold spec_l3Back_f spec_l3Back_x
  have hp : 2 ^ b ≤ 2 ^ 10 := Nat.pow_le_pow_right (by omega) hb
  exact l3Back_from b k 0 hb (by simpa using hp) hk n (by omega)
def lbits : Nat → Nat → Nat
  | 0, _ => 0
  | d + 1, x => if x = 0 then 0 else lbits d (x / 2) + 1
theorem l1Bits_from {C : Ca tb} {N : Nat} : ∀ (d x c : Nat), x < 2 ^ d → c + d ≤ 100 → x ≤ 4611686018427387904 → ∀ K, d < K → iterO (spec_l1Bits_g1 C N) K ((x : Int), (c : Int)) = some ((c + lbits d x : Nat) : Int)
  | 0, x, c, hx, hc, hb, K, hK => by
    obtain ⟨K, rfl⟩ : ∃ j, K = j + 1 := ⟨K - 1, by omega⟩
    rw [iterO_succ]; unfold spec_l1Bits_g1 spec_l1Bits_x1
    dsimp only
    rw [if_neg (by omega)]; rfl
  | d + 1, x, c, hx, hc, hb, K, hK => by
    obtain ⟨K, rfl⟩ : ∃ j, K = j + 1 := ⟨K - 1, by omega⟩
    have e : lbits (d + 1) x = if x = 0 then 0 else lbits d (x / 2) + 1 := rfl
    by_cases h : x = 0
    · rw [e, if_pos h, h]
      rw [iterO_succ]; unfold spec_l1Bits_g1 spec_l1Bits_x1
      dsimp only
      rw [if_neg (by omega)]; rfl
    · rw [e, if_neg h]
      have hx' : x / 2 < 2 ^ d := by rw [Nat.pow_succ] at hx; omega
      refine Eq.trans ?_ ((l1Bits_from (C := C) (N := N) d (x / 2) (c + 1) hx' (by omega) (by omega) K (by omega)).trans ?_)
      · show spec_l1Bits_x1 C _ _ = _
        unfold spec_l1Bits_x1
        dsimp only
        rw [if_pos (by omega), if_neg (by omega), shr_1, w64 (by omega) (by omega)]
        congr 2
      · congr 2; omega
theorem l1Bits_ret {n : Nat} (hn : Big + 1 ≤ n) {x : Nat} (hx : x < 2 ^ 60) : c_spec_l1Bits (run tb orc n) x = some (lbits 60 x : Int) := by
  obtain ⟨n, rfl, hq⟩ := up hn
  have hbig := big_ge
  rw [spec_l1Bits_eq]; unfold spec_l1Bits_f spec_l1Bits_x
  have := l1Bits_from (C := run tb orc n) (N := n) 60 x 0 hx (by omega) (by omega) n (by omega)
  rw [Nat.zero_add] at this
  exact this
/-- The bits of a ring's N. -/
def lgN (m : Nat) : Nat := if m = 2 then 1 else if m = 4 then 2 else if m = 8 then 3 else 4
def ptAt (m k : Nat) : Nat := 2 * bb (lgN m) k 0 + 1
def ptsP (m : Nat) : List Int := idxL (fun k => (ptAt m k : Int)) 0 m
theorem lg_pow {m : Nat} (h : m = 2 ∨ m = 4 ∨ m = 8 ∨ m = 16) : 2 ^ lgN m = m ∧ lgN m ≤ 4 := by
  rcases h with rfl | rfl | rfl | rfl <;> decide
theorem pt_rng {m k : Nat} (h : m = 2 ∨ m = 4 ∨ m = 8 ∨ m = 16) : 1 ≤ ptAt m k ∧ ptAt m k < 2 * m := by
  have h1 := bb_lt (lgN m) k 0
  rw [(lg_pow h).1] at h1
  unfold ptAt
  omega
theorem nb_N {m : Nat} (h : m = 2 ∨ m = 4 ∨ m = 8 ∨ m = 16) : nb m = lgN m + 1 ∧ lbits 60 m = lgN m + 1 := by
  rcases h with rfl | rfl | rfl | rfl <;> exact ⟨by decide, by decide⟩
theorem oddOf_ret {n : Nat} (hn : Big + 3 ≤ n) {m k : Nat} (h : m = 2 ∨ m = 4 ∨ m = 8 ∨ m = 16) (hk : k < m) : c_impl_oddOf (run tb orc n) m k = some (ptAt m k : Int) := by
  obtain ⟨n, rfl, hq⟩ := up2 (k := 1) hn
  rw [impl_oddOf_eq]; unfold impl_oddOf_f impl_oddOf_x
  rw [bits_Len_eq]; unfold bits_Len_f bits_Len_x
  rw [wu64 (by omega) (by omega), len64_full hq (by omega) (by omega)]
  simp only [Option.bind_some]
  rw [nat_i, (nb_N h).1, w64 (n := ((lgN m + 1 : Nat) : Int) - 1) (by have := (lg_pow h).2; omega) (by have := (lg_pow h).2; omega), show ((lgN m + 1 : Nat) : Int) - 1 = (lgN m : Int) by omega, bitBack_ret (by omega) (by have := (lg_pow h).2; omega) (by omega)]
  simp only [Option.bind_some]
  have r := pt_rng (k := k) h
  unfold ptAt at r ⊢
  rw [w64 (n := 2 * (bb (lgN m) k 0 : Int)) (by omega) (by omega), w64 (by omega) (by omega)]
  congr 1
theorem places_ret {n : Nat} (hn : Big + 4 ≤ n) {m : Nat} (h : m = 2 ∨ m = 4 ∨ m = 8 ∨ m = 16) : c_impl_places (run tb orc n) m = some (ptsP m) := by
  obtain ⟨n, rfl, hq⟩ := up (k := 3) hn
  have hbig := big_ge
  rw [impl_places_eq]; unfold impl_places_f impl_places_x
  refine (map_idx (fun i out => (i, out)) (fun k => (ptAt m k : Int)) (fun out => some out) (len := m) (G := impl_places_g1 (run tb orc n) n m) (fun self k out hk ho => ?_) (fun self out ho => ?_) m 0 [] (by omega) rfl n (by omega)).trans rfl
  · show impl_places_x1 _ _ _ _ = _
    unfold impl_places_x1
    dsimp only
    rw [if_pos (by omega), oddOf_ret hq h hk]
    simp only [Option.bind_some]
    rw [if_pos (by rw [List.length_singleton]; exact lim_lt (by omega)), w64 (by omega) (by omega), ni1]
  · show impl_places_x1 _ _ _ _ = _
    unfold impl_places_x1
    dsimp only
    rw [if_neg (by omega)]
theorem points_ret {n : Nat} (hn : Big + 2 ≤ n) {m : Nat} (h : m = 2 ∨ m = 4 ∨ m = 8 ∨ m = 16) : c_spec_l3Points (run tb orc n) m = some (ptsP m) := by
  obtain ⟨n, rfl, hq⟩ := up (k := 1) hn
  have hbig := big_ge
  have h4 := (lg_pow h).2
  rw [spec_l3Points_eq]; unfold spec_l3Points_f spec_l3Points_x
  rw [l1Bits_ret (by omega) (by omega)]
  simp only [Option.bind_some]
  rw [(nb_N h).2]
  refine (map_idx (fun i out => (i, out)) (fun k => (ptAt m k : Int)) (fun out => some out) (len := m) (G := spec_l3Points_g1 (run tb orc n) n m ((lgN m + 1 : Nat) : Int)) (fun self k out hk ho => ?_) (fun self out ho => ?_) m 0 [] (by omega) rfl n (by omega)).trans rfl
  · show spec_l3Points_x1 _ _ _ _ _ = _
    unfold spec_l3Points_x1
    dsimp only
    rw [if_pos (by omega), w64 (n := ((lgN m + 1 : Nat) : Int) - 1) (by omega) (by omega), show ((lgN m + 1 : Nat) : Int) - 1 = (lgN m : Int) by omega, l3Back_ret (by omega) (by omega) (by omega)]
    simp only [Option.bind_some]
    have r := pt_rng (k := k) h
    have e : ((ptAt m k : Nat) : Int) = 2 * (bb (lgN m) k 0 : Int) + 1 := by unfold ptAt; omega
    rw [w64 (n := 2 * (bb (lgN m) k 0 : Int)) (by omega) (by omega), w64 (n := 2 * (bb (lgN m) k 0 : Int) + 1) (by omega) (by omega), if_pos (by rw [List.length_singleton]; exact lim_lt (by omega)), w64 (by omega) (by omega), ni1, e]
  · show spec_l3Points_x1 _ _ _ _ _ = _
    unfold spec_l3Points_x1
    dsimp only
    rw [if_neg (by omega)]
end Go.Proofs.YthanbjnpfenniaaDoor.Fw

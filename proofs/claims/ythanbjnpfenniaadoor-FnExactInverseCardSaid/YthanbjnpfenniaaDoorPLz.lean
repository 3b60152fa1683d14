/- The library's division of two words by one. -/
import Derived.Test.YthanbjnpfenniaaDoorPU64
import Derived.Test.YthanbjnpfenniaaDoorPNb
import Derived.Test.YthanbjnpfenniaaDoorDiv64
import Derived.Test.YthanbjnpfenniaaDoorEqP
namespace Go.Proofs.YthanbjnpfenniaaDoor.Fw
open Go Go.RowKit Go.Proofs.YthanbjnpfenniaaDoor.Div64
set_option linter.unusedVariables false
set_option linter.unusedSimpArgs false

theorem len8_part {z : Int} (h0 : 0 ≤ z) (h1 : z < 256) : nb z.toNat ≤ 8 := nb_bound (by omega)
/-- The table's part, wherever it is reached. -/
theorem len64_part {z a : Int} (h0 : 0 ≤ z) (h1 : z < 256) (ha : 0 ≤ a) (hb : a ≤ 56) :
    (if 0 ≤ wr .u8 z then (if wr .u8 z < (Go.Lib.len8tab.size : Int) then some (wr .i64 (a + (wr .i64 (strAt Go.Lib.len8tab (wr .u8 z))))) else none) else none) = some (a + (nb z.toNat : Int)) := by
  have hl := len8_part h0 h1
  rw [wu8 h0 h1, tab_size, if_pos h0, if_pos h1, tab h0 h1, w64 (n := (nb z.toNat : Int)) (by omega) (by omega), w64 (by omega) (by omega)]
theorem len64_full {n : Nat} (hn : Big + 1 ≤ n) {x : Int} (h0 : 0 ≤ x) (h1 : x < 18446744073709551616) : c_bits_Len64 (run tb orc n) x = some (nb x.toNat : Int) := by
  obtain ⟨n, rfl, hm⟩ := up hn
  rw [bits_Len64_eq]; unfold bits_Len64_f bits_Len64_x
  have hs : ∀ (s : Nat) (z : Int), 2 ^ s ≤ x.toNat → x.toNat / 2 ^ s = z.toNat → (some ((s : Int) + (nb z.toNat : Int)) : Option Int) = some (nb x.toNat : Int) := fun s z h e => by rw [nb_shift s _ h, e]; congr 1; omega
  simp only [(shru _).1, (shru _).2.1, (shru _).2.2]
  have w1 : wr .i64 (0 + 16) = 16 := w64 (by decide) (by decide)
  have w2 : wr .i64 (0 + 8) = 8 := w64 (by decide) (by decide)
  have w3 : wr .i64 (16 + 8) = 24 := w64 (by decide) (by decide)
  have w4 : wr .i64 (32 + 16) = 48 := w64 (by decide) (by decide)
  have w5 : wr .i64 (48 + 8) = 56 := w64 (by decide) (by decide)
  have w6 : wr .i64 (32 + 8) = 40 := w64 (by decide) (by decide)
  simp only [w1, w2, w3, w4, w5, w6]
  have n32 : ¬ ((32 : Int) < 0) := by decide
  have n16 : ¬ ((16 : Int) < 0) := by decide
  have n8 : ¬ ((8 : Int) < 0) := by decide
  simp only [n32, n16, n8, if_false]
  by_cases c : x ≥ 4294967296
  · rw [if_pos c]
    by_cases a : x / 4294967296 ≥ 65536
    · rw [if_pos a]
      by_cases b : x / 4294967296 / 65536 ≥ 256
      · rw [if_pos b, len64_part (by omega) (by omega) (by omega) (by omega)]; exact hs 56 _ (by omega) (by omega)
      · rw [if_neg b, len64_part (by omega) (by omega) (by omega) (by omega)]; exact hs 48 _ (by omega) (by omega)
    · rw [if_neg a]
      by_cases b : x / 4294967296 ≥ 256
      · rw [if_pos b, len64_part (by omega) (by omega) (by omega) (by omega)]; exact hs 40 _ (by omega) (by omega)
      · rw [if_neg b, len64_part (by omega) (by omega) (by omega) (by omega)]; exact hs 32 _ (by omega) (by omega)
  · rw [if_neg c]
    by_cases a : x ≥ 65536
    · rw [if_pos a]
      by_cases b : x / 65536 ≥ 256
      · rw [if_pos b, len64_part (by omega) (by omega) (by omega) (by omega)]; exact hs 24 _ (by omega) (by omega)
      · rw [if_neg b, len64_part (by omega) (by omega) (by omega) (by omega)]; exact hs 16 _ (by omega) (by omega)
    · rw [if_neg a]
      by_cases b : x ≥ 256
      · rw [if_pos b, len64_part (by omega) (by omega) (by omega) (by omega)]; exact hs 8 _ (by omega) (by omega)
      · rw [if_neg b, len64_part (by omega) (by omega) (by omega) (by omega)]; congr 1; omega
/-- A figure of 32 bits is guessed and mended: the loop of a division. -/
theorem fig_loop {R : Type} {u d v1 v0 : Int} (hu : u < v1 * 4294967296 + v0) (hd0 : 0 ≤ d) (hd : d < 4294967296) (h1 : 0 < v1) (h0 : 0 ≤ v0) (h0' : v0 < 4294967296) (res : Option R) {V : Type} (mk : Int → Int → V) {G : (V → Option R) → V → Option R}
    (hs : ∀ self q r, 0 < q → 0 ≤ r → q * v1 + r = u → (4294967296 ≤ q ∨ (q < 4294967296 ∧ 4294967296 * r + d < q * v0)) → r + v1 < 4294967296 → G self (mk q r) = self (mk (q - 1) (r + v1)))
    (hb : ∀ self q r, 0 < q → 0 ≤ r → r < 4294967296 → q * v1 + r = u → (4294967296 ≤ q ∨ (q < 4294967296 ∧ 4294967296 * r + d < q * v0)) → 4294967296 ≤ r + v1 → q - 1 = (u * 4294967296 + d) / (v1 * 4294967296 + v0) → G self (mk q r) = res)
    (he : ∀ self q r, 0 ≤ q → 0 ≤ r → r < 4294967296 → q * v1 + r = u → q < 4294967296 → q * v0 ≤ 4294967296 * r + d → q = (u * 4294967296 + d) / (v1 * 4294967296 + v0) → G self (mk q r) = res) :
    ∀ (m : Nat) (q r : Int), Dg u d v1 v0 q r → r < 4294967296 → q.toNat < m → iterO G m (mk q r) = res
  | 0, q, r, _, _, h => absurd h (Nat.not_lt_zero _)
  | m + 1, q, r, g, hr, hm => by
    rw [iterO_succ]
    by_cases hc : 4294967296 ≤ q ∨ 4294967296 * r + d < q * v0
    · have g' := g.step hu hd0 hd h1 h0 hc
      have hq := g'.q0
      have hc' : 4294967296 ≤ q ∨ (q < 4294967296 ∧ 4294967296 * r + d < q * v0) := by omega
      by_cases hr' : 4294967296 ≤ r + v1
      · exact hb _ q r (by omega) g.r0 hr g.h hc' hr' (g'.done h1 h0 (g'.small hu hd0 h1 h0 h0' hr').2).1
      · rw [hs _ q r (by omega) g.r0 g.h hc' (by omega)]
        exact fig_loop hu hd0 hd h1 h0 h0' res mk hs hb he m _ _ g' (by omega) (by omega)
    · exact he _ q r g.q0 g.r0 hr g.h (by omega) (by omega) (g.done h1 h0 (by omega)).1
theorem wrap_sub (a b c : Int) : wr .u64 (wr .u64 (wr .u64 a + b) - wr .u64 c) = (a + b - c) % 18446744073709551616 := by
  simp only [wr_u64]; omega
/-- What the second loop is given, and its end. -/
structure Sec (Y m un0 q1 : Int) (s : Nat) (v1 v0 : Int) : Prop where
  y : Y = v1 * 4294967296 + v0
  v1p : 2147483648 ≤ v1
  v1l : v1 < 4294967296
  v00 : 0 ≤ v0
  v0l : v0 < 4294967296
  m0 : 0 ≤ m
  ml : m < Y
  u0 : 0 ≤ un0
  ul : un0 < 4294967296
  q10 : 0 ≤ q1
  q1l : q1 < 4294967296
theorem Sec.q0l {Y m un0 q1 : Int} {s : Nat} {v1 v0 : Int} (h : Sec Y m un0 q1 s v1 v0) : 0 ≤ (m * 4294967296 + un0) / Y ∧ (m * 4294967296 + un0) / Y < 4294967296 := by
  have := h.y; have := h.v1p; have := h.v00; have := h.m0; have := h.ml; have := h.u0; have := h.ul
  refine ⟨Int.ediv_nonneg (by omega) (by omega), Int.ediv_lt_of_lt_mul (by omega) (by omega)⟩
/-- The second loop's end. -/
theorem Sec.fin {Y m un0 q1 q : Int} {s : Nat} {v1 v0 : Int} (h : Sec Y m un0 q1 s v1 v0) (hs : s ≤ 64) (hq : q = (m * 4294967296 + un0) / (v1 * 4294967296 + v0)) :
    (some (wr .u64 (wr .u64 (q1 * 4294967296) + q), shr .u64 (wr .u64 (wr .u64 (wr .u64 (m * 4294967296) + un0) - wr .u64 (q * Y))) (s : Int)) : Option (Int × Int)) = some (q1 * 4294967296 + (m * 4294967296 + un0) / Y, (m * 4294967296 + un0) % Y / 2 ^ s) := by
  obtain ⟨b1, b2⟩ := h.q0l
  have b3 := h.q10
  have b4 := h.q1l
  have b5 := h.v1p; have b6 := h.v00
  rw [← h.y] at hq
  have e := Int.mul_ediv_add_emod (m * 4294967296 + un0) Y
  have r0 := Int.emod_nonneg (m * 4294967296 + un0) (show Y ≠ 0 by have := h.y; omega)
  have r1 := Int.emod_lt_of_pos (m * 4294967296 + un0) (show 0 < Y by have := h.y; omega)
  have yl : Y < 18446744073709551616 := by have := h.y; have := h.v1l; have := h.v0l; omega
  rw [wrap_sub, hq, shr_un _ s hs, wu64 (n := q1 * 4294967296) (by omega) (by omega), wu64 (by omega) (by omega)]
  rw [Int.mul_comm Y] at e
  have e2 : m * 4294967296 + un0 - (m * 4294967296 + un0) / Y * Y = (m * 4294967296 + un0) % Y := by omega
  rw [e2, Int.emod_eq_of_lt r0 (by omega)]
/-- The second loop. -/
theorem Sec.loop {Y m un0 q1 : Int} {s : Nat} {v1 v0 : Int} (h : Sec Y m un0 q1 s v1 v0) (hs : s ≤ 64) {G : (Int × Int → Option (Int × Int)) → Int × Int → Option (Int × Int)}
    (hG : ∀ self r q, G self (r, q) =
      if q ≥ 4294967296 then (if wr .u64 (r + v1) ≥ 4294967296 then some (wr .u64 (wr .u64 (q1 * 4294967296) + wr .u64 (q - 1)), shr .u64 (wr .u64 (wr .u64 (wr .u64 (m * 4294967296) + un0) - wr .u64 (wr .u64 (q - 1) * Y))) (s : Int)) else self (wr .u64 (r + v1), wr .u64 (q - 1)))
      else if wr .u64 (q * v0) > wr .u64 (wr .u64 (4294967296 * r) + un0) then (if wr .u64 (r + v1) ≥ 4294967296 then some (wr .u64 (wr .u64 (q1 * 4294967296) + wr .u64 (q - 1)), shr .u64 (wr .u64 (wr .u64 (wr .u64 (m * 4294967296) + un0) - wr .u64 (wr .u64 (q - 1) * Y))) (s : Int)) else self (wr .u64 (r + v1), wr .u64 (q - 1)))
      else some (wr .u64 (wr .u64 (q1 * 4294967296) + q), shr .u64 (wr .u64 (wr .u64 (wr .u64 (m * 4294967296) + un0) - wr .u64 (q * Y))) (s : Int))) {n : Nat} (hn : Big ≤ n) :
    iterO G n (wr .u64 (m - wr .u64 (wr .u64 (m.tdiv v1) * v1)), wr .u64 (m.tdiv v1)) = some (q1 * 4294967296 + (m * 4294967296 + un0) / Y, (m * 4294967296 + un0) % Y / 2 ^ s) := by
  have hb := big_ge
  have b1 := h.y; have b2 := h.v1p; have b3 := h.v1l; have b4 := h.v00; have b5 := h.v0l; have b6 := h.m0; have b7 := h.ml; have b8 := h.u0; have b9 := h.ul
  have ml : m < 18446744073709551616 := by omega
  have q0 : 0 ≤ m / v1 := Int.ediv_nonneg b6 (by omega)
  have e := Int.mul_ediv_add_emod m v1
  have r0 := Int.emod_nonneg m (show v1 ≠ 0 by omega)
  have r1 := Int.emod_lt_of_pos m (show 0 < v1 by omega)
  have q1' : m / v1 ≤ m := Int.ediv_le_self _ b6
  rw [Int.mul_comm] at e
  have p0 : 0 ≤ m / v1 * v1 := Int.mul_nonneg q0 (by omega)
  have ew : wr .u64 (m.tdiv v1) = m / v1 := by rw [tdiv_nn b6, wu64 q0 (by omega)]
  have ew2 : wr .u64 (m / v1 * v1) = m / v1 * v1 := wu64 (by omega) (by omega)
  have ew3 : wr .u64 (m - m / v1 * v1) = m % v1 := by rw [show m - m / v1 * v1 = m % v1 by omega, wu64 r0 (by omega)]
  rw [ew, ew2, ew3]
  have hi : ∀ {q r : Int}, 0 ≤ q → 0 ≤ r → q * v1 + r = m → q ≤ m := by
    intro q r hq hr he
    have : q * 1 ≤ q * v1 := Int.mul_le_mul_of_nonneg_left (by omega) hq
    omega
  have hv0 : ∀ {q : Int}, 0 ≤ q → q < 4294967296 → 0 ≤ q * v0 ∧ q * v0 < 18446744073709551616 := by
    intro q hq hl
    have h1 : q * v0 ≤ 4294967295 * 4294967295 := Int.mul_le_mul (by omega) (by omega) b4 (by omega)
    exact ⟨Int.mul_nonneg hq b4, by omega⟩
  refine fig_loop (u := m) (d := un0) (v1 := v1) (v0 := v0) (by omega) b8 b9 (by omega) b4 b5 _ (fun q r => (r, q)) ?_ ?_ ?_ n _ _ (Dg.start b6 b9 (by omega) b4) (by omega) (by omega)
  · intro self q r hq hr he hc hr'
    have hql := hi (by omega) hr he
    rw [hG, wu64 (n := r + v1) (by omega) (by omega), wu64 (n := q - 1) (by omega) (by omega)]
    rcases hc with hc | ⟨hc1, hc2⟩
    · rw [if_pos hc, if_neg (by omega)]
    · obtain ⟨a1, a2⟩ := hv0 (q := q) (by omega) hc1
      rw [if_neg (by omega), wu64 a1 a2, wu64 (n := 4294967296 * r) (by omega) (by omega), wu64 (by omega) (by omega), if_pos (by omega), if_neg (by omega)]
  · intro self q r hq hr hrl he hc hr' hfig
    have hql := hi (by omega) hr he
    rw [hG, wu64 (n := r + v1) (by omega) (by omega), wu64 (n := q - 1) (by omega) (by omega)]
    rcases hc with hc | ⟨hc1, hc2⟩
    · rw [if_pos hc, if_pos (by omega), h.fin hs hfig]
    · obtain ⟨a1, a2⟩ := hv0 (q := q) (by omega) hc1
      rw [if_neg (by omega), wu64 a1 a2, wu64 (n := 4294967296 * r) (by omega) (by omega), wu64 (by omega) (by omega), if_pos (by omega), if_pos (by omega), h.fin hs hfig]
  · intro self q r hq hr hrl he hql hc hfig
    obtain ⟨a1, a2⟩ := hv0 hq hql
    rw [hG, if_neg (by omega), wu64 a1 a2, wu64 (n := 4294967296 * r) (by omega) (by omega), wu64 (by omega) (by omega), if_neg (by omega), h.fin hs hfig]
theorem lz_ret {n : Nat} (hn : Big + 2 ≤ n) {x : Int} (h0 : 0 < x) (h1 : x < 18446744073709551616) : c_bits_LeadingZeros64 (run tb orc n) x = some (((64 - nb x.toNat : Nat) : Int)) := by
  obtain ⟨n, rfl, hm⟩ := up hn
  have hl := nb_bound (n := x.toNat) (k := 64) (by omega)
  rw [bits_LeadingZeros64_eq]; unfold bits_LeadingZeros64_f bits_LeadingZeros64_x
  rw [len64_full (by omega) (by omega) h1]
  simp only [Option.bind_some]
  rw [w64 (by omega) (by omega)]
  congr 1; omega
/-- What is shifted out and in. -/
theorem shift_split (x : Int) (s : Nat) (hs : s ≤ 64) : x * 2 ^ s / 18446744073709551616 = x / 2 ^ (64 - s) := by
  have e : (18446744073709551616 : Int) = 2 ^ (64 - s) * 2 ^ s := by rw [← Int.pow_add, show 64 - s + s = 64 by omega]; rfl
  have hp : (0 : Int) < 2 ^ s := Int.pow_pos (by omega)
  rw [e, Int.mul_ediv_mul_of_pos_left _ _ hp]
theorem div64_ret {n : Nat} (hn : Big + 3 ≤ n) {x0 x1 x2 : Int} (h0 : 0 ≤ x0) (h01 : x0 < x2) (h2 : x2 < 18446744073709551616) (hl : 0 ≤ x1) (hl' : x1 < 18446744073709551616) :
    c_bits_Div64 (run tb orc n) x0 x1 x2 = some ((x0 * 18446744073709551616 + x1) / x2, (x0 * 18446744073709551616 + x1) % x2) := by
  obtain ⟨n, rfl, hm⟩ := up hn
  have hb := big_ge
  rw [bits_Div64_eq]; unfold bits_Div64_f bits_Div64_x
  rw [if_neg (by omega), if_neg (by omega)]
  by_cases hz : x0 = 0
  · subst hz
    have a1 : 0 ≤ x1 / x2 := Int.ediv_nonneg hl (by omega)
    have a2 : x1 / x2 ≤ x1 := Int.ediv_le_self _ hl
    rw [if_pos rfl, if_neg (by omega), if_neg (by omega), tdiv_nn hl, tmod_nn hl, wu64 a1 (by omega)]
    simp
  rw [if_neg hz, lz_ret (by omega) (by omega) h2]
  simp only [Option.bind_some]
  -- the shift
  have n0 : x2.toNat ≠ 0 := by omega
  have nl := nb_bound (n := x2.toNat) (k := 64) (by omega)
  have np := nb_pos n0
  have ng := nb_le n0
  have nlt := nb_lt x2.toNat
  generalize hsd : (64 - nb x2.toNat : Nat) = s
  have hs : s ≤ 63 := by omega
  have hnb : nb x2.toNat = 64 - s := by omega
  rw [hnb] at ng nlt
  have p2 : (0 : Int) < 2 ^ s := Int.pow_pos (by omega)
  have pc : ((2 ^ s : Nat) : Int) = 2 ^ s := by simp
  -- the divisor
  have y1 : x2 * 2 ^ s < 18446744073709551616 := by
    have : x2.toNat * 2 ^ s < 2 ^ (64 - s) * 2 ^ s := Nat.mul_lt_mul_of_pos_right nlt (Nat.pow_pos (by omega))
    rw [← Nat.pow_add, show 64 - s + s = 64 by omega] at this
    have h3 : ((x2.toNat * 2 ^ s : Nat) : Int) < ((2 ^ 64 : Nat) : Int) := by exact_mod_cast this
    rw [Int.natCast_mul, pc, Int.toNat_of_nonneg (by omega)] at h3
    exact h3
  have y2 : 9223372036854775808 ≤ x2 * 2 ^ s := by
    have : 2 ^ (64 - s - 1) * 2 ^ s ≤ x2.toNat * 2 ^ s := Nat.mul_le_mul_right _ ng
    rw [← Nat.pow_add, show 64 - s - 1 + s = 63 by omega] at this
    have h3 : ((2 ^ 63 : Nat) : Int) ≤ ((x2.toNat * 2 ^ s : Nat) : Int) := by exact_mod_cast this
    rw [Int.natCast_mul, pc, Int.toNat_of_nonneg (by omega)] at h3
    exact h3
  have x0l : x0 * 2 ^ s < 18446744073709551616 := by
    have : x0 * 2 ^ s ≤ x2 * 2 ^ s := Int.mul_le_mul_of_nonneg_right (by omega) (by omega)
    omega
  have x0n : 0 ≤ x0 * 2 ^ s := Int.mul_nonneg h0 (by omega)
  have x1n : 0 ≤ x1 * 2 ^ s := Int.mul_nonneg hl (by omega)
  have sp := shift_split x1 s (by omega)
  have ed := Int.mul_ediv_add_emod (x1 * 2 ^ s) 18446744073709551616
  have u0 := Int.emod_nonneg (x1 * 2 ^ s) (show (18446744073709551616 : Int) ≠ 0 by decide)
  have u1 := Int.emod_lt_of_pos (x1 * 2 ^ s) (show (0 : Int) < 18446744073709551616 by decide)
  have q64 : 0 ≤ x1 / 2 ^ (64 - s) := Int.ediv_nonneg hl (Int.le_of_lt (Int.pow_pos (by omega)))
  have qlt : x1 / 2 ^ (64 - s) < 2 ^ s := by
    rw [← sp]
    refine Int.ediv_lt_of_lt_mul (by decide) ?_
    rw [Int.mul_comm (2 ^ s)]
    exact Int.mul_lt_mul_of_pos_right hl' p2
  have E1 : wr .u64 (s : Int) = s := wu64 (by omega) (by omega)
  have E2 : shl .u64 x2 (s : Int) = x2 * 2 ^ s := by rw [shl_un _ s (by omega), Int.emod_eq_of_lt (by omega) y1]
  have E3 : wr .u64 (64 - (s : Int)) = ((64 - s : Nat) : Int) := by rw [wu64 (by omega) (by omega)]; omega
  have E4 : shr .u64 x1 ((64 - s : Nat) : Int) = x1 / 2 ^ (64 - s) := shr_un _ _ (by omega)
  have E5 : shl .u64 x0 (s : Int) = x0 * 2 ^ s := by rw [shl_un _ s (by omega), Int.emod_eq_of_lt x0n x0l]
  have hU : x0 * 2 ^ s + x1 / 2 ^ (64 - s) < x2 * 2 ^ s := by
    have : (x0 + 1) * 2 ^ s ≤ x2 * 2 ^ s := Int.mul_le_mul_of_nonneg_right (by omega) (by omega)
    rw [Int.add_mul, Int.one_mul] at this
    omega
  have E6 : Go.bits .or .u64 (x0 * 2 ^ s) (x1 / 2 ^ (64 - s)) = x0 * 2 ^ s + x1 / 2 ^ (64 - s) := or_u64_add s x0n q64 (Int.mul_emod_left _ _) qlt (by omega)
  have E7 : shl .u64 x1 (s : Int) = x1 * 2 ^ s % 18446744073709551616 := shl_un _ s (by omega)
  have hfull : (x0 * 18446744073709551616 + x1) * 2 ^ s = (x0 * 2 ^ s + x1 / 2 ^ (64 - s)) * 18446744073709551616 + x1 * 2 ^ s % 18446744073709551616 := by
    rw [sp] at ed
    rw [Int.add_mul, Int.mul_right_comm]; omega
  have hres : (x0 * 18446744073709551616 + x1) / x2 = ((x0 * 18446744073709551616 + x1) * 2 ^ s) / (x2 * 2 ^ s) := (Int.mul_ediv_mul_of_pos_left _ _ p2).symm
  have hrem : (x0 * 18446744073709551616 + x1) % x2 = ((x0 * 18446744073709551616 + x1) * 2 ^ s) % (x2 * 2 ^ s) / 2 ^ s := by
    rw [Int.mul_comm _ (2 ^ s), Int.mul_comm x2, Int.mul_emod_mul_of_pos _ _ p2, Int.mul_ediv_cancel_left _ (by omega)]
  have U0 : 0 ≤ x0 * 2 ^ s + x1 / 2 ^ (64 - s) := by omega
  rw [hres, hrem, hfull]
  generalize x0 * 2 ^ s + x1 / 2 ^ (64 - s) = U at *
  generalize x1 * 2 ^ s % 18446744073709551616 = L at *
  generalize hY : x2 * 2 ^ s = Y at *
  have D1 : L / 4294967296 * 4294967296 + L % 4294967296 = L := by omega
  have V1 : Y / 4294967296 * 4294967296 + Y % 4294967296 = Y := by omega
  obtain ⟨t1, t2⟩ := two_figs (u := U) (d1 := L / 4294967296) (d0 := L % 4294967296) (y := Y) (by omega)
  rw [D1] at t1 t2
  rw [t1, t2]
  -- both loops
  have m0 := Int.emod_nonneg (U * 4294967296 + L / 4294967296) (show Y ≠ 0 by omega)
  have m1 := Int.emod_lt_of_pos (U * 4294967296 + L / 4294967296) (show 0 < Y by omega)
  have f0 : 0 ≤ (U * 4294967296 + L / 4294967296) / Y := Int.ediv_nonneg (by omega) (by omega)
  have f1 : (U * 4294967296 + L / 4294967296) / Y < 4294967296 := Int.ediv_lt_of_lt_mul (by omega) (by omega)
  have fe := Int.mul_ediv_add_emod (U * 4294967296 + L / 4294967296) Y
  rw [Int.mul_comm] at fe
  have hsec : Sec Y ((U * 4294967296 + L / 4294967296) % Y) (L % 4294967296) ((U * 4294967296 + L / 4294967296) / Y) s (Y / 4294967296) (Y % 4294967296) := ⟨by omega, by omega, by omega, by omega, by omega, m0, m1, by omega, by omega, f0, f1⟩
  have E8 : wr .u64 (wr .u64 (wr .u64 (U * 4294967296) + L / 4294967296) - wr .u64 ((U * 4294967296 + L / 4294967296) / Y * Y)) = (U * 4294967296 + L / 4294967296) % Y := by
    rw [wrap_sub, show U * 4294967296 + L / 4294967296 - (U * 4294967296 + L / 4294967296) / Y * Y = (U * 4294967296 + L / 4294967296) % Y by omega, Int.emod_eq_of_lt m0 (by omega)]
  have ns : ¬ ((s : Int) < 0) := by omega
  have n32 : ¬ ((32 : Int) < 0) := by decide
  have nsz : ¬ (((64 - s : Nat) : Int) < 0) := by omega
  have nv : ¬ (Y / 4294967296 = 0) := by omega
  simp only [E1, E2, E3, E4, E5, E6, E7, shr_u32, and_u32, ns, n32, nsz, nv, if_false]
  have hq0 : 0 ≤ U / (Y / 4294967296) := Int.ediv_nonneg U0 (by omega)
  have hq1 : U / (Y / 4294967296) ≤ U := Int.ediv_le_self _ U0
  have e := Int.mul_ediv_add_emod U (Y / 4294967296)
  have r0 := Int.emod_nonneg U (show Y / 4294967296 ≠ 0 by omega)
  have r1 := Int.emod_lt_of_pos U (show 0 < Y / 4294967296 by omega)
  rw [Int.mul_comm] at e
  have p0 : 0 ≤ U / (Y / 4294967296) * (Y / 4294967296) := Int.mul_nonneg hq0 (by omega)
  have ew : wr .u64 (U.tdiv (Y / 4294967296)) = U / (Y / 4294967296) := by rw [tdiv_nn U0, wu64 hq0 (by omega)]
  have ew2 : wr .u64 (U / (Y / 4294967296) * (Y / 4294967296)) = U / (Y / 4294967296) * (Y / 4294967296) := wu64 (by omega) (by omega)
  have ew3 : wr .u64 (U - U / (Y / 4294967296) * (Y / 4294967296)) = U % (Y / 4294967296) := by rw [show U - U / (Y / 4294967296) * (Y / 4294967296) = U % (Y / 4294967296) by omega, wu64 r0 (by omega)]
  rw [ew, ew2, ew3]
  have hi : ∀ {q r : Int}, 0 ≤ q → 0 ≤ r → q * (Y / 4294967296) + r = U → q ≤ U := by
    intro q r hq hr he
    have : q * 1 ≤ q * (Y / 4294967296) := Int.mul_le_mul_of_nonneg_left (by omega) hq
    omega
  have hv0 : ∀ {q : Int}, 0 ≤ q → q < 4294967296 → 0 ≤ q * (Y % 4294967296) ∧ q * (Y % 4294967296) < 18446744073709551616 := by
    intro q hq hl
    have h1 : q * (Y % 4294967296) ≤ 4294967295 * 4294967295 := Int.mul_le_mul (by omega) (by omega) (by omega) (by omega)
    exact ⟨Int.mul_nonneg hq (by omega), by omega⟩
  have G4 : ∀ {q r : Int}, q = (U * 4294967296 + L / 4294967296) / Y → iterO (bits_Div64_g4 (run tb orc n) n x0 x1 x2 (s : Int) (q, r)) n (wr .u64 ((U * 4294967296 + L / 4294967296) % Y - wr .u64 (wr .u64 (((U * 4294967296 + L / 4294967296) % Y).tdiv (Y / 4294967296)) * (Y / 4294967296))), wr .u64 (((U * 4294967296 + L / 4294967296) % Y).tdiv (Y / 4294967296))) = some ((U * 4294967296 + L / 4294967296) / Y * 4294967296 + ((U * 4294967296 + L / 4294967296) % Y * 4294967296 + L % 4294967296) / Y, ((U * 4294967296 + L / 4294967296) % Y * 4294967296 + L % 4294967296) % Y / 2 ^ s) := by
    intro q r hq
    subst hq
    refine hsec.loop (by omega) (fun self r q => ?_) (by omega)
    show bits_Div64_x4 _ _ _ _ _ _ _ _ = _
    unfold bits_Div64_x4
    simp only [E1, E2, E3, E4, E5, E6, E7, E8, shr_u32, and_u32, ns, n32, nsz, nv, if_false]
  have G2 : ∀ {q r : Int}, 0 < q → q ≤ U → q - 1 = (U * 4294967296 + L / 4294967296) / Y → iterO (bits_Div64_g2 (run tb orc n) n x0 x1 x2 (s : Int) (q, r)) n (wr .u64 ((U * 4294967296 + L / 4294967296) % Y - wr .u64 (wr .u64 (((U * 4294967296 + L / 4294967296) % Y).tdiv (Y / 4294967296)) * (Y / 4294967296))), wr .u64 (((U * 4294967296 + L / 4294967296) % Y).tdiv (Y / 4294967296))) = some ((U * 4294967296 + L / 4294967296) / Y * 4294967296 + ((U * 4294967296 + L / 4294967296) % Y * 4294967296 + L % 4294967296) / Y, ((U * 4294967296 + L / 4294967296) % Y * 4294967296 + L % 4294967296) % Y / 2 ^ s) := by
    intro q r hq0 hqU hq
    refine hsec.loop (by omega) (fun self r q' => ?_) (by omega)
    have E9 : wr .u64 (q - 1) = (U * 4294967296 + L / 4294967296) / Y := by rw [wu64 (by omega) (by omega)]; exact hq
    show bits_Div64_x2 _ _ _ _ _ _ _ _ = _
    unfold bits_Div64_x2
    simp only [E1, E2, E3, E4, E5, E6, E7, E9, E8, shr_u32, and_u32, ns, n32, nsz, nv, if_false]
  have G3 : ∀ {q r : Int}, 0 < q → q ≤ U → q - 1 = (U * 4294967296 + L / 4294967296) / Y → iterO (bits_Div64_g3 (run tb orc n) n x0 x1 x2 (s : Int) (q, r)) n (wr .u64 ((U * 4294967296 + L / 4294967296) % Y - wr .u64 (wr .u64 (((U * 4294967296 + L / 4294967296) % Y).tdiv (Y / 4294967296)) * (Y / 4294967296))), wr .u64 (((U * 4294967296 + L / 4294967296) % Y).tdiv (Y / 4294967296))) = some ((U * 4294967296 + L / 4294967296) / Y * 4294967296 + ((U * 4294967296 + L / 4294967296) % Y * 4294967296 + L % 4294967296) / Y, ((U * 4294967296 + L / 4294967296) % Y * 4294967296 + L % 4294967296) % Y / 2 ^ s) := by
    intro q r hq0 hqU hq
    refine hsec.loop (by omega) (fun self r q' => ?_) (by omega)
    have E9 : wr .u64 (q - 1) = (U * 4294967296 + L / 4294967296) / Y := by rw [wu64 (by omega) (by omega)]; exact hq
    show bits_Div64_x3 _ _ _ _ _ _ _ _ = _
    unfold bits_Div64_x3
    simp only [E1, E2, E3, E4, E5, E6, E7, E9, E8, shr_u32, and_u32, ns, n32, nsz, nv, if_false]
  have fh : ∀ {q : Int}, q = (U * 4294967296 + L / 4294967296) / (Y / 4294967296 * 4294967296 + Y % 4294967296) → q = (U * 4294967296 + L / 4294967296) / Y := by
    intro q h; rw [V1] at h; exact h
  refine fig_loop (u := U) (d := L / 4294967296) (v1 := Y / 4294967296) (v0 := Y % 4294967296) (by omega) (by omega) (by omega) (by omega) (by omega) (by omega) _ (fun q r => (q, r)) ?_ ?_ ?_ n _ _ (Dg.start U0 (by omega) (by omega) (by omega)) (by omega) (by omega)
  · intro self q r hq hr he hc hr'
    have hql := hi (by omega) hr he
    show bits_Div64_x1 _ _ _ _ _ _ _ _ _ _ = _
    unfold bits_Div64_x1
    simp only [E1, E2, E3, E4, E5, E6, E7, shr_u32, and_u32, ns, n32, nsz, nv, if_false]
    rw [wu64 (n := r + Y / 4294967296) (by omega) (by omega), wu64 (n := q - 1) (by omega) (by omega)]
    rcases hc with hc | ⟨hc1, hc2⟩
    · rw [if_pos hc, if_neg (by omega)]
    · obtain ⟨a1, a2⟩ := hv0 (q := q) (by omega) hc1
      rw [if_neg (by omega), wu64 a1 a2, wu64 (n := 4294967296 * r) (by omega) (by omega), wu64 (n := 4294967296 * r + L / 4294967296) (by omega) (by omega), if_pos (by omega), if_neg (by omega)]
  · intro self q r hq hr hrl he hc hr' hfig
    have hfig := fh hfig
    have hql := hi (by omega) hr he
    show bits_Div64_x1 _ _ _ _ _ _ _ _ _ _ = _
    unfold bits_Div64_x1
    have E9 : wr .u64 (q - 1) = (U * 4294967296 + L / 4294967296) / Y := by rw [wu64 (by omega) (by omega)]; exact hfig
    simp only [E1, E2, E3, E4, E5, E6, E7, E9, E8, shr_u32, and_u32, ns, n32, nsz, nv, if_false]
    rw [wu64 (n := r + Y / 4294967296) (by omega) (by omega)]
    rcases hc with hc | ⟨hc1, hc2⟩
    · rw [if_pos hc, if_pos (by omega)]; exact G2 hq hql hfig
    · obtain ⟨a1, a2⟩ := hv0 (q := q) (by omega) hc1
      rw [if_neg (by omega), wu64 a1 a2, wu64 (n := 4294967296 * r) (by omega) (by omega), wu64 (n := 4294967296 * r + L / 4294967296) (by omega) (by omega), if_pos (by omega), if_pos (by omega)]; exact G3 hq hql hfig
  · intro self q r hq hr hrl he hql hc hfig
    have hfig := fh hfig
    show bits_Div64_x1 _ _ _ _ _ _ _ _ _ _ = _
    unfold bits_Div64_x1
    obtain ⟨a1, a2⟩ := hv0 hq hql
    have hE : wr .u64 (wr .u64 (wr .u64 (U * 4294967296) + L / 4294967296) - wr .u64 (q * Y)) = (U * 4294967296 + L / 4294967296) % Y := by rw [hfig]; exact E8
    simp only [E1, E2, E3, E4, E5, E6, E7, hE, shr_u32, and_u32, ns, n32, nsz, nv, if_false]
    rw [if_neg (by omega), wu64 a1 a2, wu64 (n := 4294967296 * r) (by omega) (by omega), wu64 (n := 4294967296 * r + L / 4294967296) (by omega) (by omega), if_neg (by omega)]
    exact G4 hfig
end Go.Proofs.YthanbjnpfenniaaDoor.Fw

/- A word as a whole number; a whole number times a word. -/
import Derived.Test.YthanbjnpfenniaaDoorPMulI
namespace Go.Proofs.YthanbjnpfenniaaDoor.Fw
open Go Go.RowKit Go.Proofs.YthanbjnpfenniaaDoor.Limbs
set_option linter.unusedVariables false

def wh : Nat → Int → List Int
  | 0, _ => []
  | d + 1, x => if x > 0 then x % 268435456 :: wh d (x / 268435456) else []
theorem wh_len : ∀ (d : Nat) (x : Int), (wh d x).length ≤ d
  | 0, x => Nat.le_refl _
  | d + 1, x => by
    show (if x > 0 then x % 268435456 :: wh d (x / 268435456) else []).length ≤ d + 1
    split
    · have := wh_len d (x / 268435456); simp; omega
    · simp
theorem noTail_cons {x : Int} {xs : List Int} (h : NoTail xs) (hx : xs = [] → x ≠ 0) : NoTail (x :: xs) := by
  intro ys y e
  cases ys with
  | nil =>
    have e1 : x = y ∧ xs = [] := by simpa using e
    rw [← e1.1]; exact hx e1.2
  | cons z zs =>
    have e1 : x = z ∧ xs = zs ++ [y] := by simpa using e
    exact h zs y e1.2
theorem wh_norm : ∀ (d : Nat) (x : Int), 0 ≤ x → x < B ^ d → Norm (wh d x) ∧ val (wh d x) = x
  | 0, x, h0, h1 => by
    have : x = 0 := by simp at h1; omega
    subst this; exact ⟨Norm.nil, rfl⟩
  | d + 1, x, h0, h1 => by
    unfold wh
    by_cases c : x > 0
    · rw [if_pos c]
      have hx : x / 268435456 < B ^ d := by
        rw [Int.pow_succ, B_def] at h1
        rw [B_def]; omega
      obtain ⟨n1, n2⟩ := wh_norm d (x / 268435456) (by omega) hx
      refine ⟨⟨Ok.cons (by omega) (by rw [B_def]; omega) n1.ok, noTail_cons n1.tail fun e => ?_⟩, ?_⟩
      · rw [e] at n2
        have n2' : (0 : Int) = x / 268435456 := n2
        omega
      · rw [val_cons, n2, B_def]; omega
    · rw [if_neg c]
      exact ⟨Norm.nil, by show (0 : Int) = x; omega⟩
theorem and_u64_limb {x : Int} (h0 : 0 ≤ x) (h1 : x < 18446744073709551616) : Go.bits .and .u64 x 268435455 = x % 268435456 := by
  rw [and_u64]
  obtain ⟨k, rfl⟩ := Int.eq_ofNat_of_zero_le h0
  have e1 : ((k : Int) % 18446744073709551616).toNat = k := by omega
  have e2 : ((268435455 : Int) % 18446744073709551616).toNat = 2 ^ 28 - 1 := rfl
  rw [e1, e2, Nat.and_two_pow_sub_one_eq_mod]
  omega
theorem shr_u64_28 (x : Int) : shr .u64 x (28:Int) = x / 268435456 := by unfold shr; rfl
theorem wholeOf_ret {n : Nat} (hn : Big + 1 ≤ n) {x : Int} (h0 : 0 ≤ x) (h1 : x ≤ 9223372036854775807) : c_impl_wholeOf (run tb orc n) x = some (false, wh 3 x) := by
  obtain ⟨n, rfl, hq⟩ := up hn
  have hbig := big_ge
  rw [impl_wholeOf_eq]; unfold impl_wholeOf_f impl_wholeOf_x
  rw [if_neg (by omega), wu64 (by omega) (by omega)]
  have key : ∀ (d : Nat) (y : Int) (out : List Int), 0 ≤ y → y ≤ 9223372036854775807 → y < B ^ d → out.length + d ≤ 1000 → ∀ K, d < K → iterO (impl_wholeOf_g2 (run tb orc n) n x) K (y, out) = some (false, out ++ wh d y) := by
    intro d
    induction d with
    | zero =>
      intro y out y0 y1 y2 ho K hK
      obtain ⟨K, rfl⟩ : ∃ j, K = j + 1 := ⟨K - 1, by omega⟩
      have : y = 0 := by simp at y2; omega
      subst this
      rw [iterO_succ]; unfold impl_wholeOf_g2 impl_wholeOf_x2
      dsimp only
      rw [if_neg (by omega), decide_eq_false (by omega)]
      simp [wh]
    | succ d ih =>
      intro y out y0 y1 y2 ho K hK
      obtain ⟨K, rfl⟩ : ∃ j, K = j + 1 := ⟨K - 1, by omega⟩
      show impl_wholeOf_x2 (run tb orc n) _ _ _ = _
      unfold impl_wholeOf_x2
      dsimp only
      by_cases c : y > 0
      · rw [if_pos c, if_pos (by rw [List.length_singleton]; exact lim_lt (by omega)), if_neg (by omega), and_u64_limb y0 (by omega), w64 (by omega) (by omega), shr_u64_28]
        have hy : y / 268435456 < B ^ d := by
          rw [Int.pow_succ, B_def] at y2
          rw [B_def]; omega
        refine (ih _ _ (by omega) (by omega) hy (by simp; omega) K (by omega)).trans ?_
        rw [show wh (d + 1) y = if y > 0 then y % 268435456 :: wh d (y / 268435456) else [] from rfl, if_pos c]
        simp
      · rw [if_neg c, decide_eq_false (by omega)]
        rw [show wh (d + 1) y = if y > 0 then y % 268435456 :: wh d (y / 268435456) else [] from rfl, if_neg c]
        simp
  have := key 3 x [] h0 h1 (by rw [B_def]; omega) (by simp) n (by omega)
  simpa using this
theorem wh3 {x : Int} (h0 : 0 ≤ x) (h1 : x ≤ 9223372036854775807) : Norm (wh 3 x) ∧ val (wh 3 x) = x := wh_norm 3 x h0 (by rw [B_def]; omega)
theorem timesW_ret {n : Nat} (hn : Big + 3 ≤ n) {s : Bool} {a : List Int} {x : Int} (ha : Ok a) (hla : a.length ≤ 1048576) (h0 : 0 ≤ x) (h1 : x ≤ 9223372036854775807) :
    ∃ r, Norm r ∧ val r = val a * x ∧ r.length ≤ a.length + 3 ∧ c_impl_timesW (run tb orc n) s a x = some (sgn (s != false) r, r) := by
  obtain ⟨n, rfl, hq⟩ := up (k := 2) hn
  obtain ⟨w1, w2⟩ := wh3 h0 h1
  have wl := wh_len 3 x
  obtain ⟨r, r1, r2, r3, r4⟩ := mulW_ret (n := n) (s1 := s) (s2 := false) hq ha w1.ok hla (by omega)
  refine ⟨r, r1, by rw [r2, w2], by omega, ?_⟩
  rw [impl_timesW_eq]; unfold impl_timesW_f impl_timesW_x
  rw [wholeOf_ret (by omega) h0 h1]
  simp only [Option.bind_some]
  rw [r4]
  rfl
end Go.Proofs.YthanbjnpfenniaaDoor.Fw

/- What passes the test below 2^28 is a prime. -/
import Derived.Test.YthanbjnpfenniaaDoorPPrime
import Derived.Test.YthanbjnpfenniaaDoorPrime28
namespace Go.Proofs.YthanbjnpfenniaaDoor.Fw
open Go Go.RowKit Go.Proofs.YthanbjnpfenniaaDoor.NumTh
set_option linter.unusedVariables false

theorem smallL_true {x : Int} : ∀ {l : List Int} {r : Bool}, smallL x l r = true → x ∈ l ∨ (r = true ∧ ∀ p ∈ l, x % p ≠ 0)
  | [], r, h => .inr ⟨h, fun p hp => by cases hp⟩
  | p :: l, r, h => by
    simp only [smallL] at h
    split at h
    · exact .inl (by rw [of_decide_eq_true h]; simp)
    · rename_i hp
      rcases smallL_true h with h | ⟨h1, h2⟩
      · exact .inl (List.mem_cons_of_mem _ h)
      · refine .inr ⟨h1, fun q hq => ?_⟩
        rcases List.mem_cons.1 hq with rfl | hq
        · exact hp
        · exact h2 q hq
theorem mrL_true {x : Int} : ∀ {r : Nat} {y : Int} {g : Bool}, (g = true → y % x = x - 1) → mrL x r y g = true → ∃ j, j ≤ r ∧ y ^ (2 ^ j) % x = x - 1
  | 0, y, g, hg, h => by
    simp only [mrL] at h
    exact ⟨0, Nat.le_refl _, by rw [Nat.pow_zero, Int.pow_succ, Int.pow_zero, Int.one_mul]; exact hg h⟩
  | r + 1, y, g, hg, h => by
    simp only [mrL] at h
    split at h
    · rename_i hgt
      exact ⟨0, by omega, by rw [Nat.pow_zero, Int.pow_succ, Int.pow_zero, Int.one_mul]; exact hg hgt⟩
    · obtain ⟨j, h1, h2⟩ := mrL_true (fun e => by rw [Int.emod_emod]; exact of_decide_eq_true e) h
      refine ⟨j + 1, by omega, ?_⟩
      rw [pow_emod'] at h2
      rw [Nat.pow_succ, Nat.mul_comm (2 ^ j), Int.pow_mul]
      have e : y ^ 2 = y * y := by rw [show (2 : Nat) = 1 + 1 from rfl, Int.pow_succ, Int.pow_succ, Int.pow_zero, Int.one_mul]
      rw [e]; exact h2
theorem cast_pow_mod (a k n : Nat) : ((a ^ k % n : Nat) : Int) = (a : Int) ^ k % (n : Int) := by
  rw [Int.natCast_emod]; simp
theorem strong_of {n s d a : Nat} (hn : 2 ≤ n) (hs : 1 ≤ s) (h : strongI (n : Int) s (d : Int) (a : Int) = true) : Strong n s d a := by
  unfold strongI at h
  rw [Int.toNat_natCast] at h
  split at h
  · rename_i h1
    left
    rw [← cast_pow_mod] at h1
    omega
  · right
    obtain ⟨j, h1, h2⟩ := mrL_true (fun e => by rw [Int.emod_emod]; exact of_decide_eq_true e) h
    refine ⟨j, by omega, ?_⟩
    rw [pow_emod', ← Int.pow_mul, Nat.mul_comm d, ← cast_pow_mod] at h2
    omega
theorem bs_map : bs = bases.map (fun a : Nat => (a : Int)) := rfl
theorem bases_pr : ∀ p ∈ bases, Pr p := by
  have key : ∀ p ∈ bases, ∀ d ∈ List.range 38, d ∣ p → d = 1 ∨ d = p := by decide
  intro p hp
  have hb := mem_bases hp
  refine ⟨hb.1, fun d hd => key p hp d (List.mem_range.2 ?_) hd⟩
  have h1 := Nat.le_of_dvd (by omega) hd
  have h2 : p ≤ 37 := by
    have : ∀ p ∈ bases, p ≤ 37 := by decide
    exact this p hp
  omega
theorem pr_of_isPI {x : Int} (h : isPI x = true) (hx : x ≤ 268435456) : Pr x.toNat := by
  unfold isPI at h
  split at h
  · cases h
  rename_i h2
  obtain ⟨n, hn⟩ : ∃ n : Nat, x = (n : Int) := ⟨x.toNat, by omega⟩
  subst hn
  rw [Int.toNat_natCast]
  rcases smallL_true h with h | ⟨h1, h3⟩
  · rw [bs_map] at h
    obtain ⟨p, hp, e⟩ := List.mem_map.1 h
    have : p = n := by omega
    subst this
    exact bases_pr p hp
  · have hm : ((n : Int) - 1).toNat = n - 1 := by omega
    rw [hm] at h1
    have hodd : n % 2 = 1 := by
      have := h3 2 (by decide)
      omega
    have t0 : 0 < n - 1 := by omega
    obtain ⟨s1, s2⟩ := tz_split (n := n - 1) t0 (by omega)
    have hs : 1 ≤ tz (n - 1) := by
      rcases Nat.eq_zero_or_pos (tz (n - 1)) with e | e
      · rw [e] at s2; simp at s2; omega
      · exact e
    have hlt : n < 2 ^ 28 := by
      rcases Nat.lt_or_ge n (2 ^ 28) with h | h
      · exact h
      · have : n = 268435456 := by omega
        subst this; simp at hodd
    have hd : ((n : Int) - 1) / 2 ^ tz (n - 1) = (((n - 1) / 2 ^ tz (n - 1) : Nat) : Int) := by
      have e : (n : Int) - 1 = ((n - 1 : Nat) : Int) := by omega
      rw [e, Int.natCast_ediv]; simp
    rw [hd] at h1
    rw [List.all_eq_true] at h1
    refine mr_prime (s := tz (n - 1)) (d := (n - 1) / 2 ^ tz (n - 1)) (by omega) hlt s1 s2 (fun a ha hda => ?_) (fun a ha => ?_)
    · have : (a : Int) ∈ bs := by rw [bs_map]; exact List.mem_map.2 ⟨a, ha, rfl⟩
      refine h3 _ this ?_
      have := Nat.mod_eq_zero_of_dvd hda
      omega
    · have : (a : Int) ∈ bs := by rw [bs_map]; exact List.mem_map.2 ⟨a, ha, rfl⟩
      exact strong_of (by omega) hs (h1 _ this)
end Go.Proofs.YthanbjnpfenniaaDoor.Fw

/- Below 2^28 the strong test with the twelve least primes tells primes: a number from 2 on that none of them divides and that passes at each of them is a prime. -/
import Derived.Test.YthanbjnpfenniaaDoorChk
namespace Go.Proofs.YthanbjnpfenniaaDoor.NumTh

theorem mem_bases {a : Nat} (h : a ∈ bases) : 2 ≤ a ∧ a < 41 := by
  simp only [bases, List.mem_cons, List.not_mem_nil, or_false] at h
  omega

theorem Pr.not_dvd_small {p a : Nat} (_h : Pr p) (hp : 41 ≤ p) (ha : a ∈ bases) : ¬ p ∣ a := fun hd => by
  have hb := mem_bases ha
  have := Nat.le_of_dvd (by omega) hd
  omega

theorem cover_tells : ∀ k n l, cover k n l = true → ∀ q, n ≤ q → q < n + k → q ∈ l ∨ hasDiv q 50 = true
  | 0, _, _, _, q, h1, h2 => absurd h2 (by omega)
  | k + 1, n, [], h, q, h1, h2 => by
    simp only [cover, Bool.and_eq_true] at h
    by_cases e : q = n
    · subst e; exact Or.inr h.1
    · exact cover_tells k (n + 1) [] h.2 q (by omega) (by omega)
  | k + 1, n, x :: xs, h, q, h1, h2 => by
    simp only [cover] at h
    by_cases hx : Nat.beq n x = true
    · rw [if_pos hx] at h
      by_cases e : q = n
      · subst e; have := Nat.eq_of_beq_eq_true hx; exact Or.inl (by rw [this]; exact List.mem_cons_self ..)
      · rcases cover_tells k (n + 1) xs h q (by omega) (by omega) with g | g
        · exact Or.inl (List.mem_cons_of_mem _ g)
        · exact Or.inr g
    · rw [if_neg hx, Bool.and_eq_true] at h
      by_cases e : q = n
      · subst e; exact Or.inr h.1
      · exact cover_tells k (n + 1) (x :: xs) h.2 q (by omega) (by omega)

theorem hasDiv_tells (n : Nat) : ∀ k, hasDiv n k = true → ∃ d, 2 ≤ d ∧ d ∣ n ∧ d ≠ n
  | 0, h => absurd h (by simp [hasDiv])
  | k + 1, h => by
    simp only [hasDiv, Bool.or_eq_true, Bool.and_eq_true, Bool.not_eq_true'] at h
    rcases h with ⟨h1, h2⟩ | h
    · refine ⟨k + 2, by omega, Nat.dvd_of_mod_eq_zero (Nat.eq_of_beq_eq_true h1), fun e => ?_⟩
      rw [e] at h2
      simp at h2
    · exact hasDiv_tells n k h

theorem mem_small {q : Nat} (h : Pr q) (h1 : 41 ≤ q) (h2 : q < 2560) : q ∈ small := by
  rcases cover_tells _ _ _ small_cover q h1 (by omega) with g | g
  · exact g
  · obtain ⟨d, hd, hq, hne⟩ := hasDiv_tells q 50 g
    rcases h.2 d hq with e | e
    · omega
    · exact absurd e hne

theorem codesApart_tells : ∀ l : List Nat, ∀ m : List Nat, m.map code = l → codesApart l = true → ∀ p, p ∈ m → ∀ q, q ∈ m → p ≠ q → code p ≠ code q
  | [], [], _, _, _, h, _, _, _ => absurd h (by simp)
  | [], _ :: _, h, _, _, _, _, _, _ => absurd h (by simp)
  | _ :: _, [], h, _, _, _, _, _, _ => absurd h (by simp)
  | c :: cs, x :: xs, h, ha, p, hp, q, hq, hne => by
    simp only [List.map_cons, List.cons.injEq] at h
    obtain ⟨rfl, h⟩ := h
    simp only [codesApart, Bool.and_eq_true, List.all_eq_true] at ha
    obtain ⟨ha, hb⟩ := ha
    have far : ∀ y, y ∈ xs → code x ≠ code y := by
      intro y hy e
      have := ha (code y) (by rw [← h]; exact List.mem_map_of_mem hy)
      rw [e] at this
      simp at this
    rw [List.mem_cons] at hp hq
    rcases hp with rfl | hp
    · rcases hq with rfl | hq
      · exact absurd rfl hne
      · exact far q hq
    · rcases hq with rfl | hq
      · exact fun e => far p hp e.symm
      · exact codesApart_tells cs xs h hb p hp q hq hne

theorem code_ne {p q : Nat} (hp : Pr p) (hq : Pr q) (h1 : 41 ≤ p) (h2 : p < q) (h3 : q < 2560) : code p ≠ code q :=
  codesApart_tells codes small codes_eq codes_apart p (mem_small hp h1 (by omega)) q (mem_small hq (by omega) h3) (by omega)

theorem good_small {q : Nat} (h : Pr q) (h1 : 41 ≤ q) (h2 : q < 2560) : 2 ^ pe q * pf q = q - 1 ∧ pf q % 2 = 1 := by
  have := small_good
  rw [List.all_eq_true] at this
  have := this q (mem_small h h1 h2)
  simp only [good1, Bool.and_eq_true] at this
  exact ⟨Nat.eq_of_beq_eq_true this.1, Nat.eq_of_beq_eq_true this.2⟩

theorem lies_code1 {q a : Nat} (h : Pr q) (h1 : 41 ≤ q) (h2 : q < 2560) (ha : a ∈ bases) : Lies q (a ^ pf q) (code1 q a) := by
  obtain ⟨g1, g2⟩ := good_small h h1 h2
  have hF := fermat_one h (h.not_dvd_small h1 ha)
  rw [← g1, Nat.mul_comm, Nat.pow_mul] at hF
  have hl := place_lies (by omega : 2 ≤ q) (pe q) (a ^ pf q % q) (Nat.mod_lt _ (by omega)) (by rw [← Nat.pow_mod]; exact hF)
  intro t
  rw [show code1 q a = place q (pe q) (a ^ pf q % q) from rfl, ← hl t, ← Nat.pow_mod]

theorem code1_eq {p q n s d a : Nat} (hp : Pr p) (hq : Pr q) (h1 : 41 ≤ p) (h2 : p < 2560) (h3 : 41 ≤ q) (h4 : q < 2560) (hn : 0 < n) (hpn : p ∣ n) (hqn : q ∣ n)
    (hodd : d % 2 = 1) (ha : a ∈ bases) (hs : Strong n s d a) : code1 p a = code1 q a := by
  obtain ⟨g1, g2⟩ := good_small hp h1 h2
  obtain ⟨k1, k2⟩ := good_small hq h3 h4
  refine alike (e := pe p) (e' := pe q) (by omega) (by omega) hn hpn hqn hodd g2 k2 ?_ ?_ hs (lies_code1 hp h1 h2 ha) (lies_code1 hq h3 h4 ha)
  · rw [g1]; exact fermat_one hp (hp.not_dvd_small h1 ha)
  · rw [k1]; exact fermat_one hq (hq.not_dvd_small h3 ha)

theorem foldl_code_eq {p q : Nat} : ∀ (l : List Nat) (c : Nat), (∀ a, a ∈ l → code1 p a = code1 q a) → l.foldl (fun c a => c * 16 + code1 p a) c = l.foldl (fun c a => c * 16 + code1 q a) c
  | [], _, _ => rfl
  | x :: xs, c, h => by
    simp only [List.foldl_cons]
    rw [h x (List.mem_cons_self ..)]
    exact foldl_code_eq xs _ (fun a ha => h a (List.mem_cons_of_mem _ ha))

theorem mr_prime {n s d : Nat} (hn : 2 ≤ n) (hlt : n < 2 ^ 28) (hsd : n - 1 = 2 ^ s * d) (hodd : d % 2 = 1)
    (hdiv : ∀ a, a ∈ bases → ¬ a ∣ n) (hS : ∀ a, a ∈ bases → Strong n s d a) : Pr n := by
  obtain ⟨p, hp, hpn, hleast⟩ := exists_least n hn
  have hF : ∀ a, a ∈ bases → a ^ (n - 1) % n = 1 := fun a ha => strong_fermat hn hsd (hS a ha)
  have b2 : 2 ∈ bases := by decide
  have b3 : 3 ∈ bases := by decide
  have b5 : 5 ∈ bases := by decide
  have b7 : 7 ∈ bases := by decide
  have b11 : 11 ∈ bases := by decide
  have b13 : 13 ∈ bases := by decide
  have h41 : ∀ r, Pr r → r ∣ n → 41 ≤ r := by
    intro r hr hrn
    by_cases hlt : r < 41
    · exfalso
      have h2 := hr.1
      have hb : r ∉ bases := fun hm => hdiv r hm hrn
      have key : ∀ r, r < 41 → 2 ≤ r → r ∉ bases → hasDiv r 6 = true := by decide
      obtain ⟨d, hd, hdr, hne⟩ := hasDiv_tells r 6 (key r hlt h2 hb)
      rcases hr.2 d hdr with e | e
      · omega
      · exact hne e
    · omega
  have hp41 := h41 p hp hpn
  obtain ⟨m, rfl⟩ := hpn
  by_cases hm1 : m = 1
  · subst hm1; rw [Nat.mul_one]; exact hp
  exfalso
  have hpos : 0 < p * m := by omega
  have hm0 : m ≠ 0 := by rintro rfl; omega
  have hm2 : 2 ≤ m := by omega
  obtain ⟨q, hq, hqm, hqleast⟩ := exists_least m hm2
  have hqn : q ∣ p * m := Nat.dvd_trans hqm (Nat.dvd_mul_left m p)
  have hq41 := h41 q hq hqn
  have hpq : p ≤ q := hleast q hq.1 hqn
  have hqle : q ≤ m := Nat.le_of_dvd (by omega) hqm
  have hpp : p * p ≤ p * m := Nat.mul_le_mul_left p (by omega)
  have hp14 : p < 16384 := by
    by_cases h : p < 16384
    · exact h
    · have : 16384 * 16384 ≤ p * p := Nat.mul_le_mul (by omega) (by omega)
      omega
  have hpodd : p % 2 = 1 := by
    by_cases h : p % 2 = 0
    · rcases hp.2 2 (Nat.dvd_of_mod_eq_zero h) with e | e <;> omega
    · omega
  by_cases hpeq : p = q
  · -- a square
    subst hpeq
    have hsq : p * p ∣ p * m := Nat.mul_dvd_mul_left p hqm
    have s2 := square_case hp hsq hpos (hp.not_dvd_small hp41 b2) (hF 2 b2)
    have s3 := square_case hp hsq hpos (hp.not_dvd_small hp41 b3) (hF 3 b3)
    by_cases hh : p < 8233
    · have := sqChk_tells 4096 41 sq_a ((p - 41) / 2) (by omega)
      rw [show 41 + 2 * ((p - 41) / 2) = p by omega] at this
      exact this ⟨s2, s3⟩
    · have := sqChk_tells 4096 8233 sq_b ((p - 8233) / 2) (by omega)
      rw [show 8233 + 2 * ((p - 8233) / 2) = p by omega] at this
      exact this ⟨s2, s3⟩
  · have hpltq : p < q := by omega
    obtain ⟨x, rfl⟩ := hqm
    by_cases hx1 : x = 1
    · -- two primes
      subst hx1
      rw [Nat.mul_one] at hF
      have t : ∀ a, a ∈ bases → q ∣ a ^ (p - 1) - 1 := fun a ha => two_case hp.1 hq (hq.not_dvd_small hq41 ha) (hF a ha)
      have hg : q ∣ gg p := Nat.dvd_gcd (t 2 b2) (Nat.dvd_gcd (t 3 b3) (Nat.dvd_gcd (t 5 b5) (Nat.dvd_gcd (t 7 b7) (Nat.dvd_gcd (t 11 b11) (t 13 b13)))))
      have := gChk_tells 8172 41 M0 g_all (fun q hq h => M0_below q hq h) ((p - 41) / 2) (by omega)
      rw [show 41 + 2 * ((p - 41) / 2) = p by omega] at this
      rcases this with h | h
      · rw [skip_not hp hp41] at h; exact absurd h (by decide)
      · have := h q hq hg; omega
    · -- three or more
      have hx0 : x ≠ 0 := by rintro rfl; omega
      obtain ⟨r, hr, hrx, _⟩ := exists_least x (by omega)
      have hqr : q ≤ r := hqleast r hr.1 (Nat.dvd_trans hrx (Nat.dvd_mul_left x q))
      have hrle : r ≤ x := Nat.le_of_dvd (by omega) hrx
      have hqq : q * q ≤ q * x := Nat.mul_le_mul_left q (by omega)
      have hq25 : q < 2560 := by
        by_cases h : q < 2560
        · exact h
        · have h1 : 2560 * 2560 ≤ q * q := Nat.mul_le_mul (by omega) (by omega)
          have h2 : 41 * (2560 * 2560) ≤ p * (q * x) := Nat.mul_le_mul (by omega) (by omega)
          omega
      refine code_ne hp hq hp41 hpltq hq25 ?_
      exact foldl_code_eq bases 0 (fun a ha => code1_eq hp hq hp41 (by omega) hq41 hq25 hpos (Nat.dvd_mul_right _ _) hqn hodd ha (hS a ha))

end Go.Proofs.YthanbjnpfenniaaDoor.NumTh

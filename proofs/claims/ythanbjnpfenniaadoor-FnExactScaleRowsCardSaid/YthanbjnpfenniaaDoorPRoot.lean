/- The least root of unity of an order: both sides. -/
import Derived.Test.YthanbjnpfenniaaDoorPPow
import Derived.Test.YthanbjnpfenniaaDoorRoot
namespace Go.Proofs.YthanbjnpfenniaaDoor.Fw
open Go Go.RowKit Go.Proofs.YthanbjnpfenniaaDoor.NumTh
set_option linter.unusedVariables false

theorem least_of {P : Nat → Prop} : ∀ n, P n → ∃ m, m ≤ n ∧ P m ∧ ∀ k, k < m → ¬ P k := by
  intro n
  induction n using Nat.strongRecOn with
  | ind n ih =>
    intro h
    by_cases hex : ∃ k, k < n ∧ P k
    · obtain ⟨k, hk, hp⟩ := hex
      obtain ⟨m, h1, h2, h3⟩ := ih k hk hp
      exact ⟨m, by omega, h2, h3⟩
    · exact ⟨n, Nat.le_refl _, h, fun k hk hp => hex ⟨k, hk, hp⟩⟩
/-- The least of the odd powers, so many rounds. -/
def leastF (p own : Int) : Nat → Int → Int → Int
  | 0, l, _ => l
  | r + 1, l, x => leastF p own r (if x < l then x else l) (x * own % p * own % p)
/-- A number of which order is its power. -/
def RootOK (p n v : Int) : Prop := 0 < v ∧ v < p ∧ v ^ n.toNat % p = 1
theorem rootOK_odd {p n x own : Int} (hp : 1 < p) (hx : RootOK p n x) (ho : RootOK p n own) (hx2 : 0 < x * own % p * own % p) : RootOK p n (x * own % p * own % p) := by
  refine ⟨hx2, Int.emod_lt_of_pos _ (by omega), ?_⟩
  rw [pow_emod', Int.mul_pow, ← mul_mod_l, pow_emod', Int.mul_pow, ← mul_mod_l (x ^ n.toNat), hx.2.2, Int.one_mul, ← mul_mod_r, ho.2.2, Int.mul_one]
  exact Int.emod_eq_of_lt (by omega) hp
theorem leastF_ok {p n own : Int} (hp : 1 < p) (ho : RootOK p n own) (hnz : ∀ x, 0 < x → x < p → 0 < x * own % p) : ∀ (r : Nat) (l x : Int), RootOK p n l → RootOK p n x → RootOK p n (leastF p own r l x)
  | 0, l, x, hl, _ => hl
  | r + 1, l, x, hl, hx => by
    unfold leastF
    have h1 := hnz x hx.1 hx.2.1
    have h2 := hnz _ h1 (Int.emod_lt_of_pos _ (by omega))
    refine leastF_ok hp ho hnz r _ _ ?_ (rootOK_odd hp hx ho h2)
    split
    · exact hx
    · exact hl
section
variable {n : Nat} {p m : Int}
theorem least_i (hp : 0 < p) (hp' : p ≤ 268435456) {own : Int} (ho : 0 ≤ own) (ho' : own < p) {h : Nat} (hh : h ≤ 32) (hm : m = 2 * (h : Int)) {C : Ca tb} {a : Int} : ∀ (r j : Nat), j + r = h → ∀ (l x : Int), 0 ≤ x → x < p → ∀ K, r < K →
    iterO (impl_root_g2 C n p m (own, a)) K (l, x, (j : Int)) = some (leastF p own r l x)
  | 0, j, hj, l, x, _, _, K, hK => by
    obtain ⟨K, rfl⟩ : ∃ q, K = q + 1 := ⟨K - 1, by omega⟩
    show impl_root_x2 C _ _ _ _ _ = _
    unfold impl_root_x2
    dsimp only
    rw [tdiv_nn (by omega), w64 (by omega) (by omega), if_neg (by omega)]; rfl
  | r + 1, j, hj, l, x, hx, hx', K, hK => by
    obtain ⟨K, rfl⟩ : ∃ q, K = q + 1 := ⟨K - 1, by omega⟩
    show impl_root_x2 C _ _ _ _ _ = _
    unfold impl_root_x2
    dsimp only
    obtain ⟨a1, a2⟩ := mul_small hx (by omega) ho (by omega)
    have r0 := Int.emod_nonneg (x * own) (show p ≠ 0 by omega)
    have r1 := Int.emod_lt_of_pos (x * own) hp
    obtain ⟨b1, b2⟩ := mul_small r0 (by omega) ho (by omega)
    rw [tdiv_nn (by omega), w64 (n := m / 2) (by omega) (by omega), if_pos (by omega), if_neg (by omega), if_neg (by omega), w64 (n := x * own) (by omega) (by omega), tmod_nn a1, w64 (n := x * own % p * own) (by omega) (by omega), tmod_nn b1, w64 (n := (j : Int) + 1) (by omega) (by omega), ni1]
    exact least_i hp hp' ho ho' hh hm r (j + 1) (by omega) _ _ (Int.emod_nonneg _ (by omega)) (Int.emod_lt_of_pos _ hp) K (by omega)
theorem least_s2 (hp : 0 < p) (hp' : p ≤ 268435456) {own : Int} (ho : 0 ≤ own) (ho' : own < p) {h : Nat} (hh : h ≤ 32) (hm : m = 2 * (h : Int)) {C : Ca tb} {a : Int} : ∀ (r j : Nat), j + r = h → ∀ (l x : Int), 0 ≤ x → x < p → ∀ K, r < K →
    iterO (spec_l1LeastRoot_g2 C n p m (own, a)) K (l, x, 2 * (j : Int) + 1) = some (leastF p own r l x)
  | 0, j, hj, l, x, _, _, K, hK => by
    obtain ⟨K, rfl⟩ : ∃ q, K = q + 1 := ⟨K - 1, by omega⟩
    show spec_l1LeastRoot_x2 C _ _ _ _ _ = _
    unfold spec_l1LeastRoot_x2
    dsimp only
    rw [if_neg (by omega)]; rfl
  | r + 1, j, hj, l, x, hx, hx', K, hK => by
    obtain ⟨K, rfl⟩ : ∃ q, K = q + 1 := ⟨K - 1, by omega⟩
    have ih := fun l x h1 h2 => least_s2 hp hp' ho ho' hh hm (C := C) (a := a) r (j + 1) (by omega) l x h1 h2 K (by omega)
    show spec_l1LeastRoot_x2 C _ _ _ _ _ = _
    unfold spec_l1LeastRoot_x2
    dsimp only
    obtain ⟨a1, a2⟩ := mul_small hx (by omega) ho (by omega)
    have r0 := Int.emod_nonneg (x * own) (show p ≠ 0 by omega)
    have r1 := Int.emod_lt_of_pos (x * own) hp
    obtain ⟨b1, b2⟩ := mul_small r0 (by omega) ho (by omega)
    have np : ¬ (p = 0) := by omega
    have e : 2 * (j : Int) + 1 + 2 = 2 * ((j + 1 : Nat) : Int) + 1 := by omega
    rw [if_pos (by omega), w64 (n := x * own) (by omega) (by omega), tmod_nn a1, w64 (n := x * own % p * own) (by omega) (by omega), tmod_nn b1, w64 (n := 2 * (j : Int) + 1 + 2) (by omega) (by omega), e]
    simp only [np, if_false]
    unfold leastF
    by_cases c : x < l
    · rw [if_pos c, if_pos c]; exact ih _ _ (Int.emod_nonneg _ (by omega)) (Int.emod_lt_of_pos _ hp)
    · rw [if_neg c, if_neg c]; exact ih _ _ (Int.emod_nonneg _ (by omega)) (Int.emod_lt_of_pos _ hp)
end
/-- What is searched: the first number whose power is no root of half. -/
def goodA (p m : Int) (a : Nat) : Prop := 2 ≤ a ∧ ((a : Int) ^ ((p - 1) / m).toNat % p) ^ (m / 2).toNat % p ≠ 1
theorem root_search {p : Int} (hp : primeB p = true) {h : Nat} (h1 : 1 ≤ h) (hd : (p - 1) % (2 * (h : Int)) = 0) :
    ∃ a0 : Nat, (a0 : Int) < p ∧ goodA p (2 * h) a0 ∧ (∀ k, k < a0 → ¬ goodA p (2 * h) k) ∧ 0 < (a0 : Int) ^ ((p - 1) / (2 * h)).toNat % p ∧ RootOK p (2 * h) ((a0 : Int) ^ ((p - 1) / (2 * h)).toNat % p) ∧
      ∀ x, 0 < x → x < p → 0 < x * ((a0 : Int) ^ ((p - 1) / (2 * h)).toNat % p) % p := by
  have hpr := primeB_pr hp
  obtain ⟨⟨hp2, hpl⟩, _⟩ := primeB_iff.1 hp
  obtain ⟨q, rfl⟩ : ∃ q : Nat, p = (q : Int) := ⟨p.toNat, by omega⟩
  rw [Int.toNat_natCast] at hpr
  have hdn : (q - 1) % (2 * h) = 0 := by
    have e : ((q : Int) - 1) = ((q - 1 : Nat) : Int) := by omega
    rw [e] at hd
    have e2 : (2 * (h : Int)) = ((2 * h : Nat) : Int) := by omega
    rw [e2, ← Int.natCast_emod] at hd
    omega
  have hodd : q % 2 = 1 := by
    have : (q - 1) % 2 = 0 := by
      have h2 := Nat.mod_mod_of_dvd (q - 1) (⟨h, rfl⟩ : 2 ∣ 2 * h)
      rw [hdn] at h2
      omega
    omega
  -- the exponents
  have e1 : (((q : Int) - 1) / (2 * (h : Int))).toNat = (q - 1) / (2 * h) := by
    have e : ((q : Int) - 1) = ((q - 1 : Nat) : Int) := by omega
    have e2 : (2 * (h : Int)) = ((2 * h : Nat) : Int) := by omega
    rw [e, e2, ← Int.natCast_ediv, Int.toNat_natCast]
  have e2 : (2 * (h : Int) / 2).toNat = h := by omega
  have e3 : (2 * (h : Int)).toNat = 2 * h := by omega
  have hk : (q - 1) / (2 * h) * (2 * h) = q - 1 := Nat.div_mul_cancel (Nat.dvd_of_mod_eq_zero hdn)
  generalize hkk : (q - 1) / (2 * h) = k at *
  have hhalf : k * h = (q - 1) / 2 := by
    have : k * (2 * h) = 2 * (k * h) := by rw [Nat.mul_left_comm]
    omega
  obtain ⟨g, g1, g2, g3⟩ := exists_nonres hpr hodd
  have val : ∀ a : Nat, ((a : Int) ^ k % (q : Int)) ^ h % (q : Int) = ((a ^ ((q - 1) / 2) % q : Nat) : Int) := by
    intro a
    rw [pow_emod', ← Int.pow_mul, hhalf, ← cast_pow_mod]
  have hg : goodA (q : Int) (2 * h) g := by
    refine ⟨g1, ?_⟩
    rw [e1, e2, val, g3]
    have := hpr.1
    omega
  obtain ⟨a0, b1, b2, b3⟩ := least_of g hg
  have hnd : ∀ a : Nat, 0 < a → a < q → ¬ q ∣ a := fun a h0 hl hd => by have := Nat.le_of_dvd h0 hd; omega
  have ha0 : ¬ q ∣ a0 := hnd a0 (by have := b2.1; omega) (by omega)
  have xpos : 0 < a0 ^ k % q := by
    rcases Nat.eq_zero_or_pos (a0 ^ k % q) with e | e
    · exact absurd (hpr.dvd_pow k (Nat.dvd_of_mod_eq_zero e)) ha0
    · exact e
  refine ⟨a0, by omega, b2, b3, ?_, ⟨?_, Int.emod_lt_of_pos _ (by omega), ?_⟩, ?_⟩
  · rw [e1, ← cast_pow_mod]; omega
  · rw [e1, ← cast_pow_mod]; omega
  · rw [e1, e3, pow_emod', ← Int.pow_mul, hk, ← cast_pow_mod, fermat_one hpr ha0]; rfl
  · intro x hx hx'
    obtain ⟨y, rfl⟩ : ∃ y : Nat, x = (y : Int) := ⟨x.toNat, by omega⟩
    rw [e1, ← cast_pow_mod, ← Int.natCast_mul, ← Int.natCast_emod]
    rcases Nat.eq_zero_or_pos (y * (a0 ^ k % q) % q) with e | e
    · rcases hpr.dvd_mul (Nat.dvd_of_mod_eq_zero e) with hy | hy
      · exact absurd hy (hnd y (by omega) (by omega))
      · exact absurd hy (hnd _ xpos (Nat.mod_lt _ (by omega)))
    · omega
theorem root_both {p : Int} (hp : primeB p = true) {h : Nat} (h1 : 1 ≤ h) (hh : h ≤ 32) (hd : (p - 1) % (2 * (h : Int)) = 0) :
    ∃ v, RootOK p (2 * h) v ∧ ∀ n, Big + 8 ≤ n → c_impl_root (run tb orc n) p (2 * h) = some v ∧ c_spec_l1LeastRoot (run tb orc n) p (2 * h) = some v := by
  obtain ⟨a0, q1, q2, q3, q4, q5, q6⟩ := root_search hp h1 hd
  obtain ⟨⟨hp2, hpl⟩, _⟩ := primeB_iff.1 hp
  have hb := big_ge
  have p0 : ¬ (p = 0) := by omega
  have eK : 0 ≤ (p - 1) / (2 * (h : Int)) := Int.ediv_nonneg (by omega) (by omega)
  have eK' : (p - 1) / (2 * (h : Int)) ≤ p - 1 := Int.ediv_le_self _ (by omega)
  have hw1 : wr .i64 ((wr .i64 (p - 1)).tdiv (2 * (h : Int))) = (p - 1) / (2 * (h : Int)) := by rw [w64 (n := p - 1) (by omega) (by omega), tdiv_nn (by omega), w64 (by omega) (by omega)]
  have hw2 : wr .i64 ((2 * (h : Int)).tdiv 2) = (2 * (h : Int)) / 2 := by rw [tdiv_nn (by omega), w64 (by omega) (by omega)]
  generalize hX : (a0 : Int) ^ ((p - 1) / (2 * (h : Int))).toNat % p = X at *
  refine ⟨leastF p X h X X, leastF_ok (by omega) q5 q6 h X X q5 q5, fun n hn => ?_⟩
  obtain ⟨n, rfl, hq⟩ := up hn
  have bad : ∀ a : Nat, 2 ≤ a → a < a0 → ((a : Int) ^ ((p - 1) / (2 * (h : Int))).toNat % p) ^ (2 * (h : Int) / 2).toNat % p = 1 := by
    intro a ha hl
    have := q3 a hl
    unfold goodA at this
    rcases Decidable.em (((a : Int) ^ ((p - 1) / (2 * (h : Int))).toNat % p) ^ (2 * (h : Int) / 2).toNat % p = 1) with e | e
    · exact e
    · exact absurd ⟨ha, e⟩ this
  have n2 : ¬ ((2 : Int) = 0) := by omega
  have nh : ¬ (2 * (h : Int) = 0) := by omega
  have t1 : (1 : Int).tmod p = 1 := by rw [tmod_nn (by omega), Int.emod_eq_of_lt (by omega) (by omega)]
  have gi : ∀ (d a : Nat), a + d = a0 → 2 ≤ a → ∀ K, d + 1 < K → iterO (impl_root_g1 (run tb orc n) n p (2 * (h : Int))) K (0, (a : Int)) = some (leastF p X h X X) := by
    intro d
    induction d with
    | zero =>
      intro a ha ha2 K hK
      obtain ⟨K, rfl⟩ : ∃ q, K = q + 2 := ⟨K - 2, by omega⟩
      have e : a = a0 := by omega
      subst e
      have step : ∀ self, impl_root_g1 (run tb orc n) n p (2 * (h : Int)) self (0, (a : Int)) = self (X, ((a + 1 : Nat) : Int)) := by
        intro self
        unfold impl_root_g1 impl_root_x1
        dsimp only
        rw [if_pos rfl, if_neg nh, hw1, pow_ret (by omega) eK (by omega) (by omega) hpl]
        simp only [Option.bind_some]
        rw [if_neg n2, hw2, pow_ret (by omega) (by omega) (by omega) (by omega) hpl]
        simp only [Option.bind_some]
        have := q2.2
        rw [hX] at this ⊢
        rw [if_neg p0, t1, if_neg this, w64 (by omega) (by omega), ni1]
      rw [iterO_succ, step, iterO_succ]
      unfold impl_root_g1 impl_root_x1
      dsimp only
      rw [if_neg (by omega), if_neg n2]
      exact least_i (by omega) hpl (by omega) q5.2.1 hh rfl h 0 (by omega) _ _ (by omega) q5.2.1 n (by omega)
    | succ d ih =>
      intro a ha ha2 K hK
      obtain ⟨K, rfl⟩ : ∃ q, K = q + 1 := ⟨K - 1, by omega⟩
      have ih := ih (a + 1) (by omega) (by omega) K (by omega)
      have step : ∀ self, impl_root_g1 (run tb orc n) n p (2 * (h : Int)) self (0, (a : Int)) = self (0, ((a + 1 : Nat) : Int)) := by
        intro self
        unfold impl_root_g1 impl_root_x1
        dsimp only
        rw [if_pos rfl, if_neg nh, hw1, pow_ret (by omega) eK (by omega) (by omega) hpl]
        simp only [Option.bind_some]
        rw [if_neg n2, hw2, pow_ret (by omega) (by omega) (by omega) (by omega) hpl]
        simp only [Option.bind_some]
        rw [bad a ha2 (by omega), if_neg p0, t1, if_pos rfl, w64 (by omega) (by omega), ni1]
      rw [iterO_succ, step]; exact ih
  have gs : ∀ (d a : Nat), a + d = a0 → 2 ≤ a → ∀ K, d + 1 < K → iterO (spec_l1LeastRoot_g1 (run tb orc n) n p (2 * (h : Int))) K (0, (a : Int)) = some (leastF p X h X X) := by
    intro d
    induction d with
    | zero =>
      intro a ha ha2 K hK
      obtain ⟨K, rfl⟩ : ∃ q, K = q + 2 := ⟨K - 2, by omega⟩
      have e : a = a0 := by omega
      subst e
      have step : ∀ self, spec_l1LeastRoot_g1 (run tb orc n) n p (2 * (h : Int)) self (0, (a : Int)) = self (X, ((a + 1 : Nat) : Int)) := by
        intro self
        unfold spec_l1LeastRoot_g1 spec_l1LeastRoot_x1
        dsimp only
        rw [if_pos (by omega), if_pos rfl, if_neg nh, hw1, l1Pow_ret (by omega) eK (by omega) (by omega) hpl]
        simp only [Option.bind_some]
        rw [if_neg n2, hw2, l1Pow_ret (by omega) (by omega) (by omega) (by omega) hpl]
        simp only [Option.bind_some]
        have := q2.2
        rw [hX] at this ⊢
        rw [if_neg this, w64 (by omega) (by omega), ni1]
      have fin : ∀ self, spec_l1LeastRoot_g1 (run tb orc n) n p (2 * (h : Int)) self (X, ((a + 1 : Nat) : Int)) = some (leastF p X h X X) := by
        intro self
        unfold spec_l1LeastRoot_g1 spec_l1LeastRoot_x1
        dsimp only
        have l2 := least_s2 (m := 2 * (h : Int)) (n := n) (by omega) hpl (show 0 ≤ X by omega) q5.2.1 hh rfl (C := run tb orc n) (a := ((a + 1 : Nat) : Int)) h 0 (by omega) X X (by omega) q5.2.1 n (by omega)
        by_cases c : ((a + 1 : Nat) : Int) ≤ p
        · rw [if_pos c, if_neg (by omega)]; exact l2
        · exact absurd (by omega) c
      rw [iterO_succ, step, iterO_succ, fin]
    | succ d ih =>
      intro a ha ha2 K hK
      obtain ⟨K, rfl⟩ : ∃ q, K = q + 1 := ⟨K - 1, by omega⟩
      have ih := ih (a + 1) (by omega) (by omega) K (by omega)
      have step : ∀ self, spec_l1LeastRoot_g1 (run tb orc n) n p (2 * (h : Int)) self (0, (a : Int)) = self (0, ((a + 1 : Nat) : Int)) := by
        intro self
        unfold spec_l1LeastRoot_g1 spec_l1LeastRoot_x1
        dsimp only
        rw [if_pos (by omega), if_pos rfl, if_neg nh, hw1, l1Pow_ret (by omega) eK (by omega) (by omega) hpl]
        simp only [Option.bind_some]
        rw [if_neg n2, hw2, l1Pow_ret (by omega) (by omega) (by omega) (by omega) hpl]
        simp only [Option.bind_some]
        rw [bad a ha2 (by omega), if_pos rfl, w64 (by omega) (by omega), ni1]
      rw [iterO_succ, step]; exact ih
  have ha0 := q2.1
  constructor
  · rw [impl_root_eq]; unfold impl_root_f impl_root_x
    exact gi (a0 - 2) 2 (by omega) (by omega) n (by omega)
  · rw [spec_l1LeastRoot_eq]; unfold spec_l1LeastRoot_f spec_l1LeastRoot_x
    exact gs (a0 - 2) 2 (by omega) (by omega) n (by omega)
end Go.Proofs.YthanbjnpfenniaaDoor.Fw

/- SmallMont: both sides. -/
import Derived.Test.YthanbjnpfenniaaDoorPHas
import Derived.Test.YthanbjnpfenniaaDoorPResS
import Derived.Test.YthanbjnpfenniaaDoorPPlS
import Derived.Test.YthanbjnpfenniaaDoorEqLSmallMont
namespace Go.Proofs.YthanbjnpfenniaaDoor.Fw
open Go Go.RowKit Go.Proofs.YthanbjnpfenniaaDoor.Limbs
set_option linter.unusedVariables false
set_option linter.unusedSimpArgs false

theorem pow2_of : ∀ (n : Nat), 0 < n → n &&& (n - 1) = 0 → ∃ k, n = 2 ^ k := by
  intro n
  induction n using Nat.strongRecOn with
  | ind n ih =>
    intro h0 h
    by_cases h1 : n = 1
    · exact ⟨0, by rw [h1]⟩
    · have hd := Nat.and_div_two (a := n) (b := n - 1)
      rw [h, Nat.zero_div] at hd
      by_cases e : n % 2 = 0
      · have e2 : (n - 1) / 2 = n / 2 - 1 := by omega
        rw [e2] at hd
        obtain ⟨k, hk⟩ := ih (n / 2) (by omega) (by omega) hd.symm
        exact ⟨k + 1, by rw [Nat.pow_succ, ← hk]; omega⟩
      · have e2 : (n - 1) / 2 = n / 2 := by omega
        rw [e2, Nat.and_self] at hd
        omega
theorem powB_pow {x lo hi : Int} (hl : 1 ≤ lo) (hh : hi ≤ 9223372036854775807) (h : powB x lo hi = true) : ∃ k : Nat, x = (2 : Int) ^ k := by
  unfold powB at h
  rw [Bool.and_eq_true, decide_eq_true_eq, decide_eq_true_eq] at h
  obtain ⟨h1, h2⟩ := h
  rw [and_i64] at h2
  have e1 : (x % 18446744073709551616).toNat = x.toNat := by omega
  have e2 : ((x - 1) % 18446744073709551616).toNat = x.toNat - 1 := by omega
  rw [e1, e2] at h2
  have hle : x.toNat &&& (x.toNat - 1) ≤ x.toNat := Nat.and_le_left
  rw [wp64 (by omega) (by omega)] at h2
  obtain ⟨k, hk⟩ := pow2_of x.toNat (by omega) (by omega)
  refine ⟨k, ?_⟩
  have : ((x.toNat : Nat) : Int) = ((2 ^ k : Nat) : Int) := by rw [hk]
  push_cast at this
  omega
theorem ex_odd {l : List Int} {i : Nat} : ∀ (d j : Nat) (P : Int), (∀ k, j ≤ k → k < j + d → l.getD k 0 % 2 = 1) → P % 2 = 1 → foldN (exStep l i) j d P % 2 = 1
  | 0, j, P, _, h => h
  | d + 1, j, P, hl, h => by
    show foldN (exStep l i) (j + 1) d (exStep l i j P) % 2 = 1
    refine ex_odd d (j + 1) _ (fun k h1 h2 => hl k (by omega) (by omega)) ?_
    unfold exStep
    by_cases c : j = i
    · rw [if_pos c]; exact h
    · rw [if_neg c, Int.mul_emod, h, hl j (Nat.le_refl _) (by omega)]; rfl
theorem prime_odd {p : Int} (hp : primeB p = true) (h2 : p ≠ 2) : p % 2 = 1 := by
  have hr := (primeB_iff.1 hp).1
  have hpr := primeB_pr hp
  rcases Int.emod_two_eq p with h | h
  · exfalso
    have hd : 2 ∣ p.toNat := by omega
    rcases hpr.2 _ hd with h3 | h3 <;> omega
  · exact h
theorem cop_pow2 {Q : Int} (hQ : Q % 2 = 1) (k : Nat) : Cop Q ((2 : Int) ^ k) := by
  intro d d1 d2
  have hQ' : ((2 : Int) ^ k) ≠ 0 := Int.pow_ne_zero (by omega)
  have d3 : d ∣ Q := by
    rw [← Int.emod_add_mul_ediv Q ((2 : Int) ^ k)]
    exact Int.dvd_add d2 (Int.dvd_trans d1 (Int.dvd_mul_right _ _))
  have n1 : d.natAbs ∣ 2 ^ k := by
    have := Int.natAbs_dvd_natAbs.2 d1
    rwa [Int.natAbs_pow] at this
  have n2 : d.natAbs % 2 = 1 := by
    by_cases c : d.natAbs % 2 = 1
    · exact c
    · exfalso
      have : (2 : Int) ∣ d := by omega
      have := Int.dvd_trans this d3
      omega
  have hc : Nat.Coprime d.natAbs 2 := by
    have h1 : Nat.gcd d.natAbs 2 ∣ 2 := Nat.gcd_dvd_right _ _
    have h2 : Nat.gcd d.natAbs 2 ∣ d.natAbs := Nat.gcd_dvd_left _ _
    have h3 : Nat.gcd d.natAbs 2 ≤ 2 := Nat.le_of_dvd (by omega) h1
    have h4 : Nat.gcd d.natAbs 2 ≠ 2 := fun e => by rw [e] at h2; omega
    have h5 : Nat.gcd d.natAbs 2 ≠ 0 := fun e => by rw [e] at h1; omega
    show Nat.gcd d.natAbs 2 = 1
    omega
  have := Nat.Coprime.eq_one_of_dvd (Nat.Coprime.pow_right k hc) n1
  exact Int.natAbs_dvd.1 (by rw [this]; exact Int.dvd_refl _)
theorem pow2_cop {p : Int} (hp : primeB p = true) (h2 : p ≠ 2) (k : Nat) : Cop ((2 : Int) ^ k) p := by
  have hr := (primeB_iff.1 hp).1
  have hpr := primeB_pr hp
  refine coprime_pr hp fun hd => ?_
  have := Int.natAbs_dvd_natAbs.2 hd
  rw [Int.natAbs_pow, show p.natAbs = p.toNat by omega] at this
  have h3 := hpr.dvd_pow k this
  have := Nat.le_of_dvd (by omega) h3
  omega
theorem resP_sv {m : Int} (hm : 0 < m) {s : Bool} {l : List Int} : resP m s l = sv s l % m := by
  unfold resP sv
  cases s with
  | true =>
    rw [if_pos rfl, if_pos rfl, wordM_is hm]
    rw [show -(val l % m) = 0 - val l % m by omega, Int.sub_emod_emod, Int.zero_sub]
  | false => rw [if_neg (by simp), if_neg (by simp), wordM_is hm]
theorem l2Int_ret {n : Nat} (hn : Big + 3 ≤ n) {x : Int} (h0 : -4611686018427387904 ≤ x) (h1 : x ≤ 4611686018427387904) : ∃ s r, Can s r ∧ sv s r = x ∧ r.length ≤ 4 ∧ c_spec_l2Int (run tb orc n) x = some (s, r) := by
  obtain ⟨n, rfl, hq⟩ := up (k := 2) hn
  rw [spec_l2Int_eq]; unfold spec_l2Int_f spec_l2Int_x
  by_cases c : x ≥ 0
  · obtain ⟨w1, w2⟩ := wh3 c (by omega)
    have wl := wh_len 3 x
    refine ⟨false, wh 3 x, ⟨w1, fun _ => rfl⟩, w2, by omega, ?_⟩
    rw [if_pos c, l2Of_ret (by omega) c (by omega)]; rfl
  · obtain ⟨w1, w2⟩ := wh3 (x := -(x + 1)) (by omega) (by omega)
    have wl := wh_len 3 (-(x + 1))
    obtain ⟨r, r1, r2, r3, r4⟩ := l2Add_ret (n := n) hq w1.ok norm_one.ok (by simp; omega)
    rw [w2, val_one] at r2
    refine ⟨true, r, ⟨r1, fun e => by rw [e] at r2; have : (0 : Int) = -(x + 1) + 1 := r2; omega⟩, by show -val r = x; omega, by simp at r3; omega, ?_⟩
    rw [if_neg c, w64 (n := x + 1) (by omega) (by omega), w64 (n := 0 - (x + 1)) (by omega) (by omega), Int.zero_sub, l2Of_ret (by omega) (by omega) (by omega)]
    simp only [Option.bind_some]
    rw [r4]; rfl
/-- The factor of the product. -/
noncomputable def mc0 (l : List Int) (e m : Int) : Int := -e * invC (prodAll l % m) m % m
noncomputable def mcF (l : List Int) (e m : Int) : Int := if mc0 l e m ≥ m / 2 then mc0 l e m - m else mc0 l e m
noncomputable def montX (l r : List Int) (e m : Int) : Int := sumV l r + mcF l e m * prodAll l
noncomputable def montAt (l r t : List Int) (e m : Int) (i : Nat) : Int := montX l r e m % t.getD i 0 * invC m (t.getD i 0) % t.getD i 0
structure MontOK (r l t : List Int) (e m : Int) : Prop where
  rs : ResOK r l
  bt : Basis t
  m4 : 4 ≤ m
  mh : m ≤ 65536
  pw : ∃ k : Nat, m = (2 : Int) ^ k
  e0 : 0 ≤ e
  e1 : e ≤ m - 1
  ol : ∀ p ∈ l, p ≠ 2
  ot : ∀ p ∈ t, p ≠ 2
theorem MontOK.cop {r l t : List Int} {e m : Int} (h : MontOK r l t e m) : Cop (prodAll l % m) m := by
  obtain ⟨k, hk⟩ := h.pw
  refine cop_mod ?_
  rw [hk]
  refine cop_pow2 (ex_odd l.length 0 1 (fun k _ hk => ?_) rfl) k
  exact prime_odd (h.rs.bs.prime (by omega)) (h.ol _ (by rw [getD_get (by omega)]; exact List.getElem_mem _))
theorem MontOK.cop2 {r l t : List Int} {e m : Int} (h : MontOK r l t e m) {i : Nat} (hi : i < t.length) : Cop m (t.getD i 0) := by
  obtain ⟨k, hk⟩ := h.pw
  rw [hk]
  exact pow2_cop (h.bt.prime hi) (h.ot _ (by rw [getD_get hi]; exact List.getElem_mem _)) k
theorem convMont_ret {n : Nat} (hn : Big + 8 ≤ n) {r l t q : List Int} {e m c : Int} (h : MontOK r l t e m) (q1 : Norm q) (q2 : val q = prodAll l) (q3 : q.length ≤ 21) (hc : c = mcF l e m) :
    c_impl_converted_impl_SmallMont_1 (run tb orc n) t m (topL l r) l c false q = some (idxL (montAt l r t e m) 0 t.length) := by
  obtain ⟨n, rfl, hq⟩ := up (k := 7) hn
  have hbig := big_ge
  have l6 := h.bt.len
  rw [impl_converted_impl_SmallMont_1_eq]; unfold impl_converted_impl_SmallMont_1_f impl_converted_impl_SmallMont_1_x
  refine (map_idx (fun i out => (i, out)) (montAt l r t e m) (fun out => some out) (len := t.length) (G := impl_converted_impl_SmallMont_1_g1 (run tb orc n) n t m (topL l r) l c false q) (fun self i out hi ho => ?_) (fun self out ho => ?_) t.length 0 [] (by omega) rfl n (by omega)).trans rfl
  · show impl_converted_impl_SmallMont_1_x1 _ _ _ _ _ _ _ _ _ _ = _
    unfold impl_converted_impl_SmallMont_1_x1
    dsimp only
    have b := brng h.bt hi
    obtain ⟨v0, v1, _, v3⟩ := invC_is b.1 b.2 (h.cop2 hi)
    have s0 : 0 ≤ sumV l r % t.getD i 0 := Int.emod_nonneg _ (by omega)
    have s1 : sumV l r % t.getD i 0 < t.getD i 0 := Int.emod_lt_of_pos _ (by omega)
    have c0 : 0 ≤ c % t.getD i 0 := Int.emod_nonneg _ (by omega)
    have c1 : c % t.getD i 0 < t.getD i 0 := Int.emod_lt_of_pos _ (by omega)
    have p0 : 0 ≤ prodAll l % t.getD i 0 := Int.emod_nonneg _ (by omega)
    have p1 : prodAll l % t.getD i 0 < t.getD i 0 := Int.emod_lt_of_pos _ (by omega)
    have x0 : 0 ≤ montX l r e m % t.getD i 0 := Int.emod_nonneg _ (by omega)
    have x1 : montX l r e m % t.getD i 0 < t.getD i 0 := Int.emod_lt_of_pos _ (by omega)
    have w := mul_small c0 (by omega) p0 (by omega)
    have z := mul_small x0 (by omega) v0 (by omega)
    obtain ⟨n, rfl, hq'⟩ := up2 (k := 5) hq
    rw [if_pos (by omega), if_pos (by omega), if_pos (by omega), nat_i, show n + 2 = (n + 1) + 1 from rfl, impl_SmallMont_1_eq]
    unfold impl_SmallMont_1_f impl_SmallMont_1_x
    rw [(v3 (n + 1) (by omega)).1]
    simp only [Option.bind_some]
    rw [fast_ret (by omega) h.rs (by omega) b.2]
    simp only [Option.bind_some]
    rw [mod_ret (by omega) (by omega) (by omega)]
    simp only [Option.bind_some]
    rw [modW_ret (by omega) (by omega) b.2 q1.ok (by omega), resP_sv (by omega), sv_false, q2]
    simp only [Option.bind_some]
    have ex : (sumV l r % t.getD i 0 + c % t.getD i 0 * (prodAll l % t.getD i 0)) % t.getD i 0 = montX l r e m % t.getD i 0 := by
      unfold montX
      rw [hc, Int.add_emod, Int.emod_emod_of_dvd _ (Int.dvd_refl _), ← Int.mul_emod, ← Int.add_emod]
    rw [if_neg (by omega), w64 (n := c % t.getD i 0 * (prodAll l % t.getD i 0)) (by omega) (by omega), w64 (n := sumV l r % t.getD i 0 + c % t.getD i 0 * (prodAll l % t.getD i 0)) (by omega) (by omega), tmod_nn (by omega), ex, w64 (by omega) (by omega)]
    simp only [Option.bind_some]
    rw [mod_ret (by omega) (by omega) (by omega)]
    simp only [Option.bind_some]
    rw [if_pos (by rw [List.length_singleton]; exact lim_lt (by omega)), w64 (by omega) (by omega), ni1]; rfl
  · show impl_converted_impl_SmallMont_1_x1 _ _ _ _ _ _ _ _ _ _ = _
    unfold impl_converted_impl_SmallMont_1_x1
    dsimp only
    rw [if_neg (by omega)]
theorem mont_step {n : Nat} (hn : Big + 3 ≤ n) {r l t : List Int} {e m : Int} (h : MontOK r l t e m) {s : Bool} {x : List Int} (x1 : Can s x) (x2 : sv s x = montX l r e m) (x3 : x.length ≤ 1000) {i : Nat} (hi : i < t.length) :
    c_spec_l2Modulo (run tb orc n) s x (t.getD i 0) = some (montX l r e m % t.getD i 0) ∧ c_spec_l1Inv (run tb orc n) m (t.getD i 0) = some (invC m (t.getD i 0)) ∧ wr .i64 (montX l r e m % t.getD i 0 * invC m (t.getD i 0)) = montX l r e m % t.getD i 0 * invC m (t.getD i 0) ∧ (montX l r e m % t.getD i 0 * invC m (t.getD i 0)).tmod (t.getD i 0) = montAt l r t e m i ∧ t.getD i 0 ≠ 0 := by
  have b := brng h.bt hi
  obtain ⟨v0, v1, _, v3⟩ := invC_is b.1 b.2 (h.cop2 hi)
  have x0 : 0 ≤ montX l r e m % t.getD i 0 := Int.emod_nonneg _ (by omega)
  have y1 : montX l r e m % t.getD i 0 < t.getD i 0 := Int.emod_lt_of_pos _ (by omega)
  have z := mul_small x0 (by omega) v0 (by omega)
  refine ⟨by rw [l2Modulo_ret (by omega) (by omega) b.2 x1.1.ok (by omega), resP_sv (by omega), x2], (v3 n (by omega)).2, w64 (by omega) (by omega), tmod_nn z.1, by omega⟩
theorem mont_s1 {n : Nat} (hn : Big + 3 ≤ n) {r l t : List Int} {e m : Int} (h : MontOK r l t e m) {s : Bool} {x : List Int} (x1 : Can s x) (x2 : sv s x = montX l r e m) (x3 : x.length ≤ 1000) {N K : Nat} (hK : Big ≤ K) :
    iterO (spec_SmallMont_g1 (run tb orc n) N m t (s, x)) K (0, []) = some (idxL (montAt l r t e m) 0 t.length, true) := by
  have hbig := big_ge
  have l6 := h.bt.len
  refine (map_idx (fun i out => (i, out)) (montAt l r t e m) (fun out => some (out, true)) (len := t.length) (G := spec_SmallMont_g1 (run tb orc n) N m t (s, x)) (fun self i out hi ho => ?_) (fun self out ho => ?_) t.length 0 [] (by omega) rfl K (by omega)).trans rfl
  · show spec_SmallMont_x1 _ _ _ _ _ _ = _
    unfold spec_SmallMont_x1
    dsimp only
    obtain ⟨y1, y2, y3, y4, y5⟩ := mont_step hn h x1 x2 x3 hi
    rw [if_pos (by omega), if_pos (by omega), if_pos (by omega), nat_i, y1]
    simp only [Option.bind_some]
    rw [y2]
    simp only [Option.bind_some]
    rw [if_neg y5, if_pos (by rw [List.length_singleton]; exact lim_lt (by omega)), y3, y4, w64 (by omega) (by omega), ni1]
  · show spec_SmallMont_x1 _ _ _ _ _ _ = _
    unfold spec_SmallMont_x1
    dsimp only
    rw [if_neg (by omega)]
theorem mont_s2 {n : Nat} (hn : Big + 3 ≤ n) {r l t : List Int} {e m : Int} (h : MontOK r l t e m) {s : Bool} {x : List Int} (x1 : Can s x) (x2 : sv s x = montX l r e m) (x3 : x.length ≤ 1000) {N K : Nat} (hK : Big ≤ K) :
    iterO (spec_SmallMont_g2 (run tb orc n) N m t (s, x)) K (0, []) = some (idxL (montAt l r t e m) 0 t.length, true) := by
  have hbig := big_ge
  have l6 := h.bt.len
  refine (map_idx (fun i out => (i, out)) (montAt l r t e m) (fun out => some (out, true)) (len := t.length) (G := spec_SmallMont_g2 (run tb orc n) N m t (s, x)) (fun self i out hi ho => ?_) (fun self out ho => ?_) t.length 0 [] (by omega) rfl K (by omega)).trans rfl
  · show spec_SmallMont_x2 _ _ _ _ _ _ = _
    unfold spec_SmallMont_x2
    dsimp only
    obtain ⟨y1, y2, y3, y4, y5⟩ := mont_step hn h x1 x2 x3 hi
    rw [if_pos (by omega), if_pos (by omega), if_pos (by omega), nat_i, y1]
    simp only [Option.bind_some]
    rw [y2]
    simp only [Option.bind_some]
    rw [if_neg y5, if_pos (by rw [List.length_singleton]; exact lim_lt (by omega)), y3, y4, w64 (by omega) (by omega), ni1]
  · show spec_SmallMont_x2 _ _ _ _ _ _ = _
    unfold spec_SmallMont_x2
    dsimp only
    rw [if_neg (by omega)]
theorem mont_val {a : Int} {m : Int} (h4 : 4 ≤ m) (hh : m ≤ 65536) {l : List Int} {e : Int} (e0 : 0 ≤ e) (e1 : e ≤ m - 1) (hc : Cop (prodAll l % m) m) : 0 ≤ invC (prodAll l % m) m ∧ 0 ≤ mc0 l e m ∧ mc0 l e m < m ∧ -4611686018427387904 ≤ -e * invC (prodAll l % m) m ∧ -e * invC (prodAll l % m) m ≤ 4611686018427387904 := by
  obtain ⟨v0, v1, _, _⟩ := invC_is (by omega : 2 ≤ m) (by omega) hc
  have z := mul_small e0 (by omega : e < 268435456) v0 (by omega)
  refine ⟨v0, Int.emod_nonneg _ (by omega), Int.emod_lt_of_pos _ (by omega), ?_, ?_⟩
  · rw [Int.neg_mul]; omega
  · rw [Int.neg_mul]; omega
theorem smallMont_ok {r l t : List Int} {e m : Int} (h : MontOK r l t e m) : ∀ n, Big + 19 ≤ n → ∃ s x, Can s x ∧ sv s x = montX l r e m ∧ x.length ≤ 1000 ∧ ∃ q u, c_spec_l4Product (run tb orc n) l = some q ∧ c_spec_l2Word (run tb orc n) q m = some (prodAll l % m) ∧ c_spec_l1Inv (run tb orc n) (prodAll l % m) m = some (invC (prodAll l % m) m) ∧ c_spec_l6Sum (run tb orc n) r l = some u ∧
    ∃ s1 x1 s2 x2, c_spec_l2Int (run tb orc n) (mcF l e m) = some (s1, x1) ∧ c_spec_l2Times (run tb orc n) s1 x1 false q = some (s2, x2) ∧ c_spec_l2Plus (run tb orc n) false u s2 x2 = some (s, x) := by
  intro n hn
  have hm4 := h.m4; have hmh := h.mh
  obtain ⟨_, c0, c1, _, _⟩ := mont_val (a := 0) hm4 hmh h.e0 h.e1 h.cop
  obtain ⟨q, q1, q2, q3, q4⟩ := prodAll_s (n := n) (by omega) h.rs.bs
  obtain ⟨u, u1, u2, u3, u4⟩ := l6Sum_ret (n := n) (by omega) h.rs
  have cb : -65536 ≤ mcF l e m ∧ mcF l e m ≤ 65536 := by unfold mcF; split <;> omega
  obtain ⟨s1, x1, a1, a2, a3, a4⟩ := l2Int_ret (n := n) (by omega) (x := mcF l e m) (by omega) (by omega)
  obtain ⟨x2, b1, b2, b3, b4⟩ := l2Times_ret (n := n) (by omega) (s1 := s1) (s2 := false) a1.1.ok q1.ok (by omega) (by omega)
  have cu : Can false u := ⟨u1, fun _ => rfl⟩
  obtain ⟨s, x, d1, d2, d3, d4⟩ := l2Plus_ret (n := n) (by omega) cu (can_sgn (s := s1 != false) b1) (by omega)
  refine ⟨s, x, d1, ?_, by omega, q, u, q4, by rw [l2Word_ret (by omega) (by omega) (by omega) q1.ok (by omega), wordM_is (by omega), q2], ((invC_is (by omega) (by omega) h.cop).2.2.2 n (by omega)).2, u4, s1, x1, _, x2, a4, b4, d4⟩
  rw [d2, sv_sgn, sv_false, u2]
  unfold montX
  congr 1
  rw [show (s1 != false) = s1 by cases s1 <;> rfl]
  have e1 : sv s1 x2 = sv s1 x1 * val q := by
    unfold sv
    cases s1 with
    | true => rw [if_pos rfl, if_pos rfl, b2, Int.neg_mul]
    | false => rw [if_neg (by simp), if_neg (by simp), b2]
  rw [e1, a2, q2]
def condM (r l t : List Int) (e m : Int) (A B : Bool) : Bool := A && (B && (powB m 4 65536 && (decide (0 ≤ e ∧ e ≤ m - 1) && (!l.contains 2 && !t.contains 2))))
theorem smallMont_both (r : List Int) (e : Int) (l : List Int) (m : Int) (t : List Int) (hr : r.length < 1099511627776) (he0 : -9223372036854775808 ≤ e) (he1 : e ≤ 9223372036854775807) (hl : l.length < 1099511627776) (hm0 : -9223372036854775808 ≤ m) (hm1 : m ≤ 9223372036854775807) (ht : t.length < 1099511627776) :
    ∃ o : List Int × Bool, o.1.length ≤ 1000 ∧ ∀ n, Big + 20 ≤ n → c_impl_SmallMont (run tb orc n) r e l m t = some o ∧ c_spec_SmallMont (run tb orc n) r e l m t = some o := by
  by_cases hc : condM r l t e m (residB r l) (basisB t) = true
  · unfold condM at hc
    simp only [Bool.and_eq_true, Bool.not_eq_true', decide_eq_true_eq] at hc
    obtain ⟨hA, hB, hP, hI, hL, hT⟩ := hc
    have hp := hP
    unfold powB at hp
    rw [Bool.and_eq_true, decide_eq_true_eq] at hp
    have ol : ∀ p ∈ l, p ≠ 2 := fun p hp e => by
      rw [e] at hp
      rw [List.contains_iff_mem.2 hp] at hL; cases hL
    have ot : ∀ p ∈ t, p ≠ 2 := fun p hp e => by
      rw [e] at hp
      rw [List.contains_iff_mem.2 hp] at hT; cases hT
    have h : MontOK r l t e m := ⟨resid_of hA, basis_of hB, hp.1.1, hp.1.2, powB_pow (by omega) (by omega) hP, hI.1, hI.2, ol, ot⟩
    have hm4 := h.m4; have hmh := h.mh
    obtain ⟨v0, c0, c1, z0, z1⟩ := mont_val (a := 0) hm4 hmh h.e0 h.e1 h.cop
    refine ⟨(idxL (montAt l r t e m) 0 t.length, true), by show (idxL _ 0 t.length).length ≤ 1000; rw [idxL_length]; have := h.bt.len; omega, fun n hn => ?_⟩
    obtain ⟨n, rfl, hq⟩ := up hn
    have ed : wr .i64 (m.tdiv 2) = m / 2 := by rw [tdiv_nn (by omega), w64 (by omega) (by omega)]
    have em : wr .i64 (m - 1) = m - 1 := w64 (by omega) (by omega)
    have ee : wr .i64 (0 - e) = -e := by rw [w64 (by omega) (by omega)]; omega
    have ez : wr .i64 (-e * invC (prodAll l % m) m) = -e * invC (prodAll l % m) m := w64 (by omega) (by omega)
    have ek : wr .i64 (mc0 l e m - m) = mc0 l e m - m := w64 (by omega) (by omega)
    have eI : decide (0 ≤ e ∧ e ≤ m - 1) = true := decide_eq_true hI
    constructor
    · rw [impl_SmallMont_eq]; unfold impl_SmallMont_f impl_SmallMont_x
      obtain ⟨p, p1, p2, p3, p4⟩ := prodAll_i (n := n) (by omega) h.rs.bs
      obtain ⟨k, rfl, hk⟩ := up (k := 18) hq
      have iv : c_impl_inverseOf (run tb orc (k + 1)) false p m = some (invC (prodAll l % m) m) := by
        rw [impl_inverseOf_eq]; unfold impl_inverseOf_f impl_inverseOf_x
        rw [modW_ret (by omega) (by omega) (by omega) p1.ok (by omega), resP_sv (by omega), sv_false, p2]
        simp only [Option.bind_some]
        rw [((invC_is (by omega) (by omega) h.cop).2.2.2 k (by omega)).1]; rfl
      have hab : c_impl_areBases (run tb orc (k + 1)) r l t = some true := by
        rw [impl_areBases_eq]; unfold impl_areBases_f impl_areBases_x
        rw [areResidues_ret (by omega) hr hl, hA]
        simp only [Option.bind_some]
        rw [if_pos trivial, basis_i (by omega) ht, hB]; rfl
      rw [hab]
      simp only [Option.bind_some, Bool.not_true, Bool.false_eq_true, if_false]
      rw [contains_int (by omega) hl, hL]
      simp only [Option.bind_some, Bool.not_true, Bool.false_eq_true, if_false]
      rw [contains_int (by omega) ht, hT]
      simp only [Option.bind_some, Bool.not_true, Bool.false_eq_true, if_false]
      rw [isPower_ret (by omega) (by omega) (by omega), hP]
      simp only [Option.bind_some, Bool.not_true, Bool.false_eq_true, if_false]
      rw [em, in_ret (by omega), eI]
      simp only [Option.bind_some, Bool.not_true, Bool.false_eq_true, if_false]
      rw [tops_ret (by omega) h.rs]
      simp only [Option.bind_some]
      rw [p4]
      simp only [Option.bind_some]
      rw [iv]
      simp only [Option.bind_some]
      rw [ee, ez, mod_ret (by omega) (by omega) (by omega), show -e * invC (prodAll l % m) m % m = mc0 l e m from rfl]
      simp only [Option.bind_some]
      rw [if_neg (by omega), ed, ek]
      by_cases cc : mc0 l e m ≥ m / 2
      · rw [if_pos cc, convMont_ret (by omega) h p1 p2 p3 (by unfold mcF; rw [if_pos cc])]; rfl
      · rw [if_neg cc, convMont_ret (by omega) h p1 p2 p3 (by unfold mcF; rw [if_neg cc])]; rfl
    · rw [spec_SmallMont_eq]; unfold spec_SmallMont_f spec_SmallMont_x
      obtain ⟨s, x, a1, a2, a3, q, u, a4, a5, a6, a7, s1, x1, s2, x2, a8, a9, a10⟩ := smallMont_ok h n (by omega)
      rw [l4Good_ret (by omega) hr hl, hA]
      simp only [Option.bind_some, Bool.not_true, Bool.false_eq_true, if_false]
      rw [basis_s (by omega) ht, hB]
      simp only [Option.bind_some, Bool.not_true, Bool.false_eq_true, if_false]
      rw [l1Power_ret (by omega) (by omega) (by omega), hP]
      simp only [Option.bind_some, Bool.not_true, Bool.false_eq_true, if_false]
      rw [em, l1In_ret (by omega), eI]
      simp only [Option.bind_some, Bool.not_true, Bool.false_eq_true, if_false]
      rw [l6Has_ret (by omega) hl, hL]
      simp only [Option.bind_some, Bool.not_true, Bool.false_eq_true, if_false]
      rw [l6Has_ret (by omega) ht, hT]
      simp only [Option.bind_some, Bool.not_true, Bool.false_eq_true, if_false]
      rw [a4]
      simp only [Option.bind_some]
      rw [a5]
      simp only [Option.bind_some]
      rw [a6]
      simp only [Option.bind_some]
      rw [ee, ez, l1Mod_ret (by omega) (by omega) (by omega), show -e * invC (prodAll l % m) m % m = mc0 l e m from rfl]
      simp only [Option.bind_some]
      rw [if_neg (by omega), ed, ek, a7]
      simp only [Option.bind_some]
      by_cases cc : mc0 l e m ≥ m / 2
      · have f : mcF l e m = mc0 l e m - m := by unfold mcF; rw [if_pos cc]
        rw [if_pos cc, ← f, a8]
        simp only [Option.bind_some]
        rw [a9]
        simp only [Option.bind_some]
        rw [a10]
        simp only [Option.bind_some]
        exact mont_s1 (by omega) h a1 a2 a3 (by omega)
      · have f : mcF l e m = mc0 l e m := by unfold mcF; rw [if_neg cc]
        rw [if_neg cc, ← f, a8]
        simp only [Option.bind_some]
        rw [a9]
        simp only [Option.bind_some]
        rw [a10]
        simp only [Option.bind_some]
        exact mont_s2 (by omega) h a1 a2 a3 (by omega)
  · have hc' : condM r l t e m (residB r l) (basisB t) = false := by simpa using hc
    refine ⟨([], false), by simp, fun n hn => ?_⟩
    obtain ⟨n, rfl, hq⟩ := up hn
    obtain ⟨k, rfl, hk⟩ := up (k := 18) hq
    have eA : c_impl_areBases (run tb orc (k + 1)) r l t = some (residB r l && basisB t) := by
      rw [impl_areBases_eq]; unfold impl_areBases_f impl_areBases_x
      rw [areResidues_ret (by omega) hr hl]
      simp only [Option.bind_some]
      cases residB r l with
      | false => rfl
      | true => rw [if_pos rfl, basis_i (by omega) ht]; rfl
    have eA' : c_spec_l4Good (run tb orc (k + 1)) r l = some (residB r l) := l4Good_ret (by omega) hr hl
    have eB' : c_spec_GoodBasis (run tb orc (k + 1)) t = some (basisB t) := basis_s (by omega) ht
    have eL : c_slices_Contains_int_int (run tb orc (k + 1)) l 2 = some (l.contains 2) := contains_int (by omega) hl
    have eT : c_slices_Contains_int_int (run tb orc (k + 1)) t 2 = some (t.contains 2) := contains_int (by omega) ht
    have eL' : c_spec_l6Has (run tb orc (k + 1)) l 2 = some (l.contains 2) := l6Has_ret (by omega) hl
    have eT' : c_spec_l6Has (run tb orc (k + 1)) t 2 = some (t.contains 2) := l6Has_ret (by omega) ht
    have eP : c_impl_isPower (run tb orc (k + 1)) m 4 65536 = some (powB m 4 65536) := isPower_ret (by omega) (by omega) (by omega)
    have eP' : c_spec_l1Power (run tb orc (k + 1)) m 4 65536 = some (powB m 4 65536) := l1Power_ret (by omega) (by omega) (by omega)
    rw [impl_SmallMont_eq, spec_SmallMont_eq]; unfold impl_SmallMont_f impl_SmallMont_x spec_SmallMont_f spec_SmallMont_x
    rw [eA, eA']
    unfold condM at hc'
    simp only [eB', eL, eT, eL', eT', eP, eP', Option.bind_some]
    cases hP : powB m 4 65536 with
    | false => cases residB r l <;> cases basisB t <;> cases l.contains 2 <;> cases t.contains 2 <;> exact ⟨rfl, rfl⟩
    | true =>
      have hp := hP
      unfold powB at hp
      rw [Bool.and_eq_true, decide_eq_true_eq] at hp
      have em : wr .i64 (m - 1) = m - 1 := w64 (by omega) (by omega)
      have eI : c_impl_in (run tb orc (k + 1)) e 0 (m - 1) = some (decide (0 ≤ e ∧ e ≤ m - 1)) := in_ret (by omega)
      have eI' : c_spec_l1In (run tb orc (k + 1)) e 0 (m - 1) = some (decide (0 ≤ e ∧ e ≤ m - 1)) := l1In_ret (by omega)
      simp only [em, eI, eI', Option.bind_some]
      rw [hP] at hc'
      revert hc'
      cases residB r l <;> cases basisB t <;> cases l.contains 2 <;> cases t.contains 2 <;> cases decide (0 ≤ e ∧ e ≤ m - 1) <;> intro hc' <;> first | exact ⟨rfl, rfl⟩ | cases hc'
end Go.Proofs.YthanbjnpfenniaaDoor.Fw

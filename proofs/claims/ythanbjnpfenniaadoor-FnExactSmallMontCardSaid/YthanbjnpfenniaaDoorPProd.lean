/- The product of a basis but for one, its inverse: both sides. -/
import Derived.Test.YthanbjnpfenniaaDoorPInv
import Derived.Test.YthanbjnpfenniaaDoorPWOf
import Derived.Test.YthanbjnpfenniaaDoorPRes
import Derived.Test.YthanbjnpfenniaaDoorEqInv
namespace Go.Proofs.YthanbjnpfenniaaDoor.Fw
open Go Go.RowKit Go.Proofs.YthanbjnpfenniaaDoor.Limbs
set_option linter.unusedVariables false

def exStep (l : List Int) (i j : Nat) (P : Int) : Int := if j = i then P else P * l.getD j 0
/-- The product of all but the one at i (i at or past the end: of all). -/
def prodEx (l : List Int) (i : Nat) : Int := foldN (exStep l i) 0 l.length 1
theorem sgn_ff {r : List Int} : sgn (false != false) r = false := rfl
theorem product_ret {n : Nat} (hn : Big + 4 ≤ n) {l : List Int} (hB : ∀ j, j < l.length → 0 ≤ l.getD j 0 ∧ l.getD j 0 ≤ 268435456) (h6 : l.length ≤ 6) {i : Int} {i' : Nat} (hi : ∀ j : Nat, j < l.length → ((j : Int) = i ↔ j = i')) :
    ∃ r, Norm r ∧ val r = prodEx l i' ∧ r.length ≤ 21 ∧ c_impl_product (run tb orc n) l i = some (false, r) := by
  obtain ⟨n, rfl, hq⟩ := up (k := 3) hn
  have hbig := big_ge
  have key : ∀ (d j : Nat) (r : List Int), j + d = l.length → Norm r → r.length ≤ 3 + 3 * j → ∀ K, d < K → ∃ r', Norm r' ∧ val r' = foldN (exStep l i') j d (val r) ∧ r'.length ≤ 21 ∧ iterO (impl_product_g1 (run tb orc n) n l i) K ((j : Int), false, r) = some (false, r') := by
    intro d
    induction d with
    | zero =>
      intro j r hj hr hl K hK
      obtain ⟨K, rfl⟩ : ∃ j, K = j + 1 := ⟨K - 1, by omega⟩
      refine ⟨r, hr, rfl, by omega, ?_⟩
      show impl_product_x1 _ _ _ _ _ = _
      unfold impl_product_x1
      dsimp only
      rw [if_neg (by omega)]
    | succ d ih =>
      intro j r hj hr hl K hK
      obtain ⟨K, rfl⟩ : ∃ j, K = j + 1 := ⟨K - 1, by omega⟩
      have hjl : j < l.length := by omega
      by_cases c : j = i'
      · obtain ⟨r', r1, r2, r3, r4⟩ := ih (j + 1) r (by omega) hr (by omega) K (by omega)
        refine ⟨r', r1, ?_, r3, ?_⟩
        · rw [r2]
          show _ = foldN (exStep l i') (j + 1) d (exStep l i' j (val r))
          unfold exStep
          rw [if_pos c]
        · refine Eq.trans ?_ r4
          show impl_product_x1 _ _ _ _ _ = _
          unfold impl_product_x1
          dsimp only
          rw [if_pos (by omega), if_pos (by omega), if_pos (by omega), if_pos ((hi j hjl).2 c), w64 (by omega) (by omega), ni1]
      · have hb := hB j hjl
        obtain ⟨m, m1, m2, m3, m4⟩ := timesW_ret (n := n) hq (s := false) hr.ok (by omega) hb.1 (by omega)
        obtain ⟨r', r1, r2, r3, r4⟩ := ih (j + 1) m (by omega) m1 (by omega) K (by omega)
        refine ⟨r', r1, ?_, r3, ?_⟩
        · rw [r2]
          show _ = foldN (exStep l i') (j + 1) d (exStep l i' j (val r))
          rw [m2]
          unfold exStep
          rw [if_neg c]
        · refine Eq.trans ?_ r4
          show impl_product_x1 _ _ _ _ _ = _
          unfold impl_product_x1
          dsimp only
          rw [if_pos (by omega), if_pos (by omega), if_pos (by omega), if_neg (fun e => c ((hi j hjl).1 e)), nat_i, m4]
          simp only [Option.bind_some]
          rw [sgn_ff, w64 (by omega) (by omega), ni1]
  obtain ⟨w1, w2⟩ := wh3 (x := 1) (by omega) (by omega)
  obtain ⟨r', r1, r2, r3, r4⟩ := key l.length 0 (wh 3 1) (by omega) w1 (wh_len 3 1) n (by omega)
  refine ⟨r', r1, by rw [r2, w2]; rfl, r3, ?_⟩
  rw [impl_product_eq]; unfold impl_product_f impl_product_x
  rw [wholeOf_ret (by omega) (by omega) (by omega)]
  simp only [Option.bind_some]
  exact r4
theorem pr_dvd_mul {p x y : Int} (hp : primeB p = true) (h : p ∣ x * y) : p ∣ x ∨ p ∣ y := by
  have hr := (primeB_iff.1 hp).1
  have hpr := primeB_pr hp
  have e : p.natAbs = p.toNat := by omega
  have h1 := Int.natAbs_dvd_natAbs.2 h
  rw [Int.natAbs_mul, e] at h1
  rcases hpr.dvd_mul h1 with h2 | h2
  · left; rw [← e] at h2; exact Int.natAbs_dvd_natAbs.1 h2
  · right; rw [← e] at h2; exact Int.natAbs_dvd_natAbs.1 h2
theorem ex_not_dvd {p : Int} (hp : primeB p = true) {l : List Int} {i : Nat} : ∀ (d j : Nat) (P : Int), (∀ k, j ≤ k → k < j + d → k ≠ i → ¬ p ∣ l.getD k 0) → ¬ p ∣ P → ¬ p ∣ foldN (exStep l i) j d P
  | 0, j, P, _, h => h
  | d + 1, j, P, hl, h => by
    show ¬ p ∣ foldN (exStep l i) (j + 1) d (exStep l i j P)
    refine ex_not_dvd hp d (j + 1) _ (fun k h1 h2 h3 => hl k (by omega) (by omega) h3) ?_
    unfold exStep
    by_cases c : j = i
    · rw [if_pos c]; exact h
    · rw [if_neg c]
      intro h1
      rcases pr_dvd_mul hp h1 with h2 | h2
      · exact h h2
      · exact hl j (Nat.le_refl _) (by omega) c h2
theorem pr_dvd_eq {p q : Int} (hp : primeB p = true) (hq : primeB q = true) (h : p ∣ q) : p = q := by
  have h1 := (primeB_iff.1 hp).1
  have h2 := (primeB_iff.1 hq).1
  have := Int.natAbs_dvd_natAbs.2 h
  rw [show p.natAbs = p.toNat by omega, show q.natAbs = q.toNat by omega] at this
  rcases (primeB_pr hq).2 _ this with h3 | h3 <;> omega
theorem nodup_at {l : List Int} (h : l.Nodup) {i j : Nat} (hi : i < l.length) (hj : j < l.length) (e : l.getD i 0 = l.getD j 0) : i = j := by
  rw [getD_get hi, getD_get hj] at e
  have h' := List.pairwise_iff_getElem.1 h
  rcases Nat.lt_trichotomy i j with c | c | c
  · exact absurd e (h' i j hi hj c)
  · exact c
  · exact absurd e.symm (h' j i hj hi c)
theorem Basis.prime {l : List Int} (h : Basis l) {i : Nat} (hi : i < l.length) : primeB (l.getD i 0) = true := h.pr _ (by rw [getD_get hi]; exact List.getElem_mem hi)
theorem prodEx_not_dvd {l : List Int} (h : Basis l) {i : Nat} (hi : i < l.length) : ¬ l.getD i 0 ∣ prodEx l i := by
  have hp := h.prime hi
  have hr := (primeB_iff.1 hp).1
  refine ex_not_dvd hp l.length 0 1 (fun k _ hk hne hd => hne (nodup_at h.nd (by omega) hi (pr_dvd_eq hp (h.prime (by omega)) hd).symm)) (fun hd => ?_)
  have := Int.le_of_dvd (by omega) hd
  omega
theorem ex_mod {p : Int} {l : List Int} {i : Nat} : ∀ (d j : Nat) (P : Int), foldN (fun j A => if j = i then A else A * (l.getD j 0 % p) % p) j d (P % p) = foldN (exStep l i) j d P % p
  | 0, _, _ => rfl
  | d + 1, j, P => by
    show foldN _ (j + 1) d (if j = i then P % p else P % p * (l.getD j 0 % p) % p) = foldN (exStep l i) (j + 1) d (exStep l i j P) % p
    rw [← ex_mod d (j + 1)]
    unfold exStep
    by_cases c : j = i
    · rw [if_pos c, if_pos c]
    · rw [if_neg c, if_neg c, ← Int.mul_emod]
/-- The inverse of the product of the others. -/
theorem l4Inverse_ret {n : Nat} {l : List Int} (hB : Basis l) {i : Nat} (hi : i < l.length) {t : Int} (ht : ∀ n, Big + 2 ≤ n → c_spec_l1Inv (run tb orc n) (prodEx l i % l.getD i 0) (l.getD i 0) = some t) (hn : Big + 3 ≤ n) : c_spec_l4Inverse (run tb orc n) l i = some t := by
  obtain ⟨n, rfl, hq⟩ := up (k := 2) hn
  have hbig := big_ge
  have h6 := hB.len
  have hr := (primeB_iff.1 (hB.prime hi)).1
  rw [spec_l4Inverse_eq]; unfold spec_l4Inverse_f spec_l4Inverse_x
  rw [if_pos (by omega), if_pos (by omega), nat_i, if_neg (by omega), tmod_nn (by omega)]
  generalize hp : l.getD i 0 = p at *
  refine ((fold_idx (fun j A => ((A, j) : Int × Int)) (fun j A => if j = i then A else A * (l.getD j 0 % p) % p) (fun _ A => 0 ≤ A ∧ A < p) (fun A => c_spec_l1Inv (run tb orc n) A p) (len := l.length) (G := spec_l4Inverse_g1 (run tb orc n) n l i) (fun self j A hj hA => ⟨?_, ?_⟩) (fun self A hA => ?_) l.length 0 _ (by omega) ⟨Int.emod_nonneg _ (by omega), Int.emod_lt_of_pos _ (by omega)⟩ n (by omega)).1).trans ?_
  · split
    · exact hA
    · exact ⟨Int.emod_nonneg _ (by omega), Int.emod_lt_of_pos _ (by omega)⟩
  · show spec_l4Inverse_x1 _ _ _ _ _ = _
    unfold spec_l4Inverse_x1
    dsimp only
    have hj' := (primeB_iff.1 (hB.prime hj)).1
    have m0 : 0 ≤ l.getD j 0 % p := Int.emod_nonneg _ (by omega)
    have m1 : l.getD j 0 % p < p := Int.emod_lt_of_pos _ (by omega)
    have q := mul_small hA.1 (by omega : A < 268435456) m0 (by omega : l.getD j 0 % p < 268435456)
    rw [if_pos (by omega), if_pos (by omega), if_pos (by omega)]
    by_cases c : j = i
    · rw [if_pos (by omega), if_pos c, w64 (by omega) (by omega), ni1]
    · rw [if_neg (by omega), if_pos (by omega), if_pos (by omega), nat_i, nat_i, hp, if_neg (by omega), if_pos (by omega), if_pos (by omega), if_neg (by omega), tmod_nn (a := l.getD j 0) (by omega), w64 (n := A * (l.getD j 0 % p)) (by omega) (by omega), tmod_nn q.1, if_neg c, w64 (by omega) (by omega), ni1]
  · show spec_l4Inverse_x1 _ _ _ _ _ = _
    unfold spec_l4Inverse_x1
    dsimp only
    rw [if_neg (by omega), if_pos (by omega), if_pos (by omega), nat_i, hp]
    cases c_spec_l1Inv (run tb orc n) A p <;> rfl
  · rw [ex_mod]
    exact ht n hq
theorem inv_at {l : List Int} (hB : Basis l) {i : Nat} (hi : i < l.length) : ∃ t, 0 ≤ t ∧ t < l.getD i 0 ∧ prodEx l i * t % l.getD i 0 = 1 ∧
    (∀ n, Big + 2 ≤ n → c_impl_inverse (run tb orc n) (prodEx l i % l.getD i 0) (l.getD i 0) = some (t, true)) ∧ (∀ n, Big + 3 ≤ n → c_spec_l4Inverse (run tb orc n) l i = some t) := by
  have hp := hB.prime hi
  have hr := (primeB_iff.1 hp).1
  obtain ⟨t, t0, t1, t2, t3⟩ := inverse_both (a := prodEx l i % l.getD i 0) hr.1 hr.2 (by
    have := coprime_pr hp (prodEx_not_dvd hB hi)
    rwa [Int.emod_emod_of_dvd _ (Int.dvd_refl (l.getD i 0))])
  refine ⟨t, t0, t1, ?_, fun n hn => (t3 n hn).1, fun n hn => l4Inverse_ret hB hi (fun n hn => (t3 n hn).2) hn⟩
  rw [← t2, Int.mul_emod (prodEx l i % _), Int.emod_emod_of_dvd _ (Int.dvd_refl (l.getD i 0)), ← Int.mul_emod]
open Classical in
noncomputable def invAt (l : List Int) (i : Nat) : Int := if h : Basis l ∧ i < l.length then Classical.choose (inv_at h.1 h.2) else 0
theorem invAt_is {l : List Int} (hB : Basis l) {i : Nat} (hi : i < l.length) : 0 ≤ invAt l i ∧ invAt l i < l.getD i 0 ∧ prodEx l i * invAt l i % l.getD i 0 = 1 ∧
    (∀ n, Big + 2 ≤ n → c_impl_inverse (run tb orc n) (prodEx l i % l.getD i 0) (l.getD i 0) = some (invAt l i, true)) ∧ (∀ n, Big + 3 ≤ n → c_spec_l4Inverse (run tb orc n) l i = some (invAt l i)) := by
  unfold invAt
  rw [dif_pos ⟨hB, hi⟩]
  exact Classical.choose_spec (inv_at hB hi)
noncomputable def invsP (l : List Int) : List Int := idxL (invAt l) 0 l.length
theorem inverses_ret {n : Nat} (hn : Big + 5 ≤ n) {l : List Int} (hB : Basis l) : c_impl_inverses (run tb orc n) l = some (invsP l) := by
  obtain ⟨n, rfl, hq⟩ := up (k := 4) hn
  have hbig := big_ge
  have h6 := hB.len
  rw [impl_inverses_eq]; unfold impl_inverses_f impl_inverses_x
  refine (map_idx (fun i out => (i, out)) (invAt l) (fun out => some out) (len := l.length) (G := impl_inverses_g1 (run tb orc n) n l) (fun self i out hi ho => ?_) (fun self out ho => ?_) l.length 0 [] (by omega) rfl n (by omega)).trans rfl
  · show impl_inverses_x1 _ _ _ _ = _
    unfold impl_inverses_x1
    dsimp only
    have hr := (primeB_iff.1 (hB.prime hi)).1
    obtain ⟨r, r1, r2, r3, r4⟩ := product_ret (n := n) hq (l := l) (fun j hj => by have := (primeB_iff.1 (hB.prime hj)).1; omega) h6 (i := (i : Int)) (i' := i) (fun j hj => by omega)
    rw [if_pos (by omega), if_pos (by omega), if_pos (by omega), nat_i, r4]
    simp only [Option.bind_some]
    rw [modW_ret (by omega) (by omega) hr.2 r1.ok (by omega)]
    simp only [Option.bind_some]
    have e : resP (l.getD i 0) false r = prodEx l i % l.getD i 0 := by
      unfold resP
      rw [if_neg (by simp), wordM_is (by omega), r2]
    rw [e, (invAt_is hB hi).2.2.2.1 n (by omega)]
    simp only [Option.bind_some]
    rw [if_pos (by rw [List.length_singleton]; exact lim_lt (by omega)), w64 (by omega) (by omega), ni1]
  · show impl_inverses_x1 _ _ _ _ = _
    unfold impl_inverses_x1
    dsimp only
    rw [if_neg (by omega)]
end Go.Proofs.YthanbjnpfenniaaDoor.Fw

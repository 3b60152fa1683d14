/- Sums of residues times products: both sides. -/
import Derived.Test.YthanbjnpfenniaaDoorPPun
import Derived.Test.YthanbjnpfenniaaDoorPAddS
import Derived.Test.YthanbjnpfenniaaDoorPResB
namespace Go.Proofs.YthanbjnpfenniaaDoor.Fw
open Go Go.RowKit Go.Proofs.YthanbjnpfenniaaDoor.Limbs
set_option linter.unusedVariables false

noncomputable def topP (l r : List Int) (i : Nat) : Int := r.getD i 0 * invAt l i % l.getD i 0
noncomputable def topL (l r : List Int) : List Int := idxL (topP l r) 0 l.length
noncomputable def sumStep (l r : List Int) (i : Nat) (S : Int) : Int := S + prodEx l i * topP l r i
noncomputable def sumV (l r : List Int) : Int := foldN (sumStep l r) 0 l.length 0
theorem top_rng {l r : List Int} (h : Basis l) {i : Nat} (hi : i < l.length) : 0 ≤ topP l r i ∧ topP l r i < l.getD i 0 := by
  have := brng h hi
  exact ⟨Int.emod_nonneg _ (by omega), Int.emod_lt_of_pos _ (by omega)⟩
theorem res_len6 {l r : List Int} (h : ResOK r l) : r.length ≤ 6 := by have := h.bs.len; have := h.len; omega
theorem l6Sum_ret {n : Nat} (hn : Big + 4 ≤ n) {r l : List Int} (h : ResOK r l) : ∃ s, Norm s ∧ val s = sumV l r ∧ s.length ≤ 60 ∧ c_spec_l6Sum (run tb orc n) r l = some s := by
  obtain ⟨n, rfl, hq⟩ := up (k := 3) hn
  have hbig := big_ge
  have l6 := h.bs.len
  have hl := h.len
  have key : ∀ (d j : Nat) (s : List Int), j + d = l.length → Norm s → s.length ≤ 30 + j → ∀ K, d < K → ∃ s', Norm s' ∧ val s' = foldN (sumStep l r) j d (val s) ∧ s'.length ≤ 60 ∧ iterO (spec_l6Sum_g1 (run tb orc n) n r l) K (s, (j : Int)) = some s' := by
    intro d
    induction d with
    | zero =>
      intro j s hj hs hl K hK
      obtain ⟨K, rfl⟩ : ∃ j, K = j + 1 := ⟨K - 1, by omega⟩
      refine ⟨s, hs, rfl, by omega, ?_⟩
      show spec_l6Sum_x1 _ _ _ _ _ = _
      unfold spec_l6Sum_x1
      dsimp only
      rw [if_neg (by omega)]
    | succ d ih =>
      intro j s hj hs hsl K hK
      obtain ⟨K, rfl⟩ : ∃ j, K = j + 1 := ⟨K - 1, by omega⟩
      have hjl : j < l.length := by omega
      have hb := brng h.bs hjl
      have hr := h.rng j hjl
      obtain ⟨i0, i1, _, _, i4⟩ := invAt_is h.bs hjl
      have q := mul_small hr.1 (by omega) i0 (by omega)
      have t := top_rng (r := r) h.bs hjl
      obtain ⟨pr, p1, p2, p3, p4⟩ := punct_ret (n := n) hq (l := l) (fun j hj => by have := brng h.bs hj; omega) l6 (i := (j : Int)) (i' := j) (fun k hk => by omega)
      obtain ⟨w1, w2⟩ := wh3 t.1 (by omega : topP l r j ≤ 9223372036854775807)
      have wl := wh_len 3 (topP l r j)
      obtain ⟨m, m1, m2, m3, m4⟩ := l2Mul_ret (n := n) (by omega) p1.ok w1.ok (by omega) (by omega)
      obtain ⟨u, u1, u2, u3, u4⟩ := l2Add_ret (n := n) (by omega) hs.ok m1.ok (by omega)
      rw [m2, p2, w2] at u2
      obtain ⟨s', s1, s2, s3, s4⟩ := ih (j + 1) u (by omega) u1 (by omega) K (by omega)
      refine ⟨s', s1, ?_, s3, ?_⟩
      · rw [s2]
        show _ = foldN (sumStep l r) (j + 1) d (sumStep l r j (val s))
        unfold sumStep
        rw [u2]
      · refine Eq.trans ?_ s4
        show spec_l6Sum_x1 _ _ _ _ _ = _
        unfold spec_l6Sum_x1
        dsimp only
        rw [if_pos (by omega), if_pos (by omega), if_pos (by omega), p4]
        simp only [Option.bind_some]
        rw [if_pos (by omega), if_pos (by omega), nat_i, i4 n (by omega)]
        simp only [Option.bind_some]
        rw [if_neg (by omega), w64 (n := r.getD j 0 * invAt l j) (by omega) (by omega), tmod_nn q.1, show r.getD j 0 * invAt l j % l.getD j 0 = topP l r j from rfl, l2Of_ret (by omega) t.1 (by omega)]
        simp only [Option.bind_some]
        rw [m4]
        simp only [Option.bind_some]
        rw [u4]
        simp only [Option.bind_some]
        rw [w64 (by omega) (by omega), ni1]
  obtain ⟨s', s1, s2, s3, s4⟩ := key l.length 0 [] (by omega) Norm.nil (by simp) n (by omega)
  refine ⟨s', s1, s2, s3, ?_⟩
  rw [spec_l6Sum_eq]; unfold spec_l6Sum_f spec_l6Sum_x
  exact s4
theorem tops_ret {n : Nat} (hn : Big + 6 ≤ n) {r l : List Int} (h : ResOK r l) : c_impl_tops (run tb orc n) r l = some (topL l r) := by
  obtain ⟨n, rfl, hq⟩ := up (k := 5) hn
  have hbig := big_ge
  have l6 := h.bs.len
  have hl := h.len
  rw [impl_tops_eq]; unfold impl_tops_f impl_tops_x
  rw [inverses_ret hq h.bs]
  simp only [Option.bind_some]
  have il : (invsP l).length = l.length := by unfold invsP; rw [idxL_length]
  refine (map_idx (fun i out => (i, out)) (topP l r) (fun out => some out) (len := l.length) (G := impl_tops_g1 (run tb orc n) n r l (invsP l)) (fun self i out hi ho => ?_) (fun self out ho => ?_) l.length 0 [] (by omega) rfl n (by omega)).trans rfl
  · show impl_tops_x1 _ _ _ _ _ _ = _
    unfold impl_tops_x1
    dsimp only
    have hb := brng h.bs hi
    have hr := h.rng i hi
    obtain ⟨i0, i1, _, _, _⟩ := invAt_is h.bs hi
    have q := mul_small hr.1 (by omega) i0 (by omega)
    have ig : (invsP l).getD i 0 = invAt l i := by unfold invsP; rw [getD_get (by rw [idxL_length]; exact hi), idxL_get, Nat.zero_add]
    rw [if_pos (by omega), if_pos (by omega), if_pos (by omega), if_pos (by omega), if_pos (by omega), if_pos (by omega), if_pos (by omega), nat_i, if_neg (by omega), if_pos (by rw [List.length_singleton]; exact lim_lt (by omega)), ig, w64 (n := r.getD i 0 * invAt l i) (by omega) (by omega), w64 (by omega) (by omega), tmod_nn q.1, ni1]; rfl
  · show impl_tops_x1 _ _ _ _ _ _ = _
    unfold impl_tops_x1
    dsimp only
    rw [if_neg (by omega)]
theorem topL_get {l r : List Int} {i : Nat} (hi : i < l.length) : (topL l r).getD i 0 = topP l r i := by
  unfold topL
  rw [getD_get (by rw [idxL_length]; exact hi), idxL_get, Nat.zero_add]
theorem sum_mod {m : Int} {l r : List Int} : ∀ (d j : Nat) (S : Int), foldN (fun i s => (s + topP l r i % m * (prodEx l i % m)) % m) j d (S % m) = foldN (sumStep l r) j d S % m
  | 0, _, _ => rfl
  | d + 1, j, S => by
    show foldN _ (j + 1) d ((S % m + topP l r j % m * (prodEx l j % m)) % m) = foldN (sumStep l r) (j + 1) d (sumStep l r j S) % m
    rw [← sum_mod d (j + 1)]
    congr 1
    unfold sumStep
    rw [Int.add_emod, Int.emod_emod_of_dvd _ (Int.dvd_refl m), ← Int.mul_emod, Int.mul_comm (topP l r j), ← Int.add_emod]
theorem fast_ret {n : Nat} (hn : Big + 5 ≤ n) {r l : List Int} (h : ResOK r l) {m : Int} (hm : 0 < m) (hm' : m ≤ 268435456) : c_impl_fast (run tb orc n) (topL l r) l m = some (sumV l r % m) := by
  obtain ⟨n, rfl, hq⟩ := up (k := 4) hn
  have hbig := big_ge
  have l6 := h.bs.len
  have tl : (topL l r).length = l.length := by unfold topL; rw [idxL_length]
  rw [impl_fast_eq]; unfold impl_fast_f impl_fast_x
  refine ((fold_idx (fun i s => ((s, i) : Int × Int)) (fun i s => (s + topP l r i % m * (prodEx l i % m)) % m) (fun _ s => 0 ≤ s ∧ s < m) (fun s => some s) (len := l.length) (G := impl_fast_g1 (run tb orc n) n (topL l r) l m) (fun self i s hi hs => ⟨⟨Int.emod_nonneg _ (by omega), Int.emod_lt_of_pos _ hm⟩, ?_⟩) (fun self s hs => ?_) l.length 0 0 (by omega) ⟨by omega, hm⟩ n (by omega)).1).trans ?_
  · show impl_fast_x1 _ _ _ _ _ _ = _
    unfold impl_fast_x1
    dsimp only
    have t := top_rng (r := r) h.bs hi
    obtain ⟨pr, p1, p2, p3, p4⟩ := product_ret (n := n) hq (l := l) (fun j hj => by have := brng h.bs hj; omega) l6 (i := (i : Int)) (i' := i) (fun k hk => by omega)
    have e : resP m false pr = prodEx l i % m := by
      unfold resP
      rw [if_neg (by simp), wordM_is hm, p2]
    have a0 : 0 ≤ topP l r i % m := Int.emod_nonneg _ (by omega)
    have a1 : topP l r i % m < m := Int.emod_lt_of_pos _ hm
    have b0 : 0 ≤ prodEx l i % m := Int.emod_nonneg _ (by omega)
    have b1 : prodEx l i % m < m := Int.emod_lt_of_pos _ hm
    have q := mul_small a0 (by omega) b0 (by omega)
    rw [if_pos (by omega), if_pos (by omega), if_pos (by omega), if_neg (by omega), p4]
    simp only [Option.bind_some]
    rw [modW_ret (by omega) hm hm' p1.ok (by omega), e]
    simp only [Option.bind_some]
    rw [if_neg (by omega), nat_i, topL_get hi, tmod_nn t.1, w64 (n := topP l r i % m * (prodEx l i % m)) (by omega) (by omega), w64 (n := s + topP l r i % m * (prodEx l i % m)) (by omega) (by omega), tmod_nn (by omega), w64 (by omega) (by omega), ni1]
  · show impl_fast_x1 _ _ _ _ _ _ = _
    unfold impl_fast_x1
    dsimp only
    rw [if_neg (by omega)]
  · have := sum_mod (m := m) (l := l) (r := r) l.length 0 0
    rw [Int.zero_emod] at this
    rw [this]; rfl
end Go.Proofs.YthanbjnpfenniaaDoor.Fw

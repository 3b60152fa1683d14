/- FloorConvert: both sides. -/
import Derived.Test.YthanbjnpfenniaaDoorPHas
import Derived.Test.YthanbjnpfenniaaDoorPRes
import Derived.Test.YthanbjnpfenniaaDoorEqLFloorConvert
namespace Go.Proofs.YthanbjnpfenniaaDoor.Fw
open Go Go.RowKit Go.Proofs.YthanbjnpfenniaaDoor.Limbs
set_option linter.unusedVariables false

theorem anyIn_ret {n : Nat} (hn : Big + 5 ≤ n) {l t : List Int} (hl : l.length < 1099511627776) (ht : t.length < 1099511627776) : c_slices_ContainsFunc_int_int_impl_FloorConvert_1 (run tb orc n) l t = some (!apartB l t) := by
  obtain ⟨n, rfl, hq⟩ := up2 (k := 3) hn
  have hb := big_ge
  rw [slices_ContainsFunc_int_int_impl_FloorConvert_1_eq]
  unfold slices_ContainsFunc_int_int_impl_FloorConvert_1_f slices_ContainsFunc_int_int_impl_FloorConvert_1_x
  rw [slices_IndexFunc_int_int_impl_FloorConvert_1_eq]; unfold slices_IndexFunc_int_int_impl_FloorConvert_1_f slices_IndexFunc_int_int_impl_FloorConvert_1_x
  obtain ⟨r, h1, h2⟩ := first_idx (f := fun i => !t.contains (l.getD i 0)) (len := l.length) (G := slices_IndexFunc_int_int_impl_FloorConvert_1_g1 (run tb orc n) n l t) (fun self i hi => by
    show slices_IndexFunc_int_int_impl_FloorConvert_1_x1 _ _ _ _ _ = _
    unfold slices_IndexFunc_int_int_impl_FloorConvert_1_x1
    obtain ⟨n, rfl, hq'⟩ := up (k := 2) hq
    rw [if_pos (by omega), if_pos (by omega), if_pos (by omega), nat_i, impl_FloorConvert_1_eq]
    unfold impl_FloorConvert_1_f impl_FloorConvert_1_x
    rw [contains_int hq' ht, w64 (by omega) (by omega), ni1]
    simp only [Option.bind_some, Bool.not_not]) (fun self => by
    show slices_IndexFunc_int_int_impl_FloorConvert_1_x1 _ _ _ _ _ = _
    unfold slices_IndexFunc_int_int_impl_FloorConvert_1_x1
    rw [if_neg (by omega)]) l.length 0 (by omega) n (by omega)
  have h1' : iterO (slices_IndexFunc_int_int_impl_FloorConvert_1_g1 (run tb orc n) n l t) n 0 = some r := h1
  simp only [h1', Option.bind_some]
  rw [h2]; rfl
theorem tmod_small {x b : Int} (h0 : -b < x) (h1 : x < b) : x.tmod b = x := by
  by_cases c : 0 ≤ x
  · exact Int.tmod_eq_of_lt c h1
  · have : x = -(-x) := by omega
    rw [this, Int.neg_tmod, Int.tmod_eq_of_lt (by omega) (by omega)]
noncomputable def floorAt (l r s t : List Int) (i : Nat) : Int := (s.getD i 0 - sumV l r % t.getD i 0) * invC (prodAll l % t.getD i 0) (t.getD i 0) % t.getD i 0
theorem floor_rng {x y b : Int} (hb : b ≤ 268435456) (h0 : -b < x) (h1 : x < b) (y0 : 0 ≤ y) (y1 : y < b) : -72057594037927936 ≤ x * y ∧ x * y ≤ 72057594037927936 := by
  by_cases c : 0 ≤ x
  · have := mul_small c (by omega : x < 268435456) y0 (by omega); omega
  · have := mul_small (by omega : 0 ≤ -x) (by omega : -x < 268435456) y0 (by omega)
    rw [Int.neg_mul] at this; omega
theorem convFloor_ret {n : Nat} (hn : Big + 8 ≤ n) {r l s t q : List Int} (h : ResOK r l) (hT : ResOK s t) (ha : apartB l t = true) (q1 : Norm q) (q2 : val q = prodAll l) (q3 : q.length ≤ 21) :
    c_impl_converted_impl_FloorConvert_2 (run tb orc n) t s (topL l r) l false q = some (idxL (floorAt l r s t) 0 t.length) := by
  obtain ⟨n, rfl, hq⟩ := up (k := 7) hn
  have hbig := big_ge
  have l6 := hT.bs.len
  have sl := hT.len
  rw [impl_converted_impl_FloorConvert_2_eq]; unfold impl_converted_impl_FloorConvert_2_f impl_converted_impl_FloorConvert_2_x
  refine (map_idx (fun i out => (i, out)) (floorAt l r s t) (fun out => some out) (len := t.length) (G := impl_converted_impl_FloorConvert_2_g1 (run tb orc n) n t s (topL l r) l false q) (fun self i out hi ho => ?_) (fun self out ho => ?_) t.length 0 [] (by omega) rfl n (by omega)).trans rfl
  · show impl_converted_impl_FloorConvert_2_x1 _ _ _ _ _ _ _ _ _ = _
    unfold impl_converted_impl_FloorConvert_2_x1
    dsimp only
    have b := brng hT.bs hi
    have sr := hT.rng i hi
    have hcop : Cop (prodAll l % t.getD i 0) (t.getD i 0) := cop_mod (prodAll_cop h.bs (hT.bs.prime hi) (fun hm => apart_iff.1 ha _ hm (by rw [getD_get hi]; exact List.getElem_mem _)))
    obtain ⟨v0, v1, _, v3⟩ := invC_is b.1 b.2 hcop
    have e0 : 0 ≤ sumV l r % t.getD i 0 := Int.emod_nonneg _ (by omega)
    have e1 : sumV l r % t.getD i 0 < t.getD i 0 := Int.emod_lt_of_pos _ (by omega)
    have fr := floor_rng b.2 (x := s.getD i 0 - sumV l r % t.getD i 0) (by omega) (by omega) v0 v1
    obtain ⟨n, rfl, hq'⟩ := up2 (k := 5) hq
    rw [if_pos (by omega), if_pos (by omega), if_pos (by omega), nat_i, show n + 2 = (n + 1) + 1 from rfl, impl_FloorConvert_2_eq]
    unfold impl_FloorConvert_2_f impl_FloorConvert_2_x
    rw [if_pos (by omega), if_pos (by omega), fast_ret (by omega) h (by omega) b.2]
    simp only [Option.bind_some]
    rw [if_neg (by omega), impl_inverseOf_eq]
    unfold impl_inverseOf_f impl_inverseOf_x
    rw [modW_ret (by omega) (by omega) b.2 q1.ok (by omega)]
    simp only [Option.bind_some]
    have er : resP (t.getD i 0) false q = prodAll l % t.getD i 0 := by
      unfold resP
      rw [if_neg (by simp), wordM_is (by omega), q2]
    rw [er, (v3 n (by omega)).1]
    simp only [Option.bind_some]
    rw [nat_i, w64 (n := s.getD i 0 - sumV l r % t.getD i 0) (by omega) (by omega), tmod_small (by omega) (by omega), w64 (by omega) (by omega), mod_ret (by omega) (by omega) (by omega)]
    simp only [Option.bind_some]
    rw [if_pos (by rw [List.length_singleton]; exact lim_lt (by omega)), w64 (by omega) (by omega), ni1]; rfl
  · show impl_converted_impl_FloorConvert_2_x1 _ _ _ _ _ _ _ _ _ = _
    unfold impl_converted_impl_FloorConvert_2_x1
    dsimp only
    rw [if_neg (by omega)]
theorem floor_s {n : Nat} (hn : Big + 3 ≤ n) {N : Nat} {r l s t q u : List Int} (h : ResOK r l) (hT : ResOK s t) (ha : apartB l t = true) (q1 : Norm q) (q2 : val q = prodAll l) (q3 : q.length ≤ 21) (u1 : Norm u) (u2 : val u = sumV l r) (u3 : u.length ≤ 60) {K : Nat} (hK : Big ≤ K) :
    iterO (spec_FloorConvert_g2 (run tb orc n) N s t q u) K (0, []) = some (idxL (floorAt l r s t) 0 t.length, true) := by
  have hbig := big_ge
  have l6 := hT.bs.len
  have sl := hT.len
  refine (map_idx (fun i out => (i, out)) (floorAt l r s t) (fun out => some (out, true)) (len := t.length) (G := spec_FloorConvert_g2 (run tb orc n) N s t q u) (fun self i out hi ho => ?_) (fun self out ho => ?_) t.length 0 [] (by omega) rfl K (by omega)).trans rfl
  · show spec_FloorConvert_x2 _ _ _ _ _ _ _ = _
    unfold spec_FloorConvert_x2
    dsimp only
    have b := brng hT.bs hi
    have sr := hT.rng i hi
    have hcop : Cop (prodAll l % t.getD i 0) (t.getD i 0) := cop_mod (prodAll_cop h.bs (hT.bs.prime hi) (fun hm => apart_iff.1 ha _ hm (by rw [getD_get hi]; exact List.getElem_mem _)))
    obtain ⟨v0, v1, _, v3⟩ := invC_is b.1 b.2 hcop
    have e0 : 0 ≤ sumV l r % t.getD i 0 := Int.emod_nonneg _ (by omega)
    have e1 : sumV l r % t.getD i 0 < t.getD i 0 := Int.emod_lt_of_pos _ (by omega)
    have fr := floor_rng b.2 (x := s.getD i 0 - sumV l r % t.getD i 0) (by omega) (by omega) v0 v1
    rw [if_pos (by omega), if_pos (by omega), if_pos (by omega), if_pos (by omega), if_pos (by omega), nat_i, l2Word_ret (by omega) (by omega) b.2 u1.ok (by omega), wordM_is (by omega), u2]
    simp only [Option.bind_some]
    rw [l2Word_ret (by omega) (by omega) b.2 q1.ok (by omega), wordM_is (by omega), q2]
    simp only [Option.bind_some]
    rw [(v3 n (by omega)).2]
    simp only [Option.bind_some]
    rw [w64 (n := s.getD i 0 - sumV l r % t.getD i 0) (by omega) (by omega), w64 (by omega) (by omega), l1Mod_ret (by omega) (by omega) (by omega)]
    simp only [Option.bind_some]
    rw [if_pos (by rw [List.length_singleton]; exact lim_lt (by omega)), w64 (by omega) (by omega), ni1]; rfl
  · show spec_FloorConvert_x2 _ _ _ _ _ _ _ = _
    unfold spec_FloorConvert_x2
    dsimp only
    rw [if_neg (by omega)]
theorem floorConvert_both (r s l t : List Int) (hr : r.length < 1099511627776) (hs : s.length < 1099511627776) (hl : l.length < 1099511627776) (ht : t.length < 1099511627776) : ∃ o : List Int × Bool, o.1.length ≤ 1000 ∧ ∀ n, Big + 20 ≤ n → c_impl_FloorConvert (run tb orc n) r s l t = some o ∧ c_spec_FloorConvert (run tb orc n) r s l t = some o := by
  have hbig := big_ge
  by_cases c : residB r l = true
  · by_cases d : residB s t = true
    · have h := resid_of c
      have hT := resid_of d
      refine ⟨if apartB l t = true then (idxL (floorAt l r s t) 0 t.length, true) else ([], false), ?_, fun n hn => ?_⟩
      · split
        · show (idxL _ 0 t.length).length ≤ 1000
          rw [idxL_length]; have := hT.bs.len; omega
        · simp
      obtain ⟨n, rfl, hq⟩ := up hn
      rw [impl_FloorConvert_eq, spec_FloorConvert_eq]; unfold impl_FloorConvert_f impl_FloorConvert_x spec_FloorConvert_f spec_FloorConvert_x
      rw [areResidues_ret (by omega) hr hl, l4Good_ret (by omega) hr hl]
      simp only [Option.bind_some]
      rw [c, if_neg nt, if_neg nt, areResidues_ret (by omega) hs ht, l4Good_ret (by omega) hs ht]
      simp only [Option.bind_some]
      rw [d, if_neg nt, if_neg nt, anyIn_ret (by omega) hl ht]
      simp only [Option.bind_some]
      obtain ⟨q, q1, q2, q3, q4⟩ := prodAll_s (n := n) (by omega) h.bs
      obtain ⟨p, p1, p2, p3, p4⟩ := prodAll_i (n := n) (by omega) h.bs
      obtain ⟨u, u1, u2, u3, u4⟩ := l6Sum_ret (n := n) (by omega) h
      have spec : iterO (spec_FloorConvert_g1 (run tb orc n) n r s l t) n (0 : Int) = if apartB t l = true then some (idxL (floorAt l r s t) 0 t.length, true) else some ([], false) := by
        by_cases ha : apartB l t = true
        · refine all_idx (fun i => !l.contains (t.getD i 0)) (some (idxL (floorAt l r s t) 0 t.length, true)) (some ([], false)) (len := t.length) (G := spec_FloorConvert_g1 (run tb orc n) n r s l t) (fun self i hi => ?_) (fun self => ?_) t.length 0 (by omega) n (by omega)
          · show spec_FloorConvert_x1 _ _ _ _ _ _ _ _ = _
            unfold spec_FloorConvert_x1
            rw [if_pos (by omega), if_pos (by omega), if_pos (by omega), nat_i, l6Has_ret (by omega) hl, w64 (by omega) (by omega), ni1]
            simp only [Option.bind_some]
            cases l.contains (t.getD i 0) <;> rfl
          · show spec_FloorConvert_x1 _ _ _ _ _ _ _ _ = _
            unfold spec_FloorConvert_x1
            rw [if_neg (by omega), q4]
            simp only [Option.bind_some]
            rw [u4]
            simp only [Option.bind_some]
            exact floor_s (by omega) h hT ha q1 q2 q3 u1 u2 u3 (by omega)
        · have hb : apartB t l = false := by rw [apart_comm]; simpa using ha
          have hx : allN (fun i => !l.contains (t.getD i 0)) 0 t.length = false := hb
          rw [hb, if_neg (by simp)]
          -- the place where both have the same
          have key : ∀ (d i : Nat), i + d = t.length → allN (fun i => !l.contains (t.getD i 0)) i d = false → ∀ K, d < K → iterO (spec_FloorConvert_g1 (run tb orc n) n r s l t) K (i : Int) = some ([], false) := by
            intro d
            induction d with
            | zero => intro i _ h0; cases h0
            | succ d ih =>
              intro i hi h0 K hK
              obtain ⟨K, rfl⟩ : ∃ j, K = j + 1 := ⟨K - 1, by omega⟩
              rw [iterO_succ]
              generalize hS : iterO (spec_FloorConvert_g1 (run tb orc n) n r s l t) K = S
              unfold spec_FloorConvert_g1 spec_FloorConvert_x1
              rw [if_pos (by omega), if_pos (by omega), if_pos (by omega), nat_i, l6Has_ret (by omega) hl, w64 (by omega) (by omega), ni1]
              simp only [Option.bind_some]
              simp only [allN] at h0
              cases hc : l.contains (t.getD i 0) with
              | true => rfl
              | false =>
                rw [if_neg (by simp)]
                rw [hc] at h0
                rw [← hS]
                exact ih (i + 1) (by omega) (by simpa using h0) K (by omega)
          exact key t.length 0 (by omega) hx n (by omega)
      rw [spec, apart_comm t l]
      by_cases ha : apartB l t = true
      · rw [if_pos ha, if_pos ha, ha, if_neg nt, tops_ret (by omega) h]
        simp only [Option.bind_some]
        rw [p4]
        simp only [Option.bind_some]
        rw [convFloor_ret (by omega) h hT ha p1 p2 p3]
        exact ⟨rfl, trivial⟩
      · have ha' : apartB l t = false := by simpa using ha
        rw [if_neg ha, if_neg ha, ha']
        simp
    · have d' : residB s t = false := by simpa using d
      refine ⟨([], false), by simp, fun n hn => ?_⟩
      obtain ⟨n, rfl, hq⟩ := up hn
      rw [impl_FloorConvert_eq, spec_FloorConvert_eq]; unfold impl_FloorConvert_f impl_FloorConvert_x spec_FloorConvert_f spec_FloorConvert_x
      rw [areResidues_ret (by omega) hr hl, l4Good_ret (by omega) hr hl]
      simp only [Option.bind_some]
      rw [c, if_neg nt, if_neg nt, areResidues_ret (by omega) hs ht, l4Good_ret (by omega) hs ht]
      simp only [Option.bind_some]
      rw [d']; exact ⟨rfl, rfl⟩
  · have c' : residB r l = false := by simpa using c
    refine ⟨([], false), by simp, fun n hn => ?_⟩
    obtain ⟨n, rfl, hq⟩ := up hn
    rw [impl_FloorConvert_eq, spec_FloorConvert_eq]; unfold impl_FloorConvert_f impl_FloorConvert_x spec_FloorConvert_f spec_FloorConvert_x
    rw [areResidues_ret (by omega) hr hl, l4Good_ret (by omega) hr hl]
    simp only [Option.bind_some]
    rw [c']; exact ⟨rfl, rfl⟩
end Go.Proofs.YthanbjnpfenniaaDoor.Fw

/- FastConvert: both sides. -/
import Derived.Test.YthanbjnpfenniaaDoorPConv
import Derived.Test.YthanbjnpfenniaaDoorEqLFastConvert
namespace Go.Proofs.YthanbjnpfenniaaDoor.Fw
open Go Go.RowKit Go.Proofs.YthanbjnpfenniaaDoor.Limbs
set_option linter.unusedVariables false

theorem areBases_ret {n : Nat} (hn : Big + 11 ≤ n) {r l t : List Int} (hr : r.length < 1099511627776) (hl : l.length < 1099511627776) (ht : t.length < 1099511627776) : c_impl_areBases (run tb orc n) r l t = some (residB r l && basisB t) := by
  obtain ⟨n, rfl, hq⟩ := up (k := 10) hn
  rw [impl_areBases_eq]; unfold impl_areBases_f impl_areBases_x
  rw [areResidues_ret hq hr hl]
  simp only [Option.bind_some]
  cases residB r l with
  | false => rfl
  | true => rw [if_pos rfl, basis_i (by omega) ht]; rfl
theorem resP_false {m : Int} (hm : 0 < m) {s : List Int} : resP m false s = val s % m := by
  unfold resP
  rw [if_neg (by simp), wordM_is hm]
noncomputable def convP (l r t : List Int) : List Int := idxL (fun i => sumV l r % t.getD i 0) 0 t.length
theorem convFast_ret {n : Nat} (hn : Big + 7 ≤ n) {r l t : List Int} (h : ResOK r l) (hT : Basis t) : c_impl_converted_impl_FastConvert_1 (run tb orc n) t (topL l r) l = some (convP l r t) := by
  obtain ⟨n, rfl, hq⟩ := up (k := 6) hn
  have hbig := big_ge
  have l6 := hT.len
  rw [impl_converted_impl_FastConvert_1_eq]; unfold impl_converted_impl_FastConvert_1_f impl_converted_impl_FastConvert_1_x
  refine (map_idx (fun i out => (i, out)) (fun i => sumV l r % t.getD i 0) (fun out => some out) (len := t.length) (G := impl_converted_impl_FastConvert_1_g1 (run tb orc n) n t (topL l r) l) (fun self i out hi ho => ?_) (fun self out ho => ?_) t.length 0 [] (by omega) rfl n (by omega)).trans rfl
  · show impl_converted_impl_FastConvert_1_x1 _ _ _ _ _ _ = _
    unfold impl_converted_impl_FastConvert_1_x1
    dsimp only
    have b := brng hT hi
    obtain ⟨n, rfl, hq'⟩ := up (k := 5) hq
    rw [if_pos (by omega), if_pos (by omega), if_pos (by omega), nat_i, impl_FastConvert_1_eq]
    unfold impl_FastConvert_1_f impl_FastConvert_1_x
    rw [fast_ret hq' h (by omega) b.2]
    simp only [Option.bind_some]
    rw [mod_ret (by omega) (by omega) (by omega), Int.emod_emod_of_dvd _ (Int.dvd_refl _)]
    simp only [Option.bind_some]
    rw [if_pos (by rw [List.length_singleton]; exact lim_lt (by omega)), w64 (by omega) (by omega), ni1]
  · show impl_converted_impl_FastConvert_1_x1 _ _ _ _ _ _ = _
    unfold impl_converted_impl_FastConvert_1_x1
    dsimp only
    rw [if_neg (by omega)]
theorem fastConvert_both (r l t : List Int) (hr : r.length < 1099511627776) (hl : l.length < 1099511627776) (ht : t.length < 1099511627776) : ∃ o : List Int × Bool, o.1.length ≤ 1000 ∧ ∀ n, Big + 20 ≤ n → c_impl_FastConvert (run tb orc n) r l t = some o ∧ c_spec_FastConvert (run tb orc n) r l t = some o := by
  by_cases c : residB r l = true
  · by_cases d : basisB t = true
    · have h := resid_of c
      have hT := basis_of d
      refine ⟨(convP l r t, true), by show (convP l r t).length ≤ 1000; unfold convP; rw [idxL_length]; have := hT.len; omega, fun n hn => ?_⟩
      obtain ⟨n, rfl, hq⟩ := up hn
      rw [impl_FastConvert_eq, spec_FastConvert_eq]; unfold impl_FastConvert_f impl_FastConvert_x spec_FastConvert_f spec_FastConvert_x
      rw [areBases_ret (by omega) hr hl ht, l4Good_ret (by omega) hr hl]
      simp only [Option.bind_some]
      rw [c, d, if_neg (show ¬ (!(true && true)) = true by simp), if_neg nt, tops_ret (by omega) h, basis_s (by omega) ht, d]
      simp only [Option.bind_some]
      obtain ⟨s, s1, s2, s3, s4⟩ := l6Sum_ret (n := n) (by omega) h
      rw [if_neg nt, convFast_ret (by omega) h hT, s4]
      simp only [Option.bind_some]
      rw [residues_s (by omega) s1.ok (by omega) hT]
      simp only [Option.bind_some]
      refine ⟨trivial, ?_⟩
      have e : residP false s t = convP l r t := idxL_congr _ 0 fun i _ hi => by
        have := brng hT (i := i) (by omega)
        show resP (t.getD i 0) false s = _
        rw [resP_false (by omega), s2]
      rw [e]
    · have d' : basisB t = false := by simpa using d
      refine ⟨([], false), by simp, fun n hn => ?_⟩
      obtain ⟨n, rfl, hq⟩ := up hn
      rw [impl_FastConvert_eq, spec_FastConvert_eq]; unfold impl_FastConvert_f impl_FastConvert_x spec_FastConvert_f spec_FastConvert_x
      rw [areBases_ret (by omega) hr hl ht, l4Good_ret (by omega) hr hl]
      simp only [Option.bind_some]
      rw [c, d', if_neg nt, basis_s (by omega) ht, d']
      exact ⟨rfl, rfl⟩
  · have c' : residB r l = false := by simpa using c
    refine ⟨([], false), by simp, fun n hn => ?_⟩
    obtain ⟨n, rfl, hq⟩ := up hn
    rw [impl_FastConvert_eq, spec_FastConvert_eq]; unfold impl_FastConvert_f impl_FastConvert_x spec_FastConvert_f spec_FastConvert_x
    rw [areBases_ret (by omega) hr hl ht, l4Good_ret (by omega) hr hl]
    simp only [Option.bind_some]
    rw [c']; exact ⟨rfl, rfl⟩
end Go.Proofs.YthanbjnpfenniaaDoor.Fw

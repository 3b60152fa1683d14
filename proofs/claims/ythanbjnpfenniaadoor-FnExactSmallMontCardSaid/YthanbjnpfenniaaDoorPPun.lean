/- Products of a basis, words as limbs: the specification. -/
import Derived.Test.YthanbjnpfenniaaDoorPProd
import Derived.Test.YthanbjnpfenniaaDoorEqTop
namespace Go.Proofs.YthanbjnpfenniaaDoor.Fw
open Go Go.RowKit Go.Proofs.YthanbjnpfenniaaDoor.Limbs
set_option linter.unusedVariables false

theorem l2Of_ret {n : Nat} (hn : Big + 1 ≤ n) {x : Int} (h0 : 0 ≤ x) (h1 : x ≤ 9223372036854775807) : c_spec_l2Of (run tb orc n) x = some (wh 3 x) := by
  obtain ⟨n, rfl, hq⟩ := up hn
  have hbig := big_ge
  rw [spec_l2Of_eq]; unfold spec_l2Of_f spec_l2Of_x
  have key : ∀ (d : Nat) (y : Int) (out : List Int), 0 ≤ y → y ≤ 9223372036854775807 → y < B ^ d → out.length + d ≤ 1000 → ∀ K, d < K → iterO (spec_l2Of_g1 (run tb orc n) n) K (y, out) = some (out ++ wh d y) := by
    intro d
    induction d with
    | zero =>
      intro y out y0 y1 y2 ho K hK
      obtain ⟨K, rfl⟩ : ∃ j, K = j + 1 := ⟨K - 1, by omega⟩
      have : y = 0 := by simp at y2; omega
      subst this
      rw [iterO_succ]; unfold spec_l2Of_g1 spec_l2Of_x1
      dsimp only
      rw [if_neg (by omega)]
      simp [wh]
    | succ d ih =>
      intro y out y0 y1 y2 ho K hK
      obtain ⟨K, rfl⟩ : ∃ j, K = j + 1 := ⟨K - 1, by omega⟩
      show spec_l2Of_x1 (run tb orc n) _ _ = _
      unfold spec_l2Of_x1
      dsimp only
      by_cases c : y > 0
      · rw [if_pos c, if_neg (by omega), if_pos (by rw [List.length_singleton]; exact lim_lt (by omega)), if_neg (by omega), tmod_nn y0, tdiv_nn y0, w64 (by omega) (by omega)]
        have hy : y / 268435456 < B ^ d := by
          rw [Int.pow_succ, B_def] at y2
          rw [B_def]; omega
        refine (ih _ _ (by omega) (by omega) hy (by simp; omega) K (by omega)).trans ?_
        rw [show wh (d + 1) y = if y > 0 then y % 268435456 :: wh d (y / 268435456) else [] from rfl, if_pos c]
        simp
      · rw [if_neg c]
        rw [show wh (d + 1) y = if y > 0 then y % 268435456 :: wh d (y / 268435456) else [] from rfl, if_neg c]
        simp
  have := key 3 x [] h0 h1 (by rw [B_def]; omega) (by simp) n (by omega)
  simpa using this
theorem norm_one : Norm [(1:Int)] := by
  have := wh3 (x := 1) (by omega) (by omega)
  exact this.1
theorem punct_ret {n : Nat} (hn : Big + 3 ≤ n) {l : List Int} (hB : ∀ j, j < l.length → 0 ≤ l.getD j 0 ∧ l.getD j 0 ≤ 268435456) (h6 : l.length ≤ 6) {i : Int} {i' : Nat} (hi : ∀ j : Nat, j < l.length → ((j : Int) = i ↔ j = i')) :
    ∃ r, Norm r ∧ val r = prodEx l i' ∧ r.length ≤ 21 ∧ c_spec_l4Punctured (run tb orc n) l i = some r := by
  obtain ⟨n, rfl, hq⟩ := up (k := 2) hn
  have hbig := big_ge
  have key : ∀ (d j : Nat) (r : List Int), j + d = l.length → Norm r → r.length ≤ 3 + 3 * j → ∀ K, d < K → ∃ r', Norm r' ∧ val r' = foldN (exStep l i') j d (val r) ∧ r'.length ≤ 21 ∧ iterO (spec_l4Punctured_g1 (run tb orc n) n l i) K (r, (j : Int)) = some r' := by
    intro d
    induction d with
    | zero =>
      intro j r hj hr hl K hK
      obtain ⟨K, rfl⟩ : ∃ j, K = j + 1 := ⟨K - 1, by omega⟩
      refine ⟨r, hr, rfl, by omega, ?_⟩
      show spec_l4Punctured_x1 _ _ _ _ _ = _
      unfold spec_l4Punctured_x1
      dsimp only
      rw [if_neg (by omega)]
    | succ d ih =>
      intro j r hj hr hl K hK
      obtain ⟨K, rfl⟩ : ∃ j, K = j + 1 := ⟨K - 1, by omega⟩
      have hjl : j < l.length := by omega
      by_cases c : j = i'
      · obtain ⟨r', r1, r2, r3, r4⟩ := ih (j + 1) r (by omega) hr (by omega) K (by omega)
        refine ⟨r', r1, ?_, r3, ?_⟩
        · rw [r2]
          show _ = foldN (exStep l i') (j + 1) d (exStep l i' j (val r))
          unfold exStep
          rw [if_pos c]
        · refine Eq.trans ?_ r4
          show spec_l4Punctured_x1 _ _ _ _ _ = _
          unfold spec_l4Punctured_x1
          dsimp only
          rw [if_pos (by omega), if_pos (by omega), if_pos (by omega), if_pos ((hi j hjl).2 c), w64 (by omega) (by omega), ni1]
      · have hb := hB j hjl
        obtain ⟨w1, w2⟩ := wh3 hb.1 (by omega : l.getD j 0 ≤ 9223372036854775807)
        have wl := wh_len 3 (l.getD j 0)
        obtain ⟨m, m1, m2, m3, m4⟩ := l2Mul_ret (n := n) hq hr.ok w1.ok (by omega) (by omega)
        rw [w2] at m2
        obtain ⟨r', r1, r2, r3, r4⟩ := ih (j + 1) m (by omega) m1 (by omega) K (by omega)
        refine ⟨r', r1, ?_, r3, ?_⟩
        · rw [r2]
          show _ = foldN (exStep l i') (j + 1) d (exStep l i' j (val r))
          rw [m2]
          unfold exStep
          rw [if_neg c]
        · refine Eq.trans ?_ r4
          show spec_l4Punctured_x1 _ _ _ _ _ = _
          unfold spec_l4Punctured_x1
          dsimp only
          rw [if_pos (by omega), if_pos (by omega), if_pos (by omega), if_neg (fun e => c ((hi j hjl).1 e)), nat_i, l2Of_ret (by omega) hb.1 (by omega)]
          simp only [Option.bind_some]
          rw [m4]
          simp only [Option.bind_some]
          rw [w64 (by omega) (by omega), ni1]
  obtain ⟨r', r1, r2, r3, r4⟩ := key l.length 0 [1] (by omega) norm_one (by simp) n (by omega)
  refine ⟨r', r1, by rw [r2, val_one]; rfl, r3, ?_⟩
  rw [spec_l4Punctured_eq]; unfold spec_l4Punctured_f spec_l4Punctured_x
  exact r4
theorem prodS_ret {n : Nat} (hn : Big + 3 ≤ n) {l : List Int} (hB : ∀ j, j < l.length → 0 ≤ l.getD j 0 ∧ l.getD j 0 ≤ 268435456) (h6 : l.length ≤ 6) :
    ∃ r, Norm r ∧ val r = prodEx l l.length ∧ r.length ≤ 21 ∧ c_spec_l4Product (run tb orc n) l = some r := by
  obtain ⟨n, rfl, hq⟩ := up (k := 2) hn
  have hbig := big_ge
  have key : ∀ (d j : Nat) (r : List Int), j + d = l.length → Norm r → r.length ≤ 3 + 3 * j → ∀ K, d < K → ∃ r', Norm r' ∧ val r' = foldN (exStep l l.length) j d (val r) ∧ r'.length ≤ 21 ∧ iterO (spec_l4Product_g1 (run tb orc n) n l) K (r, (j : Int)) = some r' := by
    intro d
    induction d with
    | zero =>
      intro j r hj hr hl K hK
      obtain ⟨K, rfl⟩ : ∃ j, K = j + 1 := ⟨K - 1, by omega⟩
      refine ⟨r, hr, rfl, by omega, ?_⟩
      show spec_l4Product_x1 _ _ _ _ = _
      unfold spec_l4Product_x1
      dsimp only
      rw [if_neg (by omega)]
    | succ d ih =>
      intro j r hj hr hl K hK
      obtain ⟨K, rfl⟩ : ∃ j, K = j + 1 := ⟨K - 1, by omega⟩
      have hjl : j < l.length := by omega
      have c : ¬ j = l.length := by omega
      have hb := hB j hjl
      obtain ⟨w1, w2⟩ := wh3 hb.1 (by omega : l.getD j 0 ≤ 9223372036854775807)
      have wl := wh_len 3 (l.getD j 0)
      obtain ⟨m, m1, m2, m3, m4⟩ := l2Mul_ret (n := n) hq hr.ok w1.ok (by omega) (by omega)
      rw [w2] at m2
      obtain ⟨r', r1, r2, r3, r4⟩ := ih (j + 1) m (by omega) m1 (by omega) K (by omega)
      refine ⟨r', r1, ?_, r3, ?_⟩
      · rw [r2]
        show _ = foldN (exStep l l.length) (j + 1) d (exStep l l.length j (val r))
        rw [m2]
        unfold exStep
        rw [if_neg c]
      · refine Eq.trans ?_ r4
        show spec_l4Product_x1 _ _ _ _ = _
        unfold spec_l4Product_x1
        dsimp only
        rw [if_pos (by omega), if_pos (by omega), if_pos (by omega), nat_i, l2Of_ret (by omega) hb.1 (by omega)]
        simp only [Option.bind_some]
        rw [m4]
        simp only [Option.bind_some]
        rw [w64 (by omega) (by omega), ni1]
  obtain ⟨r', r1, r2, r3, r4⟩ := key l.length 0 [1] (by omega) norm_one (by simp) n (by omega)
  refine ⟨r', r1, by rw [r2, val_one]; rfl, r3, ?_⟩
  rw [spec_l4Product_eq]; unfold spec_l4Product_f spec_l4Product_x
  exact r4
end Go.Proofs.YthanbjnpfenniaaDoor.Fw

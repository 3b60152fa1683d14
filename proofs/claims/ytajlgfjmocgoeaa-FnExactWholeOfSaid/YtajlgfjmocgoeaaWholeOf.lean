/- The plain statement of WholeOf: both make the limbs of the number's size. -/
import Derived.Test.YtajlgfjmocgoeaaSpecAdd
namespace Go.Proofs.Ytajlgfjmocgoeaa.WholeOf
open Go.RowKit Go.Proofs.YtajlgfjmocgoeaaW.PrintWords Go.Proofs.YtajlgfjmocgoeaaW.PrintLast Go.Proofs.YtajlgfjmocgoeaaW.PrintMore Go.Proofs.Ytajlgfjmocgoeaa.Lib Go.Proofs.Ytajlgfjmocgoeaa.M Go.Proofs.Ytajlgfjmocgoeaa.Word Go.Proofs.Ytajlgfjmocgoeaa.LawKit Go.Proofs.Ytajlgfjmocgoeaa.Limbs Go.Proofs.Ytajlgfjmocgoeaa.SpecAdd

theorem and_u64_limb {n : Nat} (h : n < 18446744073709551616) : wrap64 (Go.bits .and .u64 (n : Int) 268435455) = ((n % 268435456 : Nat) : Int) := by
  rw [and_u64]
  have e1 : ((n : Int) % 18446744073709551616).toNat = n := by omega
  have e2 : ((268435455 : Int) % 18446744073709551616).toNat = 2 ^ 28 - 1 := by decide
  rw [e1, e2, Nat.and_two_pow_sub_one_eq_mod]
  exact w64 (by omega) (by omega)

theorem whole_from (a : Int) : ∀ (n : Nat), n < 18446744073709551616 → ∀ (out : List Int), out.length ≤ 1000 → ∀ K, (digs n).length < K → out.length + (digs n).length ≤ 1000 →
    impl_wholeOf.l0 K a out (n : Int) = some (decide (a < 0), out ++ digs n) := by
  intro n
  induction n using Nat.strongRecOn with
  | ind n ih =>
    intro hn out ho K hK hl
    obtain ⟨K, rfl⟩ : ∃ j, K = j + 1 := ⟨K - 1, by omega⟩
    simp only [impl_wholeOf.l0]
    by_cases h0 : n = 0
    · subst h0; rw [if_neg (by omega), digs_zero, List.append_nil]
    · rw [digs_pos h0] at hK hl ⊢
      rw [List.length_cons] at hK hl
      rw [if_pos (by omega), if_pos (by omega), and_u64_limb hn]
      have e1 : ((n : Int) / 268435456) = ((n / 268435456 : Nat) : Int) := by omega
      rw [e1, ih (n / 268435456) (Nat.div_lt_self (by omega) (by omega)) (by omega) _ (by simp; omega) K (by omega) (by simp; omega)]
      simp

/-- The size of an int. -/
theorem wholeOf_i {a : Int} (h0 : -9223372036854775808 ≤ a) (h1 : a ≤ 9223372036854775807) : Ev (fun k => impl_wholeOf.f k a) (decide (a < 0), digs a.natAbs) := by
  have hl := digs_word (n := a.natAbs) (by omega)
  refine ⟨11, fun K hK => ?_⟩
  show impl_wholeOf.f K a = _
  obtain ⟨K, rfl⟩ : ∃ j, K = j + 1 := ⟨K - 1, by omega⟩
  unfold impl_wholeOf.f
  rw [bind_some]
  have key : impl_wholeOf.j0 (K + 1) a [] (a.natAbs : Int) = some (decide (a < 0), digs a.natAbs) := by
    simp only [impl_wholeOf.j0]
    rw [whole_from a a.natAbs (by omega) [] (by simp) K (by omega) (by simp; omega)]; rfl
  by_cases h : a < 0
  · rw [if_pos h]
    have e : IntKind.u64.wrap (-(IntKind.u64.wrap a)) = (a.natAbs : Int) := by rw [u64_wrap, u64_wrap]; omega
    rw [e]; exact key
  · rw [if_neg h]
    have e : IntKind.u64.wrap a = (a.natAbs : Int) := by rw [u64_wrap]; omega
    rw [e]; exact key

theorem int_s {a : Int} (h0 : -9223372036854775808 ≤ a) (h1 : a ≤ 9223372036854775807) : Ev (fun k => spec_l2Int.f k a) (decide (a < 0), digs a.natAbs) := by
  by_cases h : a < 0
  · obtain ⟨K1, k1⟩ := of_s (n := (-(a + 1)).toNat) (by omega)
    have hd := digs_norm (-(a + 1)).toNat
    have hl := digs_word (n := (-(a + 1)).toNat) (by omega)
    obtain ⟨r, r1, r2, r3, ⟨K2, k2⟩⟩ := add_s (a := digs (-(a + 1)).toNat) (b := [1]) hd.ok (Ok.cons (by omega) (by rw [B_def]; omega) Ok.nil) (by omega) (by simp)
    have e : r = digs a.natAbs := by
      refine norm_inj r1 (digs_norm _) ?_
      rw [r2, digs_val, digs_val, val_one]; omega
    subst e
    dsimp only at k1 k2
    refine ⟨K1 + K2, fun K hK => ?_⟩
    show spec_l2Int.f K a = _
    unfold spec_l2Int.f
    rw [if_neg (by omega), w64 (n := a + 1) (by omega) (by omega), w64 (n := -(a + 1)) (by omega) (by omega)]
    have e : (-(a + 1)) = (((-(a + 1)).toNat : Nat) : Int) := by omega
    rw [e, k1 _ (by omega), bind_some, k2 _ (by omega), bind_some, decide_eq_true h]
  · obtain ⟨K1, k1⟩ := of_s (n := a.natAbs) (by omega)
    dsimp only at k1
    refine ⟨K1, fun K hK => ?_⟩
    show spec_l2Int.f K a = _
    unfold spec_l2Int.f
    have e : a = ((a.natAbs : Nat) : Int) := by omega
    rw [if_pos (by omega), decide_eq_false h]
    have k1' := k1 K hK
    rw [← e] at k1'
    rw [k1', bind_some]

theorem out_s {neg : Bool} {l : List Int} (h : l.length ≤ 40) : spec_l2Out.f neg l = some (neg, l, true) := by
  unfold spec_l2Out.f
  rw [if_neg (by omega), bind_some, if_pos (by simp; omega)]; rfl

theorem wholeOf : laws_FnExactWholeOf.Pure := by
  intro a ha
  have hb := wf_bounds ha
  have hl := digs_word (n := a.natAbs) (by omega)
  obtain ⟨K1, k1⟩ := wholeOf_i hb.1 hb.2
  obtain ⟨K2, k2⟩ := int_s hb.1 hb.2
  dsimp only at k1 k2
  generalize digs a.natAbs = l at *
  generalize decide (a < 0) = neg at *
  obtain ⟨K3, k3⟩ := eqWhole_self neg l (by omega)
  obtain ⟨K4, k4⟩ := markWhole (neg := neg) (l := l) (k0 := 1) (by omega) (by omega)
  obtain ⟨K5, k5⟩ := heldWhole (neg := neg) (n := l.length) (k0 := 1) (by omega) (by omega)
  dsimp only at k3 k4 k5
  have s : ∀ k, K2 ≤ k → spec_WholeOf.f k a = some (neg, l) := by
    intro k hk
    unfold spec_WholeOf.f
    rw [k2 k hk, bind_some]
    dsimp only
    rw [out_s (by omega), bind_some]
  have i : ∀ k, K1 ≤ k → impl_WholeOf.f k a = some (neg, l) := by
    intro k hk
    unfold impl_WholeOf.f
    rw [k1 k hk, bind_some]
  refine ⟨K1 + K2 + K3 + K4 + K5, ?_⟩
  unfold laws_FnExactWholeOf.f
  rw [s _ (by omega), bind_some, i _ (by omega), bind_some]
  dsimp only
  rw [k3 _ (by omega), bind_some, if_pos rfl, k4 _ (by omega), bind_some]
  dsimp only
  rw [k5 _ (by omega), bind_some, if_neg (by omega), if_pos rfl, bind_some]
  dsimp only
  rw [k3 _ (by omega), bind_some, if_pos rfl, bind_some, if_neg (by omega), if_pos rfl]

end Go.Proofs.Ytajlgfjmocgoeaa.WholeOf

/- Signed sums: the specification. -/
import Derived.Test.YthanbjnpfenniaaDoorPAddS
import Derived.Test.YthanbjnpfenniaaDoorPCmpS
import Derived.Test.YthanbjnpfenniaaDoorEqSg
namespace Go.Proofs.YthanbjnpfenniaaDoor.Fw
open Go Go.RowKit Go.Proofs.YthanbjnpfenniaaDoor.Limbs
set_option linter.unusedVariables false
set_option linter.unusedSimpArgs false

theorem l2Plus_ret {n : Nat} (hn : Big + 3 ≤ n) {n1 n2 : Bool} {a b : List Int} (ha : Can n1 a) (hb : Can n2 b) (hm : max a.length b.length ≤ 1048600) :
    ∃ s r, Can s r ∧ sv s r = sv n1 a + sv n2 b ∧ r.length ≤ max a.length b.length + 1 ∧ c_spec_l2Plus (run tb orc n) n1 a n2 b = some (s, r) := by
  obtain ⟨n, rfl, hn'⟩ := up hn
  have pa := val_nonneg ha.1.ok
  have pb := val_nonneg hb.1.ok
  rw [spec_l2Plus_eq]; unfold spec_l2Plus_f spec_l2Plus_x
  by_cases hs : n1 = n2
  · subst hs
    obtain ⟨r, h1, h2, h3, h4⟩ := l2Add_ret (n := n) (by omega) ha.1.ok hb.1.ok hm
    refine ⟨n1, r, ⟨h1, fun e => ?_⟩, by unfold sv; rw [h2]; split <;> omega, h3, ?_⟩
    · subst e
      refine ha.2 (ha.1.eq_nil ?_)
      simp at h2; omega
    · rw [if_pos (by simp), h4]; rfl
  · rw [if_neg (by simpa using hs), l2Cmp_ret (by omega) ha.1 hb.1 (by omega)]
    simp only [Option.bind_some]
    by_cases he : val a = val b
    · refine ⟨false, [], ⟨Norm.nil, fun _ => rfl⟩, ?_, by simp, ?_⟩
      · unfold sv; rw [he]; cases n1 <;> cases n2 <;> simp at hs ⊢ <;> omega
      · rw [ordV_eq he, if_pos rfl]
    · by_cases hge : val b ≤ val a
      · obtain ⟨r, h1, h2, h3, h4⟩ := l2Sub_ret (n := n) (by omega) ha.1 hb.1 (by omega) hge
        refine ⟨n1, r, ⟨h1, fun e => ?_⟩, by unfold sv; rw [h2]; cases n1 <;> cases n2 <;> simp at hs ⊢ <;> omega, by omega, ?_⟩
        · subst e; simp at h2; omega
        · rw [ordV_gt (by omega), if_neg (by omega), if_pos rfl, h4]; rfl
      · obtain ⟨r, h1, h2, h3, h4⟩ := l2Sub_ret (n := n) (by omega) hb.1 ha.1 (by omega) (by omega)
        refine ⟨n2, r, ⟨h1, fun e => ?_⟩, by unfold sv; rw [h2]; cases n1 <;> cases n2 <;> simp at hs ⊢ <;> omega, by omega, ?_⟩
        · subst e; simp at h2; omega
        · rw [ordV_lt (by omega), if_neg (by omega), if_neg (by omega), h4]; rfl
theorem l2Times_ret {n : Nat} (hn : Big + 3 ≤ n) {s1 s2 : Bool} {a b : List Int} (ha : Ok a) (hb : Ok b) (hla : a.length ≤ 1048576) (hlb : b.length ≤ 1048576) :
    ∃ r, Norm r ∧ val r = val a * val b ∧ r.length ≤ a.length + b.length ∧ c_spec_l2Times (run tb orc n) s1 a s2 b = some (sgn (s1 != s2) r, r) := by
  obtain ⟨n, rfl, hm⟩ := up hn
  obtain ⟨r, h1, h2, h3, h4⟩ := l2Mul_ret (n := n) (by omega) ha hb hla hlb
  refine ⟨r, h1, h2, h3, ?_⟩
  rw [spec_l2Times_eq]; unfold spec_l2Times_f spec_l2Times_x
  rw [h4]
  simp only [Option.bind_some]
  unfold sgn
  by_cases h : 0 < r.length
  · rw [if_pos (by omega), decide_eq_true h, Bool.and_true]
  · rw [if_neg (by omega), decide_eq_false h, Bool.and_false]
end Go.Proofs.YthanbjnpfenniaaDoor.Fw

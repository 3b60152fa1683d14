/- The law of RoundWholes over the interpreter. -/
import Derived.Test.YtnlgciomdghfiaaPLaws
import Derived.Test.YtnlgciomdghfiaaPDivX
import Derived.Test.YtnlgciomdghfiaaEqRoundWholes
namespace Go.Proofs.Ytnlgciomdghfiaa.Fw
open Go Go.RowKit
set_option linter.unusedVariables false

theorem lawRound_at {n : Nat} (hn : Big + 16 ≤ n) (s1 : Bool) (a : List Int) (s2 : Bool) (b : List Int) (hla : a.length ≤ 9223372036854775807) (hlb : b.length ≤ 9223372036854775807) :
    c_laws_FnExactRoundWholes (run tb orc n) s1 a s2 b = some true := by
  obtain ⟨n, rfl, hm⟩ := up3 hn
  have hbig := big_ge
  rw [laws_FnExactRoundWholes_eq]; unfold laws_FnExactRoundWholes_f laws_FnExactRoundWholes_x
  rw [szWhole_ret (by omega) hla (by omega) (by omega)]
  simp only [Option.bind_some]
  by_cases h1 : (1048576 : Int) - (a.length : Int) < 0
  · rw [if_pos h1]; rfl
  rw [if_neg h1, if_neg h1, szWhole_ret (by omega) hlb (by omega) (by omega)]
  simp only [Option.bind_some]
  by_cases h2 : (1048576 : Int) - (a.length : Int) - (b.length : Int) < 0
  · rw [if_pos h2]; rfl
  rw [if_neg h2, if_neg h2]
  have la : a.length < 1099511627776 := by omega
  have lb : b.length < 1099511627776 := by omega
  obtain ⟨⟨⟨s, r⟩, t⟩, hp, hr⟩ := roundWholes_both s1 (a := a) s2 (b := b) (by omega) (by omega)
  have lr : r.length ≤ 40 := hp
  have ca : c_laws_toWhole (run tb orc (n + 2)) s1 a = some (s1, a) := toWhole_ret (by omega) la
  have cb : c_laws_toWhole (run tb orc (n + 2)) s2 b = some (s2, b) := toWhole_ret (by omega) lb
  have ri : c_impl_RoundWholes (run tb orc (n + 2)) s1 a s2 b = some ((s, r), t) := (hr _ (by omega)).1
  have rs : c_spec_RoundWholes (run tb orc (n + 2)) s1 a s2 b = some ((s, r), t) := (hr _ (by omega)).2
  have er : c_laws_eqWhole (run tb orc (n + 2)) s r s r = some true := eqWhole_self (by omega) (by omega)
  have ea : c_laws_eqWhole (run tb orc (n + 2)) s1 a s1 a = some true := eqWhole_self (by omega) la
  have eb : c_laws_eqWhole (run tb orc (n + 2)) s2 b s2 b = some true := eqWhole_self (by omega) lb
  have hh : c_laws_heldWhole (run tb orc (n + 2)) s (ramp 1 r.length) 1 = some ((1 + (r.length : Int)) : Int) := heldWhole_ret (by omega) (by omega) (by omega)
  have ne : (t != t) = false := by simp
  simp only [ca, cb, rs, ri, er, ea, eb, Option.bind_some, ne, Bool.not_true, Bool.false_eq_true, if_false]
  refine (mark_loop (l := a) (k0 := 1) _ (fun _ _ => rfl) (by omega) (by omega) (by omega)).trans ?_
  dsimp only
  refine (mark_loop (l := b) (k0 := 1 + (a.length : Int)) _ (fun _ _ => rfl) (by omega) (by omega) (by omega)).trans ?_
  dsimp only
  rw [if_neg (by omega)]
  simp only [er, Option.bind_some, ne, Bool.not_true, Bool.false_eq_true, if_false]
  refine (mark_loop (l := r) (k0 := 1) _ (fun _ _ => rfl) (by omega) (by omega) (by omega)).trans ?_
  dsimp only
  have hneg : ¬ (1 + (r.length : Int) < 0) := by omega
  simp only [hh, ca, cb, ri, er, Option.bind_some, ne, hneg, Bool.not_true, Bool.false_eq_true, if_false, if_true]
theorem plainFnExactRoundWholes : ∀ (x0 : Ty.D (.pr (.bool) (.sl (.int .i64)))) (x1 : Ty.D (.pr (.bool) (.sl (.int .i64)))), WfD (.pr (.bool) (.sl (.int .i64))) x0 → WfD (.pr (.bool) (.sl (.int .i64))) x1 → ∃ n, (run tb orc n).pure 14 [enc (.pr (.bool) (.sl (.int .i64))) x0, enc (.pr (.bool) (.sl (.int .i64))) x1] = some (true : Bool) := by
  rintro ⟨s1, a⟩ ⟨s2, b⟩ h1 h2
  exact ⟨Big + 16, lawRound_at (Nat.le_refl _) s1 a s2 b h1.2.1 h2.2.1⟩
end Go.Proofs.Ytnlgciomdghfiaa.Fw

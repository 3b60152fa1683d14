/- What the laws' small functions of whole numbers answer. -/
import Derived.Test.YthanbjnpfenniaaDoorPLaws
import Derived.Test.YthanbjnpfenniaaDoorEqAW
namespace Go.Proofs.YthanbjnpfenniaaDoor.Fw
open Go Go.RowKit
set_option linter.unusedVariables false

theorem szWhole_ret {n : Nat} (hn : Big + 2 ≤ n) {b : Bool} {l : List Int} {a : Int} (hl : l.length ≤ 9223372036854775807) (h0 : 0 ≤ a) (h1 : a ≤ 1048576) : c_laws_szWhole (run tb orc n) b l a = some (if a - (l.length : Int) < 0 then (-1 : Int) else a - (l.length : Int)) := by
  obtain ⟨n, rfl, hn⟩ := up hn
  rw [laws_szWhole_eq]; unfold laws_szWhole_f laws_szWhole_x
  rw [szIntS_ret (by omega) hl h0 h1]
  simp only [Option.bind_some]
  by_cases h : a - (l.length : Int) < 0
  · rw [if_pos h]; rfl
  · rw [if_neg h, if_neg h]
theorem toWhole_ret {n : Nat} (hn : Big + 2 ≤ n) {b : Bool} {l : List Int} (hl : l.length < 1099511627776) : c_laws_toWhole (run tb orc n) b l = some (b, l) := by
  obtain ⟨n, rfl, hn⟩ := up hn
  rw [laws_toWhole_eq]; unfold laws_toWhole_f laws_toWhole_x
  rw [toIntS_ret (by omega) hl]
  rfl
theorem eqWhole_ret {n : Nat} (hn : Big + 2 ≤ n) {n1 n2 : Bool} {a b : List Int} (ha : a.length < 1099511627776) : c_laws_eqWhole (run tb orc n) n1 a n2 b = some (decide (n1 = n2 ∧ a = b)) := by
  obtain ⟨n, rfl, hn⟩ := up hn
  rw [laws_eqWhole_eq]; unfold laws_eqWhole_f laws_eqWhole_x
  rw [eqIntS_ret (by omega) ha]
  simp only [Option.bind_some]
  by_cases h : n1 = n2
  · subst h
    by_cases he : a = b
    · subst he; simp
    · simp [he]
  · have : (n1 != n2) = true := by simpa using h
    rw [if_pos this]; simp [h]
theorem eqWhole_self {n : Nat} (hn : Big + 2 ≤ n) {b : Bool} {a : List Int} (ha : a.length < 1099511627776) : c_laws_eqWhole (run tb orc n) b a b a = some true := by
  rw [eqWhole_ret hn ha]; simp
end Go.Proofs.YthanbjnpfenniaaDoor.Fw

/- A signed whole number modulo a word: the specification. -/
import Derived.Test.YthanbjnpfenniaaDoorPRes
namespace Go.Proofs.YthanbjnpfenniaaDoor.Fw
open Go Go.RowKit Go.Proofs.YthanbjnpfenniaaDoor.Limbs
set_option linter.unusedVariables false

theorem l2Modulo_ret {n : Nat} (hn : Big + 2 ≤ n) {p : Int} (hp : 0 < p) (hp' : p ≤ 268435456) {s : Bool} {l : List Int} (hl : Ok l) (hL : l.length < 1099511627776) : c_spec_l2Modulo (run tb orc n) s l p = some (resP p s l) := by
  obtain ⟨n, rfl, hq⟩ := up (k := 1) hn
  have rr := wordM_rng hp l
  rw [spec_l2Modulo_eq]; unfold spec_l2Modulo_f spec_l2Modulo_x
  rw [l2Word_ret hq hp hp' hl hL]
  simp only [Option.bind_some]
  unfold resP
  cases s with
  | true =>
    rw [if_pos rfl, if_pos rfl, neg_res hp rr.1 rr.2]
    by_cases c : wordM p l > 0
    · rw [if_pos c, if_pos c, w64 (by omega) (by omega)]
    · rw [if_neg c, if_neg c]
  | false => rw [if_neg (by simp), if_neg (by simp)]
end Go.Proofs.YthanbjnpfenniaaDoor.Fw

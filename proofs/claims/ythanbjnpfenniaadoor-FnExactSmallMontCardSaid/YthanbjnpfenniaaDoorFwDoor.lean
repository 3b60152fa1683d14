/- What the listed package variable holds, for the interpreter: out of the row's condition. -/
import Derived.Test.YthanbjnpfenniaaDoorRows
import Derived.Test.YthanbjnpfenniaaDoorFwZf
import Derived.Lib.LaidTab
import Derived.MakeChecks
namespace Go.Proofs.YthanbjnpfenniaaDoor.Fw
open Go Go.RowKit
set_option linter.unusedVariables false
theorem gl_ok {W : World} (h : laidMetH Tryd.prog [("math/bits.deBruijn64tab", Rows.laid_math_bits_deBruijn64tab)] W) : GlOk (inHeap W) W := by
  rw [MakeChecks.laidMetH_plain _ _ _ (by kernel_rfl)] at h
  have hg : Tryd.prog.globalNamed "math/bits.deBruijn64tab" = some 0 := by kernel_rfl
  have ht := Go.Lib.tabIs_of_head (g := 0) (t := 161) (e := 5) (n := 64) (k := .u8) (zs := gl0) (rest := []) hg (by kernel_rfl) Tryd.underlying161 Tryd.underlying5 (by kernel_rfl) (by kernel_rfl) h
  have hlen : gl0.length = 64 := rfl
  have hin : 0 < W.heap.size := by
    have := ht.cell hg 0 (by rw [hlen]; decide)
    simp only [World.cell?] at this
    rcases Nat.lt_or_ge 0 W.heap.size with h' | h'
    · exact h'
    · rw [Array.getElem?_eq_none h'] at this; cases this
  have key : ∀ (i : Nat) x, gl0[i]? = some x → W.cell? ⟨0, i, none⟩ = some (.int .u8 x) := by
    intro i x hx
    have hi : i < gl0.length := (List.getElem?_eq_some_iff.1 hx).1
    have := ht.cell hg i hi
    rw [List.getD_eq_getElem?_getD, hx] at this
    exact this
  intro g k l hgl
  unfold glTab at hgl
  split at hgl
  · cases hgl; exact ⟨hin, key⟩
  · cases hgl
end Go.Proofs.YthanbjnpfenniaaDoor.Fw

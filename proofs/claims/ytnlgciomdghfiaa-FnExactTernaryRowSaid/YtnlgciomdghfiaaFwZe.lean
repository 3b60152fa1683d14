/- A law out of the interpreter: its arguments, its answer. -/
import Derived.Test.YtnlgciomdghfiaaFwZd
import Derived.WalkKit
import Derived.WideShapes
namespace Go.Proofs.Ytnlgciomdghfiaa.Fw
open Go Go.RowKit
set_option linter.unusedVariables false

theorem arg_rel {H : Type} {en : TypeId × Value → H} {P : Program} {W : World} {base : Nat} {spare : Nat → Bool} {held : Bool} {ty : Ty} {t : TypeId} {v : Value} {d : DataW H} {p : List MemPlace} (hy : TyIs P ty t) (hv : VOk ty v)
    (h : DataW.Trod en P W base spare held t v d p) : ∃ x : ty.D, RelA (cx0 (inHeap W) (inHeap W) W) (Fw.enc ty x) v ∧ WfD ty x := by
  obtain ⟨fuel, hf⟩ := h
  obtain ⟨x, h1, h2⟩ := trod_D hy hf
  obtain ⟨h3, h4⟩ := RelD.toAVs (C := cx0 (inHeap W) (inHeap W) W) h1
  exact ⟨x, hv.ofCells h3 (by simpa using h1.len) h4, h2⟩
theorem res_bool {fr : Bool} {F : Nat → Prop} {w : World} {b : Bool} {v : Value} {S : List Nat} (h : ResOk fr F w [.bool] b v S) : v = .bool b := by
  obtain ⟨vs, rfl, h⟩ := h
  have one : ∀ {v : Value}, VOk .bool v → v.cells.toList = [.bool b] → v = .bool b := by
    intro v h1 h2
    unfold VOk at h1
    rw [if_neg (by simp [Ty.isPr])] at h1
    cases v <;> first | (simp [Value.oneCell'] at h1; done) | (simp [Value.cells] at h2; try rw [h2]) 
  split at h
  · simp only [RelRs] at h
    obtain ⟨v, rfl, h1, h2⟩ := h
    simp only [RelX] at h2
    exact one h1 h2.1
  · simp only [RelRs] at h
    obtain ⟨v, rfl, h1, h2, _⟩ := h
    simp only [RelD] at h2
    exact one h1 h2
/-- The law is called, and answers true. -/
theorem law_calls {P : Program} {T : Tb} {f : FuncId} {args : List AV} {vals : List Value} {W : World} {d : DL (T.rs f)} (h : PureOk P T f args d) (hr : RelL (cx0 (inHeap W) (inHeap W) W) args vals) (hrs : ∀ fr F w v S, ResOk fr F w (T.rs f) d v S → v = .bool true) :
    Calls P f vals.toArray W fun e W' => e = .returned (.bool true) ∧ Below W.heap.size W W' := by
  refine (h W (inHeap W) (inHeap W) vals (fun _ h => h) (fun _ h => h) hr).2.mono fun e W' he => ?_
  obtain ⟨v, rfl, bel, F', S, _, _, hres, _⟩ := he
  exact ⟨by rw [hrs _ _ _ _ _ hres], bel⟩
end Go.Proofs.Ytnlgciomdghfiaa.Fw

/- An append whose source bears another name for the same kind of slice: it does what the plain append does. -/
import Derived.Test.YtajlgfjmocgoeaaWWords
import Derived.Test.YtajlgfjmocgoeaaWMore
namespace Go.Proofs.Ytajlgfjmocgoeaa.AppendTwo
open Go.RowKit Go.Proofs.YtajlgfjmocgoeaaW.PrintWords Go.Proofs.YtajlgfjmocgoeaaW.PrintLast Go.Proofs.YtajlgfjmocgoeaaW.PrintMore
set_option linter.unusedSimpArgs false

theorem append_two {P : Program} {w : World} {t u ty : TypeId} {e e2 : TypeId} {A B : Option Addr} {l c m k : Nat} (ht : P.underlying t = some (.slice e)) (hu : P.underlying u = some (.slice e2)) :
    (Builtin.append_ #[t, u] ty #[.slice A l c, .slice B m k]).run P w = (Builtin.append_ #[t, t] ty #[.slice A l c, .slice B m k]).run P w := by
  simp [Builtin.append_, Sem.run_bind, run_underlying ht, run_underlying hu]

section
variable {P : Program} {ops : Array Oper} {o : Oper} {a : Act} {Kc : Act → World → Prop} {Q : Exit → Act → World → Prop} {α : Type}
theorem R_append_rows_step2 (d : Kd α) {Rr : α → List Value → Prop} {w0 W : World} (base : Nat) (hw : Region.wanted o (yielded ops a.tmps) = true) (s x : Operand) (t u e e2 : TypeId) (z : Value) (bytes : Nat)
    (ho : o.op = .call { callee := .builtin .append, args := #[s, x], argTypes := #[t, u] }) (hu : P.underlying u = some (.slice e2))
    (ht : P.underlying t = some (.slice e)) (hinfo : (P.info? e).map (fun i => (i.zero, i.size, i.bytes)) = some (some z, d.sz, bytes)) (hz : z.cells.size = d.sz) (hs0 : 0 < d.sz) (hb0 : 0 < bytes)
    (v : Value) (xs ys : List α) (A : Option Addr) (m c : Nat) (ok okp : Nat → Prop) (hs : a.eval s = v) (hx : a.eval x = .slice A m c)
    (HO : d.R e W base ok v xs) (HR : ReadsRow Rr d.sz W A m ys) (hKM : ∀ x cs, Rr x cs → d.M W base okp x cs) (hokp : ∀ k, okp k → ok k ∧ some k ≠ v.ownBlock) (hfresh : ∀ k, W.heap.size ≤ k → ok k)
    (HB : Below base w0 W) (hbase : base ≤ W.heap.size) (hl : (xs.length + m) * bytes ≤ 140737488355328)
    (h : ∀ v1 w1, d.R e w1 base ok v1 (xs ++ ys) → Below base w0 w1 → W.grownBy w1 v.ownBlock → (v1.ownBlock = v.ownBlock ∨ ∃ b, v1.ownBlock = some b ∧ W.heap.size ≤ b) → Kc (a.put o.dst v1) w1) :
    if Region.wanted o (yielded ops a.tmps) = true then Oper.wp P o a W Kc Q else Kc (a.put o.dst undef) W := by
  have key := Kd.R_append_rows_step (P := P) (ops := ops) (o := { o with op := .call { callee := .builtin .append, args := #[s, x], argTypes := #[t, t] } }) (a := a) (Kc := Kc) (Q := Q)
    d base hw s x t e z bytes rfl ht hinfo hz hs0 hb0 v xs ys A m c ok okp hs hx HO HR hKM hokp hfresh HB hbase hl h
  have hw' : Region.wanted { o with op := .call { callee := .builtin .append, args := #[s, x], argTypes := #[t, t] } } (yielded ops a.tmps) = true := hw
  rw [if_pos hw'] at key
  rw [if_pos hw]
  obtain ⟨A', c', rfl⟩ := Kd.R_slice HO
  unfold Oper.wp execOp at key ⊢
  simp only [ho, resolve, invoke, builtin, Sem.run_bind, Sem.run_pure, Result.andThen_ok, List.map_toArray, List.map_cons, List.map_nil, hs, hx, append_two ht hu] at key ⊢
  exact key
end
end Go.Proofs.Ytajlgfjmocgoeaa.AppendTwo

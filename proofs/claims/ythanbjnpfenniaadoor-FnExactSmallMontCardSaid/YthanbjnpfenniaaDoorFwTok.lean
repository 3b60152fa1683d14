/- The seat's tables are right. Printed by fwtab.py. -/
import Derived.Test.YthanbjnpfenniaaDoorFwZf
import Derived.Test.YthanbjnpfenniaaDoorFwTab
import Derived.KernelRfl
namespace Go.Proofs.YthanbjnpfenniaaDoor.Fw
open Go Go.RowKit
set_option linter.unusedVariables false
set_option maxRecDepth 100000
inductive AllT {β : Type} (p : Nat → β → Prop) : Nat → List (Option β) → Prop
  | e {k : Nat} : AllT p k []
  | n {k : Nat} {r : List (Option β)} : AllT p (k + 1) r → AllT p k (none :: r)
  | s {k : Nat} {x : β} {r : List (Option β)} : p k x → AllT p (k + 1) r → AllT p k (some x :: r)
theorem AllT.get {β : Type} {p : Nat → β → Prop} : ∀ {l : List (Option β)} {k : Nat}, AllT p k l → ∀ (i : Nat) (x : β), l.getD i none = some x → p (k + i) x
  | _, k, .e, i, x, h => by simp at h
  | _, k, .n hr, 0, x, h => by simp at h
  | _, k, .n hr, i + 1, x, h => by have := hr.get i x (by simpa using h); rwa [show k + 1 + i = k + (i + 1) by omega] at this
  | _, k, .s hx hr, 0, x, h => by simp at h; subst h; exact hx
  | _, k, .s hx hr, i + 1, x, h => by have := hr.get i x (by simpa using h); rwa [show k + 1 + i = k + (i + 1) by omega] at this
theorem nm_ok {l : List Field} (h : (l.all fun f => !(f.name == "_")) = true) : ∀ f ∈ l, (f.name == "_") = false := fun f hf => by simpa using List.all_eq_true.1 h f hf
theorem ti1_ok : TiOk Tryd.prog 1 ti1 := ⟨⟨Tryd.t1, _, Tryd.type1, rfl, rfl, rfl, by kernel_rfl, rfl⟩, ⟨_, Tryd.underlying1, rfl⟩, fun _ => rfl⟩
theorem ti2_ok : TiOk Tryd.prog 2 ti2 := ⟨⟨Tryd.t2, _, Tryd.type2, rfl, rfl, rfl, by kernel_rfl, rfl⟩, Tryd.underlying2, fun _ => rfl⟩
theorem ti3_ok : TiOk Tryd.prog 3 ti3 := ⟨⟨Tryd.t3, _, Tryd.type3, rfl, rfl, rfl, by kernel_rfl, rfl⟩, Tryd.underlying3, fun _ => rfl⟩
theorem ti4_ok : TiOk Tryd.prog 4 ti4 := ⟨⟨Tryd.t4, _, Tryd.type4, rfl, rfl, rfl, by kernel_rfl, rfl⟩, Tryd.underlying4, fun _ => rfl⟩
theorem ti5_ok : TiOk Tryd.prog 5 ti5 := ⟨⟨Tryd.t5, _, Tryd.type5, rfl, rfl, rfl, by kernel_rfl, rfl⟩, Tryd.underlying5, fun _ => rfl⟩
theorem ti9_ok : TiOk Tryd.prog 9 ti9 := ⟨⟨Tryd.t9, _, Tryd.type9, rfl, rfl, rfl, by kernel_rfl, rfl⟩, Tryd.underlying9, fun _ => rfl⟩
theorem ti12_ok : TiOk Tryd.prog 12 ti12 := ⟨⟨Tryd.t12, _, Tryd.type12, rfl, rfl, rfl, by kernel_rfl, rfl⟩, Tryd.underlying12, fun _ => rfl⟩
theorem ti22_ok : TiOk Tryd.prog 22 ti22 := ⟨⟨Tryd.t22, _, Tryd.type22, rfl, rfl, rfl, by kernel_rfl, rfl⟩, Tryd.underlying22, fun _ => rfl⟩
theorem ti23_ok : TiOk Tryd.prog 23 ti23 := ⟨⟨Tryd.t23, _, Tryd.type23, rfl, rfl, rfl, by kernel_rfl, rfl⟩, Tryd.underlying23, fun _ => rfl⟩
theorem ti33_ok : TiOk Tryd.prog 33 ti33 := ⟨⟨Tryd.t33, _, Tryd.type33, rfl, rfl, rfl, by kernel_rfl, rfl⟩, ⟨_, Tryd.underlying33, rfl, nm_ok (by kernel_rfl), Tryd.stoodInHeld33⟩, fun h => nomatch h⟩
theorem ti36_ok : TiOk Tryd.prog 36 ti36 := ⟨⟨Tryd.t36, _, Tryd.type36, rfl, rfl, rfl, by kernel_rfl, rfl⟩, ⟨_, Tryd.underlying36, rfl, nm_ok (by kernel_rfl), Tryd.stoodInHeld36⟩, fun h => nomatch h⟩
theorem ti40_ok : TiOk Tryd.prog 40 ti40 := ⟨⟨Tryd.t40, _, Tryd.type40, rfl, rfl, rfl, by kernel_rfl, rfl⟩, ⟨_, Tryd.underlying40, rfl, nm_ok (by kernel_rfl), Tryd.stoodInHeld40⟩, fun h => nomatch h⟩
theorem ti41_ok : TiOk Tryd.prog 41 ti41 := ⟨⟨Tryd.t41, _, Tryd.type41, rfl, rfl, rfl, by kernel_rfl, rfl⟩, Tryd.underlying41, fun _ => rfl⟩
theorem ti43_ok : TiOk Tryd.prog 43 ti43 := ⟨⟨Tryd.t43, _, Tryd.type43, rfl, rfl, rfl, by kernel_rfl, rfl⟩, ⟨_, Tryd.underlying43, rfl, nm_ok (by kernel_rfl), Tryd.stoodInHeld43⟩, fun h => nomatch h⟩
theorem ti46_ok : TiOk Tryd.prog 46 ti46 := ⟨⟨Tryd.t46, _, Tryd.type46, rfl, rfl, rfl, by kernel_rfl, rfl⟩, ⟨_, Tryd.underlying46, rfl, nm_ok (by kernel_rfl), Tryd.stoodInHeld46⟩, fun h => nomatch h⟩
theorem ti49_ok : TiOk Tryd.prog 49 ti49 := ⟨⟨Tryd.t49, _, Tryd.type49, rfl, rfl, rfl, by kernel_rfl, rfl⟩, ⟨_, Tryd.underlying49, rfl, nm_ok (by kernel_rfl), Tryd.stoodInHeld49⟩, fun h => nomatch h⟩
theorem ti59_ok : TiOk Tryd.prog 59 ti59 := ⟨⟨Tryd.t59, _, Tryd.type59, rfl, rfl, rfl, by kernel_rfl, rfl⟩, Tryd.underlying59, fun _ => rfl⟩
theorem ti67_ok : TiOk Tryd.prog 67 ti67 := ⟨⟨Tryd.t67, _, Tryd.type67, rfl, rfl, rfl, by kernel_rfl, rfl⟩, ⟨_, Tryd.underlying67, rfl, nm_ok (by kernel_rfl), Tryd.stoodInHeld67⟩, fun h => nomatch h⟩
theorem ti70_ok : TiOk Tryd.prog 70 ti70 := ⟨⟨Tryd.t70, _, Tryd.type70, rfl, rfl, rfl, by kernel_rfl, rfl⟩, ⟨_, Tryd.underlying70, rfl, nm_ok (by kernel_rfl), Tryd.stoodInHeld70⟩, fun h => nomatch h⟩
theorem ti81_ok : TiOk Tryd.prog 81 ti81 := ⟨⟨Tryd.t81, _, Tryd.type81, rfl, rfl, rfl, by kernel_rfl, rfl⟩, Tryd.underlying81, fun _ => rfl⟩
theorem ti84_ok : TiOk Tryd.prog 84 ti84 := ⟨⟨Tryd.t84, _, Tryd.type84, rfl, rfl, rfl, by kernel_rfl, rfl⟩, ⟨_, Tryd.underlying84, rfl, nm_ok (by kernel_rfl), Tryd.stoodInHeld84⟩, fun h => nomatch h⟩
theorem ti102_ok : TiOk Tryd.prog 102 ti102 := ⟨⟨Tryd.t102, _, Tryd.type102, rfl, rfl, rfl, by kernel_rfl, rfl⟩, ⟨_, Tryd.underlying102, rfl⟩, fun _ => rfl⟩
theorem ti104_ok : TiOk Tryd.prog 104 ti104 := ⟨⟨Tryd.t104, _, Tryd.type104, rfl, rfl, rfl, by kernel_rfl, rfl⟩, Tryd.underlying104, fun _ => rfl⟩
theorem ti105_ok : TiOk Tryd.prog 105 ti105 := ⟨⟨Tryd.t105, _, Tryd.type105, rfl, rfl, rfl, by kernel_rfl, rfl⟩, ⟨_, Tryd.underlying105, rfl⟩, fun _ => rfl⟩
theorem ti112_ok : TiOk Tryd.prog 112 ti112 := ⟨⟨Tryd.t112, _, Tryd.type112, rfl, rfl, rfl, by kernel_rfl, rfl⟩, ⟨_, Tryd.underlying112, rfl⟩, fun _ => rfl⟩
theorem ti117_ok : TiOk Tryd.prog 117 ti117 := ⟨⟨Tryd.t117, _, Tryd.type117, rfl, rfl, rfl, by kernel_rfl, rfl⟩, ⟨_, Tryd.underlying117, rfl⟩, fun _ => rfl⟩
theorem ti129_ok : TiOk Tryd.prog 129 ti129 := ⟨⟨Tryd.t129, _, Tryd.type129, rfl, rfl, rfl, by kernel_rfl, rfl⟩, Tryd.underlying129, fun _ => rfl⟩
theorem ti143_ok : TiOk Tryd.prog 143 ti143 := ⟨⟨Tryd.t143, _, Tryd.type143, rfl, rfl, rfl, by kernel_rfl, rfl⟩, Tryd.underlying143, fun _ => rfl⟩
theorem ti144_ok : TiOk Tryd.prog 144 ti144 := ⟨⟨Tryd.t144, _, Tryd.type144, rfl, rfl, rfl, by kernel_rfl, rfl⟩, Tryd.underlying144, fun _ => rfl⟩
theorem ti146_ok : TiOk Tryd.prog 146 ti146 := ⟨⟨Tryd.t146, _, Tryd.type146, rfl, rfl, rfl, by kernel_rfl, rfl⟩, Tryd.underlying146, fun _ => rfl⟩
theorem ti152_ok : TiOk Tryd.prog 152 ti152 := ⟨⟨Tryd.t152, _, Tryd.type152, rfl, rfl, rfl, by kernel_rfl, rfl⟩, ⟨_, Tryd.underlying152, rfl⟩, fun _ => rfl⟩
theorem ti155_ok : TiOk Tryd.prog 155 ti155 := ⟨⟨Tryd.t155, _, Tryd.type155, rfl, rfl, rfl, by kernel_rfl, rfl⟩, Tryd.underlying155, fun h => nomatch h⟩
theorem ti160_ok : TiOk Tryd.prog 160 ti160 := ⟨⟨Tryd.t160, _, Tryd.type160, rfl, rfl, rfl, by kernel_rfl, rfl⟩, Tryd.underlying160, fun _ => rfl⟩
theorem ti161_ok : TiOk Tryd.prog 161 ti161 := ⟨⟨Tryd.t161, _, Tryd.type161, rfl, rfl, rfl, by kernel_rfl, rfl⟩, Tryd.underlying161, fun h => nomatch h⟩
theorem tyTab_ok : AllT (TiOk Tryd.prog) 0 tyTab := .n (.s (ti1_ok) (.s (ti2_ok) (.s (ti3_ok) (.s (ti4_ok) (.s (ti5_ok) (.n (.n (.n (.s (ti9_ok) (.n (.n (.s (ti12_ok) (.n (.n (.n (.n (.n (.n (.n (.n (.n (.s (ti22_ok) (.s (ti23_ok) (.n (.n (.n (.n (.n (.n (.n (.n (.n (.s (ti33_ok) (.n (.n (.s (ti36_ok) (.n (.n (.n (.s (ti40_ok) (.s (ti41_ok) (.n (.s (ti43_ok) (.n (.n (.s (ti46_ok) (.n (.n (.s (ti49_ok) (.n (.n (.n (.n (.n (.n (.n (.n (.n (.s (ti59_ok) (.n (.n (.n (.n (.n (.n (.n (.s (ti67_ok) (.n (.n (.s (ti70_ok) (.n (.n (.n (.n (.n (.n (.n (.n (.n (.n (.s (ti81_ok) (.n (.n (.s (ti84_ok) (.n (.n (.n (.n (.n (.n (.n (.n (.n (.n (.n (.n (.n (.n (.n (.n (.n (.s (ti102_ok) (.n (.s (ti104_ok) (.s (ti105_ok) (.n (.n (.n (.n (.n (.n (.s (ti112_ok) (.n (.n (.n (.n (.s (ti117_ok) (.n (.n (.n (.n (.n (.n (.n (.n (.n (.n (.n (.s (ti129_ok) (.n (.n (.n (.n (.n (.n (.n (.n (.n (.n (.n (.n (.n (.s (ti143_ok) (.s (ti144_ok) (.n (.s (ti146_ok) (.n (.n (.n (.n (.n (.s (ti152_ok) (.n (.n (.s (ti155_ok) (.n (.n (.n (.n (.s (ti160_ok) (.s (ti161_ok) (.e))))))))))))))))))))))))))))))))))))))))))))))))))))))))))))))))))))))))))))))))))))))))))))))))))))))))))))))))))))))))))))))))))))))))))))))))))))))))))))))))))
def DtOk (t : TypeId) (d : Ty) : Prop := (fun t d => ∃ i q z, tyTab.getD t none = some i ∧ i.size = d.size ∧ i.bytes ≤ 128 ∧ i.k.isAgg = d.isPr ∧ Tryd.prog.info? t = some q ∧ q.size = d.size ∧ q.bytes = i.bytes ∧ q.zero = some z ∧ dfltOk d z.cells.toList = true) t d
theorem dt2_ok : DtOk 2 (.int .i64) := ⟨ti2, Tryd.t2, _, rfl, rfl, by decide, rfl, Tryd.type2, rfl, rfl, rfl, by kernel_rfl⟩
theorem dt3_ok : DtOk 3 (.int .i64) := ⟨ti3, Tryd.t3, _, rfl, rfl, by decide, rfl, Tryd.type3, rfl, rfl, rfl, by kernel_rfl⟩
theorem dt4_ok : DtOk 4 (.bool) := ⟨ti4, Tryd.t4, _, rfl, rfl, by decide, rfl, Tryd.type4, rfl, rfl, rfl, by kernel_rfl⟩
theorem dt5_ok : DtOk 5 (.int .u8) := ⟨ti5, Tryd.t5, _, rfl, rfl, by decide, rfl, Tryd.type5, rfl, rfl, rfl, by kernel_rfl⟩
theorem dt9_ok : DtOk 9 (.str) := ⟨ti9, Tryd.t9, _, rfl, rfl, by decide, rfl, Tryd.type9, rfl, rfl, rfl, by kernel_rfl⟩
theorem dt12_ok : DtOk 12 (.int .u64) := ⟨ti12, Tryd.t12, _, rfl, rfl, by decide, rfl, Tryd.type12, rfl, rfl, rfl, by kernel_rfl⟩
theorem dt22_ok : DtOk 22 (.sl (.int .i64)) := ⟨ti22, Tryd.t22, _, rfl, rfl, by decide, rfl, Tryd.type22, rfl, rfl, rfl, by kernel_rfl⟩
theorem dt23_ok : DtOk 23 (.sl (.pr (.bool) (.sl (.int .i64)))) := ⟨ti23, Tryd.t23, _, rfl, rfl, by decide, rfl, Tryd.type23, rfl, rfl, rfl, by kernel_rfl⟩
theorem dt33_ok : DtOk 33 (.pr (.int .i64) (.pr (.int .i64) (.int .i64))) := ⟨ti33, Tryd.t33, _, rfl, rfl, by decide, rfl, Tryd.type33, rfl, rfl, rfl, by kernel_rfl⟩
theorem dt36_ok : DtOk 36 (.pr (.int .i64) (.pr (.int .i64) (.int .i64))) := ⟨ti36, Tryd.t36, _, rfl, rfl, by decide, rfl, Tryd.type36, rfl, rfl, rfl, by kernel_rfl⟩
theorem dt40_ok : DtOk 40 (.pr (.int .i64) (.sl (.int .i64))) := ⟨ti40, Tryd.t40, _, rfl, rfl, by decide, rfl, Tryd.type40, rfl, rfl, rfl, by kernel_rfl⟩
theorem dt41_ok : DtOk 41 (.sl (.sl (.int .i64))) := ⟨ti41, Tryd.t41, _, rfl, rfl, by decide, rfl, Tryd.type41, rfl, rfl, rfl, by kernel_rfl⟩
theorem dt43_ok : DtOk 43 (.pr (.bool) (.sl (.sl (.int .i64)))) := ⟨ti43, Tryd.t43, _, rfl, rfl, by decide, rfl, Tryd.type43, rfl, rfl, rfl, by kernel_rfl⟩
theorem dt46_ok : DtOk 46 (.pr (.bool) (.sl (.sl (.int .i64)))) := ⟨ti46, Tryd.t46, _, rfl, rfl, by decide, rfl, Tryd.type46, rfl, rfl, rfl, by kernel_rfl⟩
theorem dt49_ok : DtOk 49 (.pr (.int .i64) (.sl (.int .i64))) := ⟨ti49, Tryd.t49, _, rfl, rfl, by decide, rfl, Tryd.type49, rfl, rfl, rfl, by kernel_rfl⟩
theorem dt59_ok : DtOk 59 (.sl (.pr (.bool) (.sl (.int .i64)))) := ⟨ti59, Tryd.t59, _, rfl, rfl, by decide, rfl, Tryd.type59, rfl, rfl, rfl, by kernel_rfl⟩
theorem dt67_ok : DtOk 67 (.pr (.bool) (.sl (.int .i64))) := ⟨ti67, Tryd.t67, _, rfl, rfl, by decide, rfl, Tryd.type67, rfl, rfl, rfl, by kernel_rfl⟩
theorem dt70_ok : DtOk 70 (.pr (.bool) (.sl (.int .i64))) := ⟨ti70, Tryd.t70, _, rfl, rfl, by decide, rfl, Tryd.type70, rfl, rfl, rfl, by kernel_rfl⟩
theorem dt81_ok : DtOk 81 (.sl (.int .i64)) := ⟨ti81, Tryd.t81, _, rfl, rfl, by decide, rfl, Tryd.type81, rfl, rfl, rfl, by kernel_rfl⟩
theorem dt84_ok : DtOk 84 (.pr (.bool) (.sl (.int .i64))) := ⟨ti84, Tryd.t84, _, rfl, rfl, by decide, rfl, Tryd.type84, rfl, rfl, rfl, by kernel_rfl⟩
theorem dt104_ok : DtOk 104 (.sl (.pr (.bool) (.sl (.int .i64)))) := ⟨ti104, Tryd.t104, _, rfl, rfl, by decide, rfl, Tryd.type104, rfl, rfl, rfl, by kernel_rfl⟩
theorem dt129_ok : DtOk 129 (.int .u64) := ⟨ti129, Tryd.t129, _, rfl, rfl, by decide, rfl, Tryd.type129, rfl, rfl, rfl, by kernel_rfl⟩
theorem dt143_ok : DtOk 143 (.int .u64) := ⟨ti143, Tryd.t143, _, rfl, rfl, by decide, rfl, Tryd.type143, rfl, rfl, rfl, by kernel_rfl⟩
theorem dt144_ok : DtOk 144 (.sl (.pr (.int .i64) (.pr (.int .i64) (.int .i64)))) := ⟨ti144, Tryd.t144, _, rfl, rfl, by decide, rfl, Tryd.type144, rfl, rfl, rfl, by kernel_rfl⟩
theorem dt146_ok : DtOk 146 (.sl (.int .u64)) := ⟨ti146, Tryd.t146, _, rfl, rfl, by decide, rfl, Tryd.type146, rfl, rfl, rfl, by kernel_rfl⟩
theorem dt160_ok : DtOk 160 (.int .u32) := ⟨ti160, Tryd.t160, _, rfl, rfl, by decide, rfl, Tryd.type160, rfl, rfl, rfl, by kernel_rfl⟩
theorem dtTab_ok : AllT DtOk 0 dtTab := .n (.n (.s (dt2_ok) (.s (dt3_ok) (.s (dt4_ok) (.s (dt5_ok) (.n (.n (.n (.s (dt9_ok) (.n (.n (.s (dt12_ok) (.n (.n (.n (.n (.n (.n (.n (.n (.n (.s (dt22_ok) (.s (dt23_ok) (.n (.n (.n (.n (.n (.n (.n (.n (.n (.s (dt33_ok) (.n (.n (.s (dt36_ok) (.n (.n (.n (.s (dt40_ok) (.s (dt41_ok) (.n (.s (dt43_ok) (.n (.n (.s (dt46_ok) (.n (.n (.s (dt49_ok) (.n (.n (.n (.n (.n (.n (.n (.n (.n (.s (dt59_ok) (.n (.n (.n (.n (.n (.n (.n (.s (dt67_ok) (.n (.n (.s (dt70_ok) (.n (.n (.n (.n (.n (.n (.n (.n (.n (.n (.s (dt81_ok) (.n (.n (.s (dt84_ok) (.n (.n (.n (.n (.n (.n (.n (.n (.n (.n (.n (.n (.n (.n (.n (.n (.n (.n (.n (.s (dt104_ok) (.n (.n (.n (.n (.n (.n (.n (.n (.n (.n (.n (.n (.n (.n (.n (.n (.n (.n (.n (.n (.n (.n (.n (.n (.s (dt129_ok) (.n (.n (.n (.n (.n (.n (.n (.n (.n (.n (.n (.n (.n (.s (dt143_ok) (.s (dt144_ok) (.n (.s (dt146_ok) (.n (.n (.n (.n (.n (.n (.n (.n (.n (.n (.n (.n (.n (.s (dt160_ok) (.n (.e))))))))))))))))))))))))))))))))))))))))))))))))))))))))))))))))))))))))))))))))))))))))))))))))))))))))))))))))))))))))))))))))))))))))))))))))))))))))))))))))))
def FnOk (f : FuncId) (x : Func) : Prop := Tryd.prog.funcs[f]? = some x ∧ (x.name == "runtime.NumGoroutine") = false ∧ x.body.isNone = false
theorem fn3_ok : FnOk 3 Tryd.f3 := ⟨Tryd.func3, by kernel_rfl, by kernel_rfl⟩
theorem fn4_ok : FnOk 4 Tryd.f4 := ⟨Tryd.func4, by kernel_rfl, by kernel_rfl⟩
theorem fn5_ok : FnOk 5 Tryd.f5 := ⟨Tryd.func5, by kernel_rfl, by kernel_rfl⟩
theorem fn6_ok : FnOk 6 Tryd.f6 := ⟨Tryd.func6, by kernel_rfl, by kernel_rfl⟩
theorem fn7_ok : FnOk 7 Tryd.f7 := ⟨Tryd.func7, by kernel_rfl, by kernel_rfl⟩
theorem fn8_ok : FnOk 8 Tryd.f8 := ⟨Tryd.func8, by kernel_rfl, by kernel_rfl⟩
theorem fn9_ok : FnOk 9 Tryd.f9 := ⟨Tryd.func9, by kernel_rfl, by kernel_rfl⟩
theorem fn10_ok : FnOk 10 Tryd.f10 := ⟨Tryd.func10, by kernel_rfl, by kernel_rfl⟩
theorem fn11_ok : FnOk 11 Tryd.f11 := ⟨Tryd.func11, by kernel_rfl, by kernel_rfl⟩
theorem fn12_ok : FnOk 12 Tryd.f12 := ⟨Tryd.func12, by kernel_rfl, by kernel_rfl⟩
theorem fn13_ok : FnOk 13 Tryd.f13 := ⟨Tryd.func13, by kernel_rfl, by kernel_rfl⟩
theorem fn14_ok : FnOk 14 Tryd.f14 := ⟨Tryd.func14, by kernel_rfl, by kernel_rfl⟩
theorem fn15_ok : FnOk 15 Tryd.f15 := ⟨Tryd.func15, by kernel_rfl, by kernel_rfl⟩
theorem fn16_ok : FnOk 16 Tryd.f16 := ⟨Tryd.func16, by kernel_rfl, by kernel_rfl⟩
theorem fn17_ok : FnOk 17 Tryd.f17 := ⟨Tryd.func17, by kernel_rfl, by kernel_rfl⟩
theorem fn18_ok : FnOk 18 Tryd.f18 := ⟨Tryd.func18, by kernel_rfl, by kernel_rfl⟩
theorem fn19_ok : FnOk 19 Tryd.f19 := ⟨Tryd.func19, by kernel_rfl, by kernel_rfl⟩
theorem fn20_ok : FnOk 20 Tryd.f20 := ⟨Tryd.func20, by kernel_rfl, by kernel_rfl⟩
theorem fn21_ok : FnOk 21 Tryd.f21 := ⟨Tryd.func21, by kernel_rfl, by kernel_rfl⟩
theorem fn22_ok : FnOk 22 Tryd.f22 := ⟨Tryd.func22, by kernel_rfl, by kernel_rfl⟩
theorem fn23_ok : FnOk 23 Tryd.f23 := ⟨Tryd.func23, by kernel_rfl, by kernel_rfl⟩
theorem fn24_ok : FnOk 24 Tryd.f24 := ⟨Tryd.func24, by kernel_rfl, by kernel_rfl⟩
theorem fn25_ok : FnOk 25 Tryd.f25 := ⟨Tryd.func25, by kernel_rfl, by kernel_rfl⟩
theorem fn26_ok : FnOk 26 Tryd.f26 := ⟨Tryd.func26, by kernel_rfl, by kernel_rfl⟩
theorem fn27_ok : FnOk 27 Tryd.f27 := ⟨Tryd.func27, by kernel_rfl, by kernel_rfl⟩
theorem fn28_ok : FnOk 28 Tryd.f28 := ⟨Tryd.func28, by kernel_rfl, by kernel_rfl⟩
theorem fn29_ok : FnOk 29 Tryd.f29 := ⟨Tryd.func29, by kernel_rfl, by kernel_rfl⟩
theorem fn30_ok : FnOk 30 Tryd.f30 := ⟨Tryd.func30, by kernel_rfl, by kernel_rfl⟩
theorem fn31_ok : FnOk 31 Tryd.f31 := ⟨Tryd.func31, by kernel_rfl, by kernel_rfl⟩
theorem fn32_ok : FnOk 32 Tryd.f32 := ⟨Tryd.func32, by kernel_rfl, by kernel_rfl⟩
theorem fn33_ok : FnOk 33 Tryd.f33 := ⟨Tryd.func33, by kernel_rfl, by kernel_rfl⟩
theorem fn34_ok : FnOk 34 Tryd.f34 := ⟨Tryd.func34, by kernel_rfl, by kernel_rfl⟩
theorem fn35_ok : FnOk 35 Tryd.f35 := ⟨Tryd.func35, by kernel_rfl, by kernel_rfl⟩
theorem fn36_ok : FnOk 36 Tryd.f36 := ⟨Tryd.func36, by kernel_rfl, by kernel_rfl⟩
theorem fn37_ok : FnOk 37 Tryd.f37 := ⟨Tryd.func37, by kernel_rfl, by kernel_rfl⟩
theorem fn38_ok : FnOk 38 Tryd.f38 := ⟨Tryd.func38, by kernel_rfl, by kernel_rfl⟩
theorem fn39_ok : FnOk 39 Tryd.f39 := ⟨Tryd.func39, by kernel_rfl, by kernel_rfl⟩
theorem fn40_ok : FnOk 40 Tryd.f40 := ⟨Tryd.func40, by kernel_rfl, by kernel_rfl⟩
theorem fn41_ok : FnOk 41 Tryd.f41 := ⟨Tryd.func41, by kernel_rfl, by kernel_rfl⟩
theorem fn42_ok : FnOk 42 Tryd.f42 := ⟨Tryd.func42, by kernel_rfl, by kernel_rfl⟩
theorem fn43_ok : FnOk 43 Tryd.f43 := ⟨Tryd.func43, by kernel_rfl, by kernel_rfl⟩
theorem fn44_ok : FnOk 44 Tryd.f44 := ⟨Tryd.func44, by kernel_rfl, by kernel_rfl⟩
theorem fn45_ok : FnOk 45 Tryd.f45 := ⟨Tryd.func45, by kernel_rfl, by kernel_rfl⟩
theorem fn46_ok : FnOk 46 Tryd.f46 := ⟨Tryd.func46, by kernel_rfl, by kernel_rfl⟩
theorem fn47_ok : FnOk 47 Tryd.f47 := ⟨Tryd.func47, by kernel_rfl, by kernel_rfl⟩
theorem fn48_ok : FnOk 48 Tryd.f48 := ⟨Tryd.func48, by kernel_rfl, by kernel_rfl⟩
theorem fn49_ok : FnOk 49 Tryd.f49 := ⟨Tryd.func49, by kernel_rfl, by kernel_rfl⟩
theorem fn50_ok : FnOk 50 Tryd.f50 := ⟨Tryd.func50, by kernel_rfl, by kernel_rfl⟩
theorem fn51_ok : FnOk 51 Tryd.f51 := ⟨Tryd.func51, by kernel_rfl, by kernel_rfl⟩
theorem fn52_ok : FnOk 52 Tryd.f52 := ⟨Tryd.func52, by kernel_rfl, by kernel_rfl⟩
theorem fn53_ok : FnOk 53 Tryd.f53 := ⟨Tryd.func53, by kernel_rfl, by kernel_rfl⟩
theorem fn54_ok : FnOk 54 Tryd.f54 := ⟨Tryd.func54, by kernel_rfl, by kernel_rfl⟩
theorem fn55_ok : FnOk 55 Tryd.f55 := ⟨Tryd.func55, by kernel_rfl, by kernel_rfl⟩
theorem fn56_ok : FnOk 56 Tryd.f56 := ⟨Tryd.func56, by kernel_rfl, by kernel_rfl⟩
theorem fn57_ok : FnOk 57 Tryd.f57 := ⟨Tryd.func57, by kernel_rfl, by kernel_rfl⟩
theorem fn58_ok : FnOk 58 Tryd.f58 := ⟨Tryd.func58, by kernel_rfl, by kernel_rfl⟩
theorem fn59_ok : FnOk 59 Tryd.f59 := ⟨Tryd.func59, by kernel_rfl, by kernel_rfl⟩
theorem fn60_ok : FnOk 60 Tryd.f60 := ⟨Tryd.func60, by kernel_rfl, by kernel_rfl⟩
theorem fn61_ok : FnOk 61 Tryd.f61 := ⟨Tryd.func61, by kernel_rfl, by kernel_rfl⟩
theorem fn62_ok : FnOk 62 Tryd.f62 := ⟨Tryd.func62, by kernel_rfl, by kernel_rfl⟩
theorem fn63_ok : FnOk 63 Tryd.f63 := ⟨Tryd.func63, by kernel_rfl, by kernel_rfl⟩
theorem fn64_ok : FnOk 64 Tryd.f64 := ⟨Tryd.func64, by kernel_rfl, by kernel_rfl⟩
theorem fn65_ok : FnOk 65 Tryd.f65 := ⟨Tryd.func65, by kernel_rfl, by kernel_rfl⟩
theorem fn66_ok : FnOk 66 Tryd.f66 := ⟨Tryd.func66, by kernel_rfl, by kernel_rfl⟩
theorem fn67_ok : FnOk 67 Tryd.f67 := ⟨Tryd.func67, by kernel_rfl, by kernel_rfl⟩
theorem fn68_ok : FnOk 68 Tryd.f68 := ⟨Tryd.func68, by kernel_rfl, by kernel_rfl⟩
theorem fn69_ok : FnOk 69 Tryd.f69 := ⟨Tryd.func69, by kernel_rfl, by kernel_rfl⟩
theorem fn70_ok : FnOk 70 Tryd.f70 := ⟨Tryd.func70, by kernel_rfl, by kernel_rfl⟩
theorem fn71_ok : FnOk 71 Tryd.f71 := ⟨Tryd.func71, by kernel_rfl, by kernel_rfl⟩
theorem fn72_ok : FnOk 72 Tryd.f72 := ⟨Tryd.func72, by kernel_rfl, by kernel_rfl⟩
theorem fn73_ok : FnOk 73 Tryd.f73 := ⟨Tryd.func73, by kernel_rfl, by kernel_rfl⟩
theorem fn74_ok : FnOk 74 Tryd.f74 := ⟨Tryd.func74, by kernel_rfl, by kernel_rfl⟩
theorem fn75_ok : FnOk 75 Tryd.f75 := ⟨Tryd.func75, by kernel_rfl, by kernel_rfl⟩
theorem fn76_ok : FnOk 76 Tryd.f76 := ⟨Tryd.func76, by kernel_rfl, by kernel_rfl⟩
theorem fn77_ok : FnOk 77 Tryd.f77 := ⟨Tryd.func77, by kernel_rfl, by kernel_rfl⟩
theorem fn78_ok : FnOk 78 Tryd.f78 := ⟨Tryd.func78, by kernel_rfl, by kernel_rfl⟩
theorem fn79_ok : FnOk 79 Tryd.f79 := ⟨Tryd.func79, by kernel_rfl, by kernel_rfl⟩
theorem fn80_ok : FnOk 80 Tryd.f80 := ⟨Tryd.func80, by kernel_rfl, by kernel_rfl⟩
theorem fn81_ok : FnOk 81 Tryd.f81 := ⟨Tryd.func81, by kernel_rfl, by kernel_rfl⟩
theorem fn82_ok : FnOk 82 Tryd.f82 := ⟨Tryd.func82, by kernel_rfl, by kernel_rfl⟩
theorem fn83_ok : FnOk 83 Tryd.f83 := ⟨Tryd.func83, by kernel_rfl, by kernel_rfl⟩
theorem fn84_ok : FnOk 84 Tryd.f84 := ⟨Tryd.func84, by kernel_rfl, by kernel_rfl⟩
theorem fn85_ok : FnOk 85 Tryd.f85 := ⟨Tryd.func85, by kernel_rfl, by kernel_rfl⟩
theorem fn86_ok : FnOk 86 Tryd.f86 := ⟨Tryd.func86, by kernel_rfl, by kernel_rfl⟩
theorem fn87_ok : FnOk 87 Tryd.f87 := ⟨Tryd.func87, by kernel_rfl, by kernel_rfl⟩
theorem fn88_ok : FnOk 88 Tryd.f88 := ⟨Tryd.func88, by kernel_rfl, by kernel_rfl⟩
theorem fn89_ok : FnOk 89 Tryd.f89 := ⟨Tryd.func89, by kernel_rfl, by kernel_rfl⟩
theorem fn90_ok : FnOk 90 Tryd.f90 := ⟨Tryd.func90, by kernel_rfl, by kernel_rfl⟩
theorem fn91_ok : FnOk 91 Tryd.f91 := ⟨Tryd.func91, by kernel_rfl, by kernel_rfl⟩
theorem fn92_ok : FnOk 92 Tryd.f92 := ⟨Tryd.func92, by kernel_rfl, by kernel_rfl⟩
theorem fn93_ok : FnOk 93 Tryd.f93 := ⟨Tryd.func93, by kernel_rfl, by kernel_rfl⟩
theorem fn94_ok : FnOk 94 Tryd.f94 := ⟨Tryd.func94, by kernel_rfl, by kernel_rfl⟩
theorem fn95_ok : FnOk 95 Tryd.f95 := ⟨Tryd.func95, by kernel_rfl, by kernel_rfl⟩
theorem fn96_ok : FnOk 96 Tryd.f96 := ⟨Tryd.func96, by kernel_rfl, by kernel_rfl⟩
theorem fn97_ok : FnOk 97 Tryd.f97 := ⟨Tryd.func97, by kernel_rfl, by kernel_rfl⟩
theorem fn98_ok : FnOk 98 Tryd.f98 := ⟨Tryd.func98, by kernel_rfl, by kernel_rfl⟩
theorem fn99_ok : FnOk 99 Tryd.f99 := ⟨Tryd.func99, by kernel_rfl, by kernel_rfl⟩
theorem fn100_ok : FnOk 100 Tryd.f100 := ⟨Tryd.func100, by kernel_rfl, by kernel_rfl⟩
theorem fn101_ok : FnOk 101 Tryd.f101 := ⟨Tryd.func101, by kernel_rfl, by kernel_rfl⟩
theorem fn102_ok : FnOk 102 Tryd.f102 := ⟨Tryd.func102, by kernel_rfl, by kernel_rfl⟩
theorem fn103_ok : FnOk 103 Tryd.f103 := ⟨Tryd.func103, by kernel_rfl, by kernel_rfl⟩
theorem fn104_ok : FnOk 104 Tryd.f104 := ⟨Tryd.func104, by kernel_rfl, by kernel_rfl⟩
theorem fn105_ok : FnOk 105 Tryd.f105 := ⟨Tryd.func105, by kernel_rfl, by kernel_rfl⟩
theorem fn106_ok : FnOk 106 Tryd.f106 := ⟨Tryd.func106, by kernel_rfl, by kernel_rfl⟩
theorem fn107_ok : FnOk 107 Tryd.f107 := ⟨Tryd.func107, by kernel_rfl, by kernel_rfl⟩
theorem fn108_ok : FnOk 108 Tryd.f108 := ⟨Tryd.func108, by kernel_rfl, by kernel_rfl⟩
theorem fn109_ok : FnOk 109 Tryd.f109 := ⟨Tryd.func109, by kernel_rfl, by kernel_rfl⟩
theorem fn110_ok : FnOk 110 Tryd.f110 := ⟨Tryd.func110, by kernel_rfl, by kernel_rfl⟩
theorem fn111_ok : FnOk 111 Tryd.f111 := ⟨Tryd.func111, by kernel_rfl, by kernel_rfl⟩
theorem fn112_ok : FnOk 112 Tryd.f112 := ⟨Tryd.func112, by kernel_rfl, by kernel_rfl⟩
theorem fn113_ok : FnOk 113 Tryd.f113 := ⟨Tryd.func113, by kernel_rfl, by kernel_rfl⟩
theorem fn114_ok : FnOk 114 Tryd.f114 := ⟨Tryd.func114, by kernel_rfl, by kernel_rfl⟩
theorem fn115_ok : FnOk 115 Tryd.f115 := ⟨Tryd.func115, by kernel_rfl, by kernel_rfl⟩
theorem fn116_ok : FnOk 116 Tryd.f116 := ⟨Tryd.func116, by kernel_rfl, by kernel_rfl⟩
theorem fn117_ok : FnOk 117 Tryd.f117 := ⟨Tryd.func117, by kernel_rfl, by kernel_rfl⟩
theorem fn118_ok : FnOk 118 Tryd.f118 := ⟨Tryd.func118, by kernel_rfl, by kernel_rfl⟩
theorem fn119_ok : FnOk 119 Tryd.f119 := ⟨Tryd.func119, by kernel_rfl, by kernel_rfl⟩
theorem fn120_ok : FnOk 120 Tryd.f120 := ⟨Tryd.func120, by kernel_rfl, by kernel_rfl⟩
theorem fn121_ok : FnOk 121 Tryd.f121 := ⟨Tryd.func121, by kernel_rfl, by kernel_rfl⟩
theorem fn122_ok : FnOk 122 Tryd.f122 := ⟨Tryd.func122, by kernel_rfl, by kernel_rfl⟩
theorem fn123_ok : FnOk 123 Tryd.f123 := ⟨Tryd.func123, by kernel_rfl, by kernel_rfl⟩
theorem fn124_ok : FnOk 124 Tryd.f124 := ⟨Tryd.func124, by kernel_rfl, by kernel_rfl⟩
theorem fn125_ok : FnOk 125 Tryd.f125 := ⟨Tryd.func125, by kernel_rfl, by kernel_rfl⟩
theorem fn126_ok : FnOk 126 Tryd.f126 := ⟨Tryd.func126, by kernel_rfl, by kernel_rfl⟩
theorem fn127_ok : FnOk 127 Tryd.f127 := ⟨Tryd.func127, by kernel_rfl, by kernel_rfl⟩
theorem fn128_ok : FnOk 128 Tryd.f128 := ⟨Tryd.func128, by kernel_rfl, by kernel_rfl⟩
theorem fn129_ok : FnOk 129 Tryd.f129 := ⟨Tryd.func129, by kernel_rfl, by kernel_rfl⟩
theorem fn130_ok : FnOk 130 Tryd.f130 := ⟨Tryd.func130, by kernel_rfl, by kernel_rfl⟩
theorem fn131_ok : FnOk 131 Tryd.f131 := ⟨Tryd.func131, by kernel_rfl, by kernel_rfl⟩
theorem fn132_ok : FnOk 132 Tryd.f132 := ⟨Tryd.func132, by kernel_rfl, by kernel_rfl⟩
theorem fn133_ok : FnOk 133 Tryd.f133 := ⟨Tryd.func133, by kernel_rfl, by kernel_rfl⟩
theorem fn134_ok : FnOk 134 Tryd.f134 := ⟨Tryd.func134, by kernel_rfl, by kernel_rfl⟩
theorem fn135_ok : FnOk 135 Tryd.f135 := ⟨Tryd.func135, by kernel_rfl, by kernel_rfl⟩
theorem fn136_ok : FnOk 136 Tryd.f136 := ⟨Tryd.func136, by kernel_rfl, by kernel_rfl⟩
theorem fn137_ok : FnOk 137 Tryd.f137 := ⟨Tryd.func137, by kernel_rfl, by kernel_rfl⟩
theorem fn138_ok : FnOk 138 Tryd.f138 := ⟨Tryd.func138, by kernel_rfl, by kernel_rfl⟩
theorem fn139_ok : FnOk 139 Tryd.f139 := ⟨Tryd.func139, by kernel_rfl, by kernel_rfl⟩
theorem fn140_ok : FnOk 140 Tryd.f140 := ⟨Tryd.func140, by kernel_rfl, by kernel_rfl⟩
theorem fn141_ok : FnOk 141 Tryd.f141 := ⟨Tryd.func141, by kernel_rfl, by kernel_rfl⟩
theorem fn142_ok : FnOk 142 Tryd.f142 := ⟨Tryd.func142, by kernel_rfl, by kernel_rfl⟩
theorem fn143_ok : FnOk 143 Tryd.f143 := ⟨Tryd.func143, by kernel_rfl, by kernel_rfl⟩
theorem fn144_ok : FnOk 144 Tryd.f144 := ⟨Tryd.func144, by kernel_rfl, by kernel_rfl⟩
theorem fn145_ok : FnOk 145 Tryd.f145 := ⟨Tryd.func145, by kernel_rfl, by kernel_rfl⟩
theorem fn146_ok : FnOk 146 Tryd.f146 := ⟨Tryd.func146, by kernel_rfl, by kernel_rfl⟩
theorem fn147_ok : FnOk 147 Tryd.f147 := ⟨Tryd.func147, by kernel_rfl, by kernel_rfl⟩
theorem fn148_ok : FnOk 148 Tryd.f148 := ⟨Tryd.func148, by kernel_rfl, by kernel_rfl⟩
theorem fn149_ok : FnOk 149 Tryd.f149 := ⟨Tryd.func149, by kernel_rfl, by kernel_rfl⟩
theorem fn150_ok : FnOk 150 Tryd.f150 := ⟨Tryd.func150, by kernel_rfl, by kernel_rfl⟩
theorem fn151_ok : FnOk 151 Tryd.f151 := ⟨Tryd.func151, by kernel_rfl, by kernel_rfl⟩
theorem fn152_ok : FnOk 152 Tryd.f152 := ⟨Tryd.func152, by kernel_rfl, by kernel_rfl⟩
theorem fn153_ok : FnOk 153 Tryd.f153 := ⟨Tryd.func153, by kernel_rfl, by kernel_rfl⟩
theorem fn154_ok : FnOk 154 Tryd.f154 := ⟨Tryd.func154, by kernel_rfl, by kernel_rfl⟩
theorem fn155_ok : FnOk 155 Tryd.f155 := ⟨Tryd.func155, by kernel_rfl, by kernel_rfl⟩
theorem fn156_ok : FnOk 156 Tryd.f156 := ⟨Tryd.func156, by kernel_rfl, by kernel_rfl⟩
theorem fn157_ok : FnOk 157 Tryd.f157 := ⟨Tryd.func157, by kernel_rfl, by kernel_rfl⟩
theorem fn158_ok : FnOk 158 Tryd.f158 := ⟨Tryd.func158, by kernel_rfl, by kernel_rfl⟩
theorem fn159_ok : FnOk 159 Tryd.f159 := ⟨Tryd.func159, by kernel_rfl, by kernel_rfl⟩
theorem fn160_ok : FnOk 160 Tryd.f160 := ⟨Tryd.func160, by kernel_rfl, by kernel_rfl⟩
theorem fn161_ok : FnOk 161 Tryd.f161 := ⟨Tryd.func161, by kernel_rfl, by kernel_rfl⟩
theorem fn162_ok : FnOk 162 Tryd.f162 := ⟨Tryd.func162, by kernel_rfl, by kernel_rfl⟩
theorem fn163_ok : FnOk 163 Tryd.f163 := ⟨Tryd.func163, by kernel_rfl, by kernel_rfl⟩
theorem fn164_ok : FnOk 164 Tryd.f164 := ⟨Tryd.func164, by kernel_rfl, by kernel_rfl⟩
theorem fn165_ok : FnOk 165 Tryd.f165 := ⟨Tryd.func165, by kernel_rfl, by kernel_rfl⟩
theorem fn166_ok : FnOk 166 Tryd.f166 := ⟨Tryd.func166, by kernel_rfl, by kernel_rfl⟩
theorem fn167_ok : FnOk 167 Tryd.f167 := ⟨Tryd.func167, by kernel_rfl, by kernel_rfl⟩
theorem fn168_ok : FnOk 168 Tryd.f168 := ⟨Tryd.func168, by kernel_rfl, by kernel_rfl⟩
theorem fn169_ok : FnOk 169 Tryd.f169 := ⟨Tryd.func169, by kernel_rfl, by kernel_rfl⟩
theorem fn170_ok : FnOk 170 Tryd.f170 := ⟨Tryd.func170, by kernel_rfl, by kernel_rfl⟩
theorem fn171_ok : FnOk 171 Tryd.f171 := ⟨Tryd.func171, by kernel_rfl, by kernel_rfl⟩
theorem fn172_ok : FnOk 172 Tryd.f172 := ⟨Tryd.func172, by kernel_rfl, by kernel_rfl⟩
theorem fn173_ok : FnOk 173 Tryd.f173 := ⟨Tryd.func173, by kernel_rfl, by kernel_rfl⟩
theorem fn174_ok : FnOk 174 Tryd.f174 := ⟨Tryd.func174, by kernel_rfl, by kernel_rfl⟩
theorem fn175_ok : FnOk 175 Tryd.f175 := ⟨Tryd.func175, by kernel_rfl, by kernel_rfl⟩
theorem fn176_ok : FnOk 176 Tryd.f176 := ⟨Tryd.func176, by kernel_rfl, by kernel_rfl⟩
theorem fn177_ok : FnOk 177 Tryd.f177 := ⟨Tryd.func177, by kernel_rfl, by kernel_rfl⟩
theorem fn178_ok : FnOk 178 Tryd.f178 := ⟨Tryd.func178, by kernel_rfl, by kernel_rfl⟩
theorem fn179_ok : FnOk 179 Tryd.f179 := ⟨Tryd.func179, by kernel_rfl, by kernel_rfl⟩
theorem fn180_ok : FnOk 180 Tryd.f180 := ⟨Tryd.func180, by kernel_rfl, by kernel_rfl⟩
theorem fn181_ok : FnOk 181 Tryd.f181 := ⟨Tryd.func181, by kernel_rfl, by kernel_rfl⟩
theorem fn182_ok : FnOk 182 Tryd.f182 := ⟨Tryd.func182, by kernel_rfl, by kernel_rfl⟩
theorem fn183_ok : FnOk 183 Tryd.f183 := ⟨Tryd.func183, by kernel_rfl, by kernel_rfl⟩
theorem fn184_ok : FnOk 184 Tryd.f184 := ⟨Tryd.func184, by kernel_rfl, by kernel_rfl⟩
theorem fn185_ok : FnOk 185 Tryd.f185 := ⟨Tryd.func185, by kernel_rfl, by kernel_rfl⟩
theorem fn186_ok : FnOk 186 Tryd.f186 := ⟨Tryd.func186, by kernel_rfl, by kernel_rfl⟩
theorem fn187_ok : FnOk 187 Tryd.f187 := ⟨Tryd.func187, by kernel_rfl, by kernel_rfl⟩
theorem fn188_ok : FnOk 188 Tryd.f188 := ⟨Tryd.func188, by kernel_rfl, by kernel_rfl⟩
theorem fn189_ok : FnOk 189 Tryd.f189 := ⟨Tryd.func189, by kernel_rfl, by kernel_rfl⟩
theorem fn190_ok : FnOk 190 Tryd.f190 := ⟨Tryd.func190, by kernel_rfl, by kernel_rfl⟩
theorem fn191_ok : FnOk 191 Tryd.f191 := ⟨Tryd.func191, by kernel_rfl, by kernel_rfl⟩
theorem fn192_ok : FnOk 192 Tryd.f192 := ⟨Tryd.func192, by kernel_rfl, by kernel_rfl⟩
theorem fn193_ok : FnOk 193 Tryd.f193 := ⟨Tryd.func193, by kernel_rfl, by kernel_rfl⟩
theorem fn194_ok : FnOk 194 Tryd.f194 := ⟨Tryd.func194, by kernel_rfl, by kernel_rfl⟩
theorem fn195_ok : FnOk 195 Tryd.f195 := ⟨Tryd.func195, by kernel_rfl, by kernel_rfl⟩
theorem fn196_ok : FnOk 196 Tryd.f196 := ⟨Tryd.func196, by kernel_rfl, by kernel_rfl⟩
theorem fn197_ok : FnOk 197 Tryd.f197 := ⟨Tryd.func197, by kernel_rfl, by kernel_rfl⟩
theorem fn198_ok : FnOk 198 Tryd.f198 := ⟨Tryd.func198, by kernel_rfl, by kernel_rfl⟩
theorem fn199_ok : FnOk 199 Tryd.f199 := ⟨Tryd.func199, by kernel_rfl, by kernel_rfl⟩
theorem fn200_ok : FnOk 200 Tryd.f200 := ⟨Tryd.func200, by kernel_rfl, by kernel_rfl⟩
theorem fn201_ok : FnOk 201 Tryd.f201 := ⟨Tryd.func201, by kernel_rfl, by kernel_rfl⟩
theorem fn202_ok : FnOk 202 Tryd.f202 := ⟨Tryd.func202, by kernel_rfl, by kernel_rfl⟩
theorem fn223_ok : FnOk 223 Tryd.f223 := ⟨Tryd.func223, by kernel_rfl, by kernel_rfl⟩
theorem fnTab_ok : AllT FnOk 0 fnTab := .n (.n (.n (.s (fn3_ok) (.s (fn4_ok) (.s (fn5_ok) (.s (fn6_ok) (.s (fn7_ok) (.s (fn8_ok) (.s (fn9_ok) (.s (fn10_ok) (.s (fn11_ok) (.s (fn12_ok) (.s (fn13_ok) (.s (fn14_ok) (.s (fn15_ok) (.s (fn16_ok) (.s (fn17_ok) (.s (fn18_ok) (.s (fn19_ok) (.s (fn20_ok) (.s (fn21_ok) (.s (fn22_ok) (.s (fn23_ok) (.s (fn24_ok) (.s (fn25_ok) (.s (fn26_ok) (.s (fn27_ok) (.s (fn28_ok) (.s (fn29_ok) (.s (fn30_ok) (.s (fn31_ok) (.s (fn32_ok) (.s (fn33_ok) (.s (fn34_ok) (.s (fn35_ok) (.s (fn36_ok) (.s (fn37_ok) (.s (fn38_ok) (.s (fn39_ok) (.s (fn40_ok) (.s (fn41_ok) (.s (fn42_ok) (.s (fn43_ok) (.s (fn44_ok) (.s (fn45_ok) (.s (fn46_ok) (.s (fn47_ok) (.s (fn48_ok) (.s (fn49_ok) (.s (fn50_ok) (.s (fn51_ok) (.s (fn52_ok) (.s (fn53_ok) (.s (fn54_ok) (.s (fn55_ok) (.s (fn56_ok) (.s (fn57_ok) (.s (fn58_ok) (.s (fn59_ok) (.s (fn60_ok) (.s (fn61_ok) (.s (fn62_ok) (.s (fn63_ok) (.s (fn64_ok) (.s (fn65_ok) (.s (fn66_ok) (.s (fn67_ok) (.s (fn68_ok) (.s (fn69_ok) (.s (fn70_ok) (.s (fn71_ok) (.s (fn72_ok) (.s (fn73_ok) (.s (fn74_ok) (.s (fn75_ok) (.s (fn76_ok) (.s (fn77_ok) (.s (fn78_ok) (.s (fn79_ok) (.s (fn80_ok) (.s (fn81_ok) (.s (fn82_ok) (.s (fn83_ok) (.s (fn84_ok) (.s (fn85_ok) (.s (fn86_ok) (.s (fn87_ok) (.s (fn88_ok) (.s (fn89_ok) (.s (fn90_ok) (.s (fn91_ok) (.s (fn92_ok) (.s (fn93_ok) (.s (fn94_ok) (.s (fn95_ok) (.s (fn96_ok) (.s (fn97_ok) (.s (fn98_ok) (.s (fn99_ok) (.s (fn100_ok) (.s (fn101_ok) (.s (fn102_ok) (.s (fn103_ok) (.s (fn104_ok) (.s (fn105_ok) (.s (fn106_ok) (.s (fn107_ok) (.s (fn108_ok) (.s (fn109_ok) (.s (fn110_ok) (.s (fn111_ok) (.s (fn112_ok) (.s (fn113_ok) (.s (fn114_ok) (.s (fn115_ok) (.s (fn116_ok) (.s (fn117_ok) (.s (fn118_ok) (.s (fn119_ok) (.s (fn120_ok) (.s (fn121_ok) (.s (fn122_ok) (.s (fn123_ok) (.s (fn124_ok) (.s (fn125_ok) (.s (fn126_ok) (.s (fn127_ok) (.s (fn128_ok) (.s (fn129_ok) (.s (fn130_ok) (.s (fn131_ok) (.s (fn132_ok) (.s (fn133_ok) (.s (fn134_ok) (.s (fn135_ok) (.s (fn136_ok) (.s (fn137_ok) (.s (fn138_ok) (.s (fn139_ok) (.s (fn140_ok) (.s (fn141_ok) (.s (fn142_ok) (.s (fn143_ok) (.s (fn144_ok) (.s (fn145_ok) (.s (fn146_ok) (.s (fn147_ok) (.s (fn148_ok) (.s (fn149_ok) (.s (fn150_ok) (.s (fn151_ok) (.s (fn152_ok) (.s (fn153_ok) (.s (fn154_ok) (.s (fn155_ok) (.s (fn156_ok) (.s (fn157_ok) (.s (fn158_ok) (.s (fn159_ok) (.s (fn160_ok) (.s (fn161_ok) (.s (fn162_ok) (.s (fn163_ok) (.s (fn164_ok) (.s (fn165_ok) (.s (fn166_ok) (.s (fn167_ok) (.s (fn168_ok) (.s (fn169_ok) (.s (fn170_ok) (.s (fn171_ok) (.s (fn172_ok) (.s (fn173_ok) (.s (fn174_ok) (.s (fn175_ok) (.s (fn176_ok) (.s (fn177_ok) (.s (fn178_ok) (.s (fn179_ok) (.s (fn180_ok) (.s (fn181_ok) (.s (fn182_ok) (.s (fn183_ok) (.s (fn184_ok) (.s (fn185_ok) (.s (fn186_ok) (.s (fn187_ok) (.s (fn188_ok) (.s (fn189_ok) (.s (fn190_ok) (.s (fn191_ok) (.s (fn192_ok) (.s (fn193_ok) (.s (fn194_ok) (.s (fn195_ok) (.s (fn196_ok) (.s (fn197_ok) (.s (fn198_ok) (.s (fn199_ok) (.s (fn200_ok) (.s (fn201_ok) (.s (fn202_ok) (.n (.n (.n (.n (.n (.n (.n (.n (.n (.n (.n (.n (.n (.n (.n (.n (.n (.n (.n (.n (.s (fn223_ok) (.e))))))))))))))))))))))))))))))))))))))))))))))))))))))))))))))))))))))))))))))))))))))))))))))))))))))))))))))))))))))))))))))))))))))))))))))))))))))))))))))))))))))))))))))))))))))))))))))))))))))))))))))))))))))))))))))))
theorem tbOk : TbOk Tryd.prog tb where
  fn f x h := by have := fnTab_ok.get f x h; rwa [Nat.zero_add] at this
  ty t i h := by have := tyTab_ok.get t i h; rwa [Nat.zero_add] at this
  dt t d h := by have := dtTab_ok.get t d h; rw [Nat.zero_add] at this; exact this
  mixed := by kernel_rfl
end Go.Proofs.YthanbjnpfenniaaDoor.Fw

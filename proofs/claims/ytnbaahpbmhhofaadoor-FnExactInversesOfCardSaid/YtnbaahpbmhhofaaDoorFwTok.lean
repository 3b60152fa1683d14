/- The seat's tables are right. Printed by fwtab.py. -/
import Derived.Test.YtnbaahpbmhhofaaDoorFwZf
import Derived.Test.YtnbaahpbmhhofaaDoorFwTab
import Derived.KernelRfl
namespace Go.Proofs.YtnbaahpbmhhofaaDoor.Fw
open Go Go.RowKit
set_option linter.unusedVariables false
set_option maxRecDepth 100000
inductive AllT {β : Type} (p : Nat → β → Prop) : Nat → List (Option β) → Prop
  | e {k : Nat} : AllT p k []
  | n {k : Nat} {r : List (Option β)} : AllT p (k + 1) r → AllT p k (none :: r)
  | s {k : Nat} {x : β} {r : List (Option β)} : p k x → AllT p (k + 1) r → AllT p k (some x :: r)
theorem AllT.get {β : Type} {p : Nat → β → Prop} : ∀ {l : List (Option β)} {k : Nat}, AllT p k l → ∀ (i : Nat) (x : β), l.getD i none = some x → p (k + i) x
  | _, k, .e, i, x, h => by simp at h
  | _, k, .n hr, 0, x, h => by simp at h
  | _, k, .n hr, i + 1, x, h => by have := hr.get i x (by simpa using h); rwa [show k + 1 + i = k + (i + 1) by omega] at this
  | _, k, .s hx hr, 0, x, h => by simp at h; subst h; exact hx
  | _, k, .s hx hr, i + 1, x, h => by have := hr.get i x (by simpa using h); rwa [show k + 1 + i = k + (i + 1) by omega] at this
theorem nm_ok {l : List Field} (h : (l.all fun f => !(f.name == "_")) = true) : ∀ f ∈ l, (f.name == "_") = false := fun f hf => by simpa using List.all_eq_true.1 h f hf
theorem ti1_ok : TiOk Tryd.prog 1 ti1 := ⟨⟨Tryd.t1, _, Tryd.type1, rfl, rfl, rfl, by kernel_rfl, rfl⟩, ⟨_, Tryd.underlying1, rfl⟩, fun _ => rfl⟩
theorem ti2_ok : TiOk Tryd.prog 2 ti2 := ⟨⟨Tryd.t2, _, Tryd.type2, rfl, rfl, rfl, by kernel_rfl, rfl⟩, Tryd.underlying2, fun _ => rfl⟩
theorem ti3_ok : TiOk Tryd.prog 3 ti3 := ⟨⟨Tryd.t3, _, Tryd.type3, rfl, rfl, rfl, by kernel_rfl, rfl⟩, Tryd.underlying3, fun _ => rfl⟩
theorem ti4_ok : TiOk Tryd.prog 4 ti4 := ⟨⟨Tryd.t4, _, Tryd.type4, rfl, rfl, rfl, by kernel_rfl, rfl⟩, Tryd.underlying4, fun _ => rfl⟩
theorem ti5_ok : TiOk Tryd.prog 5 ti5 := ⟨⟨Tryd.t5, _, Tryd.type5, rfl, rfl, rfl, by kernel_rfl, rfl⟩, Tryd.underlying5, fun _ => rfl⟩
theorem ti9_ok : TiOk Tryd.prog 9 ti9 := ⟨⟨Tryd.t9, _, Tryd.type9, rfl, rfl, rfl, by kernel_rfl, rfl⟩, Tryd.underlying9, fun _ => rfl⟩
theorem ti12_ok : TiOk Tryd.prog 12 ti12 := ⟨⟨Tryd.t12, _, Tryd.type12, rfl, rfl, rfl, by kernel_rfl, rfl⟩, Tryd.underlying12, fun _ => rfl⟩
theorem ti22_ok : TiOk Tryd.prog 22 ti22 := ⟨⟨Tryd.t22, _, Tryd.type22, rfl, rfl, rfl, by kernel_rfl, rfl⟩, Tryd.underlying22, fun _ => rfl⟩
theorem ti24_ok : TiOk Tryd.prog 24 ti24 := ⟨⟨Tryd.t24, _, Tryd.type24, rfl, rfl, rfl, by kernel_rfl, rfl⟩, Tryd.underlying24, fun _ => rfl⟩
theorem ti32_ok : TiOk Tryd.prog 32 ti32 := ⟨⟨Tryd.t32, _, Tryd.type32, rfl, rfl, rfl, by kernel_rfl, rfl⟩, ⟨_, Tryd.underlying32, rfl, nm_ok (by kernel_rfl), Tryd.stoodInHeld32⟩, fun h => nomatch h⟩
theorem ti37_ok : TiOk Tryd.prog 37 ti37 := ⟨⟨Tryd.t37, _, Tryd.type37, rfl, rfl, rfl, by kernel_rfl, rfl⟩, ⟨_, Tryd.underlying37, rfl, nm_ok (by kernel_rfl), Tryd.stoodInHeld37⟩, fun h => nomatch h⟩
theorem ti40_ok : TiOk Tryd.prog 40 ti40 := ⟨⟨Tryd.t40, _, Tryd.type40, rfl, rfl, rfl, by kernel_rfl, rfl⟩, ⟨_, Tryd.underlying40, rfl, nm_ok (by kernel_rfl), Tryd.stoodInHeld40⟩, fun h => nomatch h⟩
theorem ti44_ok : TiOk Tryd.prog 44 ti44 := ⟨⟨Tryd.t44, _, Tryd.type44, rfl, rfl, rfl, by kernel_rfl, rfl⟩, ⟨_, Tryd.underlying44, rfl, nm_ok (by kernel_rfl), Tryd.stoodInHeld44⟩, fun h => nomatch h⟩
theorem ti51_ok : TiOk Tryd.prog 51 ti51 := ⟨⟨Tryd.t51, _, Tryd.type51, rfl, rfl, rfl, by kernel_rfl, rfl⟩, ⟨_, Tryd.underlying51, rfl, nm_ok (by kernel_rfl), Tryd.stoodInHeld51⟩, fun h => nomatch h⟩
theorem ti56_ok : TiOk Tryd.prog 56 ti56 := ⟨⟨Tryd.t56, _, Tryd.type56, rfl, rfl, rfl, by kernel_rfl, rfl⟩, ⟨_, Tryd.underlying56, rfl, nm_ok (by kernel_rfl), Tryd.stoodInHeld56⟩, fun h => nomatch h⟩
theorem ti64_ok : TiOk Tryd.prog 64 ti64 := ⟨⟨Tryd.t64, _, Tryd.type64, rfl, rfl, rfl, by kernel_rfl, rfl⟩, Tryd.underlying64, fun _ => rfl⟩
theorem ti66_ok : TiOk Tryd.prog 66 ti66 := ⟨⟨Tryd.t66, _, Tryd.type66, rfl, rfl, rfl, by kernel_rfl, rfl⟩, ⟨_, Tryd.underlying66, rfl, nm_ok (by kernel_rfl), Tryd.stoodInHeld66⟩, fun h => nomatch h⟩
theorem ti69_ok : TiOk Tryd.prog 69 ti69 := ⟨⟨Tryd.t69, _, Tryd.type69, rfl, rfl, rfl, by kernel_rfl, rfl⟩, ⟨_, Tryd.underlying69, rfl, nm_ok (by kernel_rfl), Tryd.stoodInHeld69⟩, fun h => nomatch h⟩
theorem ti73_ok : TiOk Tryd.prog 73 ti73 := ⟨⟨Tryd.t73, _, Tryd.type73, rfl, rfl, rfl, by kernel_rfl, rfl⟩, Tryd.underlying73, fun _ => rfl⟩
theorem ti74_ok : TiOk Tryd.prog 74 ti74 := ⟨⟨Tryd.t74, _, Tryd.type74, rfl, rfl, rfl, by kernel_rfl, rfl⟩, Tryd.underlying74, fun _ => rfl⟩
theorem ti76_ok : TiOk Tryd.prog 76 ti76 := ⟨⟨Tryd.t76, _, Tryd.type76, rfl, rfl, rfl, by kernel_rfl, rfl⟩, Tryd.underlying76, fun h => nomatch h⟩
theorem ti79_ok : TiOk Tryd.prog 79 ti79 := ⟨⟨Tryd.t79, _, Tryd.type79, rfl, rfl, rfl, by kernel_rfl, rfl⟩, ⟨_, Tryd.underlying79, rfl⟩, fun _ => rfl⟩
theorem ti87_ok : TiOk Tryd.prog 87 ti87 := ⟨⟨Tryd.t87, _, Tryd.type87, rfl, rfl, rfl, by kernel_rfl, rfl⟩, Tryd.underlying87, fun _ => rfl⟩
theorem ti90_ok : TiOk Tryd.prog 90 ti90 := ⟨⟨Tryd.t90, _, Tryd.type90, rfl, rfl, rfl, by kernel_rfl, rfl⟩, ⟨_, Tryd.underlying90, rfl, nm_ok (by kernel_rfl), Tryd.stoodInHeld90⟩, fun h => nomatch h⟩
theorem ti103_ok : TiOk Tryd.prog 103 ti103 := ⟨⟨Tryd.t103, _, Tryd.type103, rfl, rfl, rfl, by kernel_rfl, rfl⟩, Tryd.underlying103, fun h => nomatch h⟩
theorem ti114_ok : TiOk Tryd.prog 114 ti114 := ⟨⟨Tryd.t114, _, Tryd.type114, rfl, rfl, rfl, by kernel_rfl, rfl⟩, ⟨_, Tryd.underlying114, rfl⟩, fun _ => rfl⟩
theorem tyTab_ok : AllT (TiOk Tryd.prog) 0 tyTab := .n (.s (ti1_ok) (.s (ti2_ok) (.s (ti3_ok) (.s (ti4_ok) (.s (ti5_ok) (.n (.n (.n (.s (ti9_ok) (.n (.n (.s (ti12_ok) (.n (.n (.n (.n (.n (.n (.n (.n (.n (.s (ti22_ok) (.n (.s (ti24_ok) (.n (.n (.n (.n (.n (.n (.n (.s (ti32_ok) (.n (.n (.n (.n (.s (ti37_ok) (.n (.n (.s (ti40_ok) (.n (.n (.n (.s (ti44_ok) (.n (.n (.n (.n (.n (.n (.s (ti51_ok) (.n (.n (.n (.n (.s (ti56_ok) (.n (.n (.n (.n (.n (.n (.n (.s (ti64_ok) (.n (.s (ti66_ok) (.n (.n (.s (ti69_ok) (.n (.n (.n (.s (ti73_ok) (.s (ti74_ok) (.n (.s (ti76_ok) (.n (.n (.s (ti79_ok) (.n (.n (.n (.n (.n (.n (.n (.s (ti87_ok) (.n (.n (.s (ti90_ok) (.n (.n (.n (.n (.n (.n (.n (.n (.n (.n (.n (.n (.s (ti103_ok) (.n (.n (.n (.n (.n (.n (.n (.n (.n (.n (.s (ti114_ok) (.e)))))))))))))))))))))))))))))))))))))))))))))))))))))))))))))))))))))))))))))))))))))))))))))))))))))))))))))))))))
def DtOk (t : TypeId) (d : Ty) : Prop := (fun t d => ∃ i q z, tyTab.getD t none = some i ∧ i.size = d.size ∧ i.bytes ≤ 128 ∧ i.k.isAgg = d.isPr ∧ Tryd.prog.info? t = some q ∧ q.size = d.size ∧ q.bytes = i.bytes ∧ q.zero = some z ∧ dfltOk d z.cells.toList = true) t d
theorem dt2_ok : DtOk 2 (.int .i64) := ⟨ti2, Tryd.t2, _, rfl, rfl, by decide, rfl, Tryd.type2, rfl, rfl, rfl, by kernel_rfl⟩
theorem dt3_ok : DtOk 3 (.int .i64) := ⟨ti3, Tryd.t3, _, rfl, rfl, by decide, rfl, Tryd.type3, rfl, rfl, rfl, by kernel_rfl⟩
theorem dt4_ok : DtOk 4 (.bool) := ⟨ti4, Tryd.t4, _, rfl, rfl, by decide, rfl, Tryd.type4, rfl, rfl, rfl, by kernel_rfl⟩
theorem dt5_ok : DtOk 5 (.int .u8) := ⟨ti5, Tryd.t5, _, rfl, rfl, by decide, rfl, Tryd.type5, rfl, rfl, rfl, by kernel_rfl⟩
theorem dt9_ok : DtOk 9 (.str) := ⟨ti9, Tryd.t9, _, rfl, rfl, by decide, rfl, Tryd.type9, rfl, rfl, rfl, by kernel_rfl⟩
theorem dt12_ok : DtOk 12 (.int .u64) := ⟨ti12, Tryd.t12, _, rfl, rfl, by decide, rfl, Tryd.type12, rfl, rfl, rfl, by kernel_rfl⟩
theorem dt22_ok : DtOk 22 (.int .u64) := ⟨ti22, Tryd.t22, _, rfl, rfl, by decide, rfl, Tryd.type22, rfl, rfl, rfl, by kernel_rfl⟩
theorem dt24_ok : DtOk 24 (.sl (.int .i64)) := ⟨ti24, Tryd.t24, _, rfl, rfl, by decide, rfl, Tryd.type24, rfl, rfl, rfl, by kernel_rfl⟩
theorem dt32_ok : DtOk 32 (.pr (.int .i64) (.pr (.int .i64) (.int .i64))) := ⟨ti32, Tryd.t32, _, rfl, rfl, by decide, rfl, Tryd.type32, rfl, rfl, rfl, by kernel_rfl⟩
theorem dt37_ok : DtOk 37 (.pr (.int .i64) (.sl (.int .i64))) := ⟨ti37, Tryd.t37, _, rfl, rfl, by decide, rfl, Tryd.type37, rfl, rfl, rfl, by kernel_rfl⟩
theorem dt40_ok : DtOk 40 (.pr (.int .i64) (.sl (.int .i64))) := ⟨ti40, Tryd.t40, _, rfl, rfl, by decide, rfl, Tryd.type40, rfl, rfl, rfl, by kernel_rfl⟩
theorem dt44_ok : DtOk 44 (.pr (.int .i64) (.pr (.int .i64) (.int .i64))) := ⟨ti44, Tryd.t44, _, rfl, rfl, by decide, rfl, Tryd.type44, rfl, rfl, rfl, by kernel_rfl⟩
theorem dt51_ok : DtOk 51 (.pr (.bool) (.sl (.int .i64))) := ⟨ti51, Tryd.t51, _, rfl, rfl, by decide, rfl, Tryd.type51, rfl, rfl, rfl, by kernel_rfl⟩
theorem dt56_ok : DtOk 56 (.pr (.bool) (.sl (.int .i64))) := ⟨ti56, Tryd.t56, _, rfl, rfl, by decide, rfl, Tryd.type56, rfl, rfl, rfl, by kernel_rfl⟩
theorem dt64_ok : DtOk 64 (.sl (.sl (.int .i64))) := ⟨ti64, Tryd.t64, _, rfl, rfl, by decide, rfl, Tryd.type64, rfl, rfl, rfl, by kernel_rfl⟩
theorem dt66_ok : DtOk 66 (.pr (.bool) (.sl (.sl (.int .i64)))) := ⟨ti66, Tryd.t66, _, rfl, rfl, by decide, rfl, Tryd.type66, rfl, rfl, rfl, by kernel_rfl⟩
theorem dt69_ok : DtOk 69 (.pr (.bool) (.sl (.sl (.int .i64)))) := ⟨ti69, Tryd.t69, _, rfl, rfl, by decide, rfl, Tryd.type69, rfl, rfl, rfl, by kernel_rfl⟩
theorem dt73_ok : DtOk 73 (.sl (.int .u64)) := ⟨ti73, Tryd.t73, _, rfl, rfl, by decide, rfl, Tryd.type73, rfl, rfl, rfl, by kernel_rfl⟩
theorem dt74_ok : DtOk 74 (.int .u64) := ⟨ti74, Tryd.t74, _, rfl, rfl, by decide, rfl, Tryd.type74, rfl, rfl, rfl, by kernel_rfl⟩
theorem dt87_ok : DtOk 87 (.sl (.int .i64)) := ⟨ti87, Tryd.t87, _, rfl, rfl, by decide, rfl, Tryd.type87, rfl, rfl, rfl, by kernel_rfl⟩
theorem dt90_ok : DtOk 90 (.pr (.bool) (.sl (.int .i64))) := ⟨ti90, Tryd.t90, _, rfl, rfl, by decide, rfl, Tryd.type90, rfl, rfl, rfl, by kernel_rfl⟩
theorem dtTab_ok : AllT DtOk 0 dtTab := .n (.n (.s (dt2_ok) (.s (dt3_ok) (.s (dt4_ok) (.s (dt5_ok) (.n (.n (.n (.s (dt9_ok) (.n (.n (.s (dt12_ok) (.n (.n (.n (.n (.n (.n (.n (.n (.n (.s (dt22_ok) (.n (.s (dt24_ok) (.n (.n (.n (.n (.n (.n (.n (.s (dt32_ok) (.n (.n (.n (.n (.s (dt37_ok) (.n (.n (.s (dt40_ok) (.n (.n (.n (.s (dt44_ok) (.n (.n (.n (.n (.n (.n (.s (dt51_ok) (.n (.n (.n (.n (.s (dt56_ok) (.n (.n (.n (.n (.n (.n (.n (.s (dt64_ok) (.n (.s (dt66_ok) (.n (.n (.s (dt69_ok) (.n (.n (.n (.s (dt73_ok) (.s (dt74_ok) (.n (.n (.n (.n (.n (.n (.n (.n (.n (.n (.n (.n (.s (dt87_ok) (.n (.n (.s (dt90_ok) (.n (.n (.n (.n (.n (.n (.n (.n (.n (.n (.n (.n (.n (.n (.n (.n (.n (.n (.n (.n (.n (.n (.n (.n (.e)))))))))))))))))))))))))))))))))))))))))))))))))))))))))))))))))))))))))))))))))))))))))))))))))))))))))))))))))))
def FnOk (f : FuncId) (x : Func) : Prop := Tryd.prog.funcs[f]? = some x ∧ (x.name == "runtime.NumGoroutine") = false ∧ x.body.isNone = false
theorem fn3_ok : FnOk 3 Tryd.f3 := ⟨Tryd.func3, by kernel_rfl, by kernel_rfl⟩
theorem fn4_ok : FnOk 4 Tryd.f4 := ⟨Tryd.func4, by kernel_rfl, by kernel_rfl⟩
theorem fn5_ok : FnOk 5 Tryd.f5 := ⟨Tryd.func5, by kernel_rfl, by kernel_rfl⟩
theorem fn6_ok : FnOk 6 Tryd.f6 := ⟨Tryd.func6, by kernel_rfl, by kernel_rfl⟩
theorem fn7_ok : FnOk 7 Tryd.f7 := ⟨Tryd.func7, by kernel_rfl, by kernel_rfl⟩
theorem fn8_ok : FnOk 8 Tryd.f8 := ⟨Tryd.func8, by kernel_rfl, by kernel_rfl⟩
theorem fn9_ok : FnOk 9 Tryd.f9 := ⟨Tryd.func9, by kernel_rfl, by kernel_rfl⟩
theorem fn10_ok : FnOk 10 Tryd.f10 := ⟨Tryd.func10, by kernel_rfl, by kernel_rfl⟩
theorem fn11_ok : FnOk 11 Tryd.f11 := ⟨Tryd.func11, by kernel_rfl, by kernel_rfl⟩
theorem fn12_ok : FnOk 12 Tryd.f12 := ⟨Tryd.func12, by kernel_rfl, by kernel_rfl⟩
theorem fn13_ok : FnOk 13 Tryd.f13 := ⟨Tryd.func13, by kernel_rfl, by kernel_rfl⟩
theorem fn14_ok : FnOk 14 Tryd.f14 := ⟨Tryd.func14, by kernel_rfl, by kernel_rfl⟩
theorem fn15_ok : FnOk 15 Tryd.f15 := ⟨Tryd.func15, by kernel_rfl, by kernel_rfl⟩
theorem fn16_ok : FnOk 16 Tryd.f16 := ⟨Tryd.func16, by kernel_rfl, by kernel_rfl⟩
theorem fn17_ok : FnOk 17 Tryd.f17 := ⟨Tryd.func17, by kernel_rfl, by kernel_rfl⟩
theorem fn18_ok : FnOk 18 Tryd.f18 := ⟨Tryd.func18, by kernel_rfl, by kernel_rfl⟩
theorem fn19_ok : FnOk 19 Tryd.f19 := ⟨Tryd.func19, by kernel_rfl, by kernel_rfl⟩
theorem fn20_ok : FnOk 20 Tryd.f20 := ⟨Tryd.func20, by kernel_rfl, by kernel_rfl⟩
theorem fn21_ok : FnOk 21 Tryd.f21 := ⟨Tryd.func21, by kernel_rfl, by kernel_rfl⟩
theorem fn22_ok : FnOk 22 Tryd.f22 := ⟨Tryd.func22, by kernel_rfl, by kernel_rfl⟩
theorem fn23_ok : FnOk 23 Tryd.f23 := ⟨Tryd.func23, by kernel_rfl, by kernel_rfl⟩
theorem fn24_ok : FnOk 24 Tryd.f24 := ⟨Tryd.func24, by kernel_rfl, by kernel_rfl⟩
theorem fn25_ok : FnOk 25 Tryd.f25 := ⟨Tryd.func25, by kernel_rfl, by kernel_rfl⟩
theorem fn26_ok : FnOk 26 Tryd.f26 := ⟨Tryd.func26, by kernel_rfl, by kernel_rfl⟩
theorem fn27_ok : FnOk 27 Tryd.f27 := ⟨Tryd.func27, by kernel_rfl, by kernel_rfl⟩
theorem fn28_ok : FnOk 28 Tryd.f28 := ⟨Tryd.func28, by kernel_rfl, by kernel_rfl⟩
theorem fn29_ok : FnOk 29 Tryd.f29 := ⟨Tryd.func29, by kernel_rfl, by kernel_rfl⟩
theorem fn30_ok : FnOk 30 Tryd.f30 := ⟨Tryd.func30, by kernel_rfl, by kernel_rfl⟩
theorem fn31_ok : FnOk 31 Tryd.f31 := ⟨Tryd.func31, by kernel_rfl, by kernel_rfl⟩
theorem fn32_ok : FnOk 32 Tryd.f32 := ⟨Tryd.func32, by kernel_rfl, by kernel_rfl⟩
theorem fn33_ok : FnOk 33 Tryd.f33 := ⟨Tryd.func33, by kernel_rfl, by kernel_rfl⟩
theorem fn34_ok : FnOk 34 Tryd.f34 := ⟨Tryd.func34, by kernel_rfl, by kernel_rfl⟩
theorem fn35_ok : FnOk 35 Tryd.f35 := ⟨Tryd.func35, by kernel_rfl, by kernel_rfl⟩
theorem fn36_ok : FnOk 36 Tryd.f36 := ⟨Tryd.func36, by kernel_rfl, by kernel_rfl⟩
theorem fn37_ok : FnOk 37 Tryd.f37 := ⟨Tryd.func37, by kernel_rfl, by kernel_rfl⟩
theorem fn38_ok : FnOk 38 Tryd.f38 := ⟨Tryd.func38, by kernel_rfl, by kernel_rfl⟩
theorem fn39_ok : FnOk 39 Tryd.f39 := ⟨Tryd.func39, by kernel_rfl, by kernel_rfl⟩
theorem fn40_ok : FnOk 40 Tryd.f40 := ⟨Tryd.func40, by kernel_rfl, by kernel_rfl⟩
theorem fn41_ok : FnOk 41 Tryd.f41 := ⟨Tryd.func41, by kernel_rfl, by kernel_rfl⟩
theorem fn42_ok : FnOk 42 Tryd.f42 := ⟨Tryd.func42, by kernel_rfl, by kernel_rfl⟩
theorem fn43_ok : FnOk 43 Tryd.f43 := ⟨Tryd.func43, by kernel_rfl, by kernel_rfl⟩
theorem fn44_ok : FnOk 44 Tryd.f44 := ⟨Tryd.func44, by kernel_rfl, by kernel_rfl⟩
theorem fn45_ok : FnOk 45 Tryd.f45 := ⟨Tryd.func45, by kernel_rfl, by kernel_rfl⟩
theorem fn46_ok : FnOk 46 Tryd.f46 := ⟨Tryd.func46, by kernel_rfl, by kernel_rfl⟩
theorem fn47_ok : FnOk 47 Tryd.f47 := ⟨Tryd.func47, by kernel_rfl, by kernel_rfl⟩
theorem fn48_ok : FnOk 48 Tryd.f48 := ⟨Tryd.func48, by kernel_rfl, by kernel_rfl⟩
theorem fn49_ok : FnOk 49 Tryd.f49 := ⟨Tryd.func49, by kernel_rfl, by kernel_rfl⟩
theorem fn50_ok : FnOk 50 Tryd.f50 := ⟨Tryd.func50, by kernel_rfl, by kernel_rfl⟩
theorem fn51_ok : FnOk 51 Tryd.f51 := ⟨Tryd.func51, by kernel_rfl, by kernel_rfl⟩
theorem fn52_ok : FnOk 52 Tryd.f52 := ⟨Tryd.func52, by kernel_rfl, by kernel_rfl⟩
theorem fn53_ok : FnOk 53 Tryd.f53 := ⟨Tryd.func53, by kernel_rfl, by kernel_rfl⟩
theorem fn54_ok : FnOk 54 Tryd.f54 := ⟨Tryd.func54, by kernel_rfl, by kernel_rfl⟩
theorem fn55_ok : FnOk 55 Tryd.f55 := ⟨Tryd.func55, by kernel_rfl, by kernel_rfl⟩
theorem fn56_ok : FnOk 56 Tryd.f56 := ⟨Tryd.func56, by kernel_rfl, by kernel_rfl⟩
theorem fn57_ok : FnOk 57 Tryd.f57 := ⟨Tryd.func57, by kernel_rfl, by kernel_rfl⟩
theorem fn58_ok : FnOk 58 Tryd.f58 := ⟨Tryd.func58, by kernel_rfl, by kernel_rfl⟩
theorem fn59_ok : FnOk 59 Tryd.f59 := ⟨Tryd.func59, by kernel_rfl, by kernel_rfl⟩
theorem fn60_ok : FnOk 60 Tryd.f60 := ⟨Tryd.func60, by kernel_rfl, by kernel_rfl⟩
theorem fn61_ok : FnOk 61 Tryd.f61 := ⟨Tryd.func61, by kernel_rfl, by kernel_rfl⟩
theorem fn62_ok : FnOk 62 Tryd.f62 := ⟨Tryd.func62, by kernel_rfl, by kernel_rfl⟩
theorem fn63_ok : FnOk 63 Tryd.f63 := ⟨Tryd.func63, by kernel_rfl, by kernel_rfl⟩
theorem fn64_ok : FnOk 64 Tryd.f64 := ⟨Tryd.func64, by kernel_rfl, by kernel_rfl⟩
theorem fn65_ok : FnOk 65 Tryd.f65 := ⟨Tryd.func65, by kernel_rfl, by kernel_rfl⟩
theorem fn66_ok : FnOk 66 Tryd.f66 := ⟨Tryd.func66, by kernel_rfl, by kernel_rfl⟩
theorem fn67_ok : FnOk 67 Tryd.f67 := ⟨Tryd.func67, by kernel_rfl, by kernel_rfl⟩
theorem fn68_ok : FnOk 68 Tryd.f68 := ⟨Tryd.func68, by kernel_rfl, by kernel_rfl⟩
theorem fn69_ok : FnOk 69 Tryd.f69 := ⟨Tryd.func69, by kernel_rfl, by kernel_rfl⟩
theorem fn70_ok : FnOk 70 Tryd.f70 := ⟨Tryd.func70, by kernel_rfl, by kernel_rfl⟩
theorem fn71_ok : FnOk 71 Tryd.f71 := ⟨Tryd.func71, by kernel_rfl, by kernel_rfl⟩
theorem fn72_ok : FnOk 72 Tryd.f72 := ⟨Tryd.func72, by kernel_rfl, by kernel_rfl⟩
theorem fn73_ok : FnOk 73 Tryd.f73 := ⟨Tryd.func73, by kernel_rfl, by kernel_rfl⟩
theorem fn74_ok : FnOk 74 Tryd.f74 := ⟨Tryd.func74, by kernel_rfl, by kernel_rfl⟩
theorem fn75_ok : FnOk 75 Tryd.f75 := ⟨Tryd.func75, by kernel_rfl, by kernel_rfl⟩
theorem fn76_ok : FnOk 76 Tryd.f76 := ⟨Tryd.func76, by kernel_rfl, by kernel_rfl⟩
theorem fn77_ok : FnOk 77 Tryd.f77 := ⟨Tryd.func77, by kernel_rfl, by kernel_rfl⟩
theorem fn78_ok : FnOk 78 Tryd.f78 := ⟨Tryd.func78, by kernel_rfl, by kernel_rfl⟩
theorem fn79_ok : FnOk 79 Tryd.f79 := ⟨Tryd.func79, by kernel_rfl, by kernel_rfl⟩
theorem fn80_ok : FnOk 80 Tryd.f80 := ⟨Tryd.func80, by kernel_rfl, by kernel_rfl⟩
theorem fn81_ok : FnOk 81 Tryd.f81 := ⟨Tryd.func81, by kernel_rfl, by kernel_rfl⟩
theorem fn82_ok : FnOk 82 Tryd.f82 := ⟨Tryd.func82, by kernel_rfl, by kernel_rfl⟩
theorem fn83_ok : FnOk 83 Tryd.f83 := ⟨Tryd.func83, by kernel_rfl, by kernel_rfl⟩
theorem fn84_ok : FnOk 84 Tryd.f84 := ⟨Tryd.func84, by kernel_rfl, by kernel_rfl⟩
theorem fn85_ok : FnOk 85 Tryd.f85 := ⟨Tryd.func85, by kernel_rfl, by kernel_rfl⟩
theorem fn86_ok : FnOk 86 Tryd.f86 := ⟨Tryd.func86, by kernel_rfl, by kernel_rfl⟩
theorem fn87_ok : FnOk 87 Tryd.f87 := ⟨Tryd.func87, by kernel_rfl, by kernel_rfl⟩
theorem fn88_ok : FnOk 88 Tryd.f88 := ⟨Tryd.func88, by kernel_rfl, by kernel_rfl⟩
theorem fn89_ok : FnOk 89 Tryd.f89 := ⟨Tryd.func89, by kernel_rfl, by kernel_rfl⟩
theorem fn90_ok : FnOk 90 Tryd.f90 := ⟨Tryd.func90, by kernel_rfl, by kernel_rfl⟩
theorem fn91_ok : FnOk 91 Tryd.f91 := ⟨Tryd.func91, by kernel_rfl, by kernel_rfl⟩
theorem fn92_ok : FnOk 92 Tryd.f92 := ⟨Tryd.func92, by kernel_rfl, by kernel_rfl⟩
theorem fn93_ok : FnOk 93 Tryd.f93 := ⟨Tryd.func93, by kernel_rfl, by kernel_rfl⟩
theorem fn94_ok : FnOk 94 Tryd.f94 := ⟨Tryd.func94, by kernel_rfl, by kernel_rfl⟩
theorem fn95_ok : FnOk 95 Tryd.f95 := ⟨Tryd.func95, by kernel_rfl, by kernel_rfl⟩
theorem fn96_ok : FnOk 96 Tryd.f96 := ⟨Tryd.func96, by kernel_rfl, by kernel_rfl⟩
theorem fn97_ok : FnOk 97 Tryd.f97 := ⟨Tryd.func97, by kernel_rfl, by kernel_rfl⟩
theorem fn98_ok : FnOk 98 Tryd.f98 := ⟨Tryd.func98, by kernel_rfl, by kernel_rfl⟩
theorem fn99_ok : FnOk 99 Tryd.f99 := ⟨Tryd.func99, by kernel_rfl, by kernel_rfl⟩
theorem fn100_ok : FnOk 100 Tryd.f100 := ⟨Tryd.func100, by kernel_rfl, by kernel_rfl⟩
theorem fn101_ok : FnOk 101 Tryd.f101 := ⟨Tryd.func101, by kernel_rfl, by kernel_rfl⟩
theorem fn102_ok : FnOk 102 Tryd.f102 := ⟨Tryd.func102, by kernel_rfl, by kernel_rfl⟩
theorem fn103_ok : FnOk 103 Tryd.f103 := ⟨Tryd.func103, by kernel_rfl, by kernel_rfl⟩
theorem fn104_ok : FnOk 104 Tryd.f104 := ⟨Tryd.func104, by kernel_rfl, by kernel_rfl⟩
theorem fn105_ok : FnOk 105 Tryd.f105 := ⟨Tryd.func105, by kernel_rfl, by kernel_rfl⟩
theorem fn106_ok : FnOk 106 Tryd.f106 := ⟨Tryd.func106, by kernel_rfl, by kernel_rfl⟩
theorem fn107_ok : FnOk 107 Tryd.f107 := ⟨Tryd.func107, by kernel_rfl, by kernel_rfl⟩
theorem fn108_ok : FnOk 108 Tryd.f108 := ⟨Tryd.func108, by kernel_rfl, by kernel_rfl⟩
theorem fn109_ok : FnOk 109 Tryd.f109 := ⟨Tryd.func109, by kernel_rfl, by kernel_rfl⟩
theorem fn110_ok : FnOk 110 Tryd.f110 := ⟨Tryd.func110, by kernel_rfl, by kernel_rfl⟩
theorem fn111_ok : FnOk 111 Tryd.f111 := ⟨Tryd.func111, by kernel_rfl, by kernel_rfl⟩
theorem fn112_ok : FnOk 112 Tryd.f112 := ⟨Tryd.func112, by kernel_rfl, by kernel_rfl⟩
theorem fn113_ok : FnOk 113 Tryd.f113 := ⟨Tryd.func113, by kernel_rfl, by kernel_rfl⟩
theorem fn114_ok : FnOk 114 Tryd.f114 := ⟨Tryd.func114, by kernel_rfl, by kernel_rfl⟩
theorem fn115_ok : FnOk 115 Tryd.f115 := ⟨Tryd.func115, by kernel_rfl, by kernel_rfl⟩
theorem fn116_ok : FnOk 116 Tryd.f116 := ⟨Tryd.func116, by kernel_rfl, by kernel_rfl⟩
theorem fn117_ok : FnOk 117 Tryd.f117 := ⟨Tryd.func117, by kernel_rfl, by kernel_rfl⟩
theorem fn118_ok : FnOk 118 Tryd.f118 := ⟨Tryd.func118, by kernel_rfl, by kernel_rfl⟩
theorem fn119_ok : FnOk 119 Tryd.f119 := ⟨Tryd.func119, by kernel_rfl, by kernel_rfl⟩
theorem fn120_ok : FnOk 120 Tryd.f120 := ⟨Tryd.func120, by kernel_rfl, by kernel_rfl⟩
theorem fn121_ok : FnOk 121 Tryd.f121 := ⟨Tryd.func121, by kernel_rfl, by kernel_rfl⟩
theorem fn122_ok : FnOk 122 Tryd.f122 := ⟨Tryd.func122, by kernel_rfl, by kernel_rfl⟩
theorem fn123_ok : FnOk 123 Tryd.f123 := ⟨Tryd.func123, by kernel_rfl, by kernel_rfl⟩
theorem fn124_ok : FnOk 124 Tryd.f124 := ⟨Tryd.func124, by kernel_rfl, by kernel_rfl⟩
theorem fn125_ok : FnOk 125 Tryd.f125 := ⟨Tryd.func125, by kernel_rfl, by kernel_rfl⟩
theorem fn126_ok : FnOk 126 Tryd.f126 := ⟨Tryd.func126, by kernel_rfl, by kernel_rfl⟩
theorem fn127_ok : FnOk 127 Tryd.f127 := ⟨Tryd.func127, by kernel_rfl, by kernel_rfl⟩
theorem fn128_ok : FnOk 128 Tryd.f128 := ⟨Tryd.func128, by kernel_rfl, by kernel_rfl⟩
theorem fn129_ok : FnOk 129 Tryd.f129 := ⟨Tryd.func129, by kernel_rfl, by kernel_rfl⟩
theorem fn150_ok : FnOk 150 Tryd.f150 := ⟨Tryd.func150, by kernel_rfl, by kernel_rfl⟩
theorem fnTab_ok : AllT FnOk 0 fnTab := .n (.n (.n (.s (fn3_ok) (.s (fn4_ok) (.s (fn5_ok) (.s (fn6_ok) (.s (fn7_ok) (.s (fn8_ok) (.s (fn9_ok) (.s (fn10_ok) (.s (fn11_ok) (.s (fn12_ok) (.s (fn13_ok) (.s (fn14_ok) (.s (fn15_ok) (.s (fn16_ok) (.s (fn17_ok) (.s (fn18_ok) (.s (fn19_ok) (.s (fn20_ok) (.s (fn21_ok) (.s (fn22_ok) (.s (fn23_ok) (.s (fn24_ok) (.s (fn25_ok) (.s (fn26_ok) (.s (fn27_ok) (.s (fn28_ok) (.s (fn29_ok) (.s (fn30_ok) (.s (fn31_ok) (.s (fn32_ok) (.s (fn33_ok) (.s (fn34_ok) (.s (fn35_ok) (.s (fn36_ok) (.s (fn37_ok) (.s (fn38_ok) (.s (fn39_ok) (.s (fn40_ok) (.s (fn41_ok) (.s (fn42_ok) (.s (fn43_ok) (.s (fn44_ok) (.s (fn45_ok) (.s (fn46_ok) (.s (fn47_ok) (.s (fn48_ok) (.s (fn49_ok) (.s (fn50_ok) (.s (fn51_ok) (.s (fn52_ok) (.s (fn53_ok) (.s (fn54_ok) (.s (fn55_ok) (.s (fn56_ok) (.s (fn57_ok) (.s (fn58_ok) (.s (fn59_ok) (.s (fn60_ok) (.s (fn61_ok) (.s (fn62_ok) (.s (fn63_ok) (.s (fn64_ok) (.s (fn65_ok) (.s (fn66_ok) (.s (fn67_ok) (.s (fn68_ok) (.s (fn69_ok) (.s (fn70_ok) (.s (fn71_ok) (.s (fn72_ok) (.s (fn73_ok) (.s (fn74_ok) (.s (fn75_ok) (.s (fn76_ok) (.s (fn77_ok) (.s (fn78_ok) (.s (fn79_ok) (.s (fn80_ok) (.s (fn81_ok) (.s (fn82_ok) (.s (fn83_ok) (.s (fn84_ok) (.s (fn85_ok) (.s (fn86_ok) (.s (fn87_ok) (.s (fn88_ok) (.s (fn89_ok) (.s (fn90_ok) (.s (fn91_ok) (.s (fn92_ok) (.s (fn93_ok) (.s (fn94_ok) (.s (fn95_ok) (.s (fn96_ok) (.s (fn97_ok) (.s (fn98_ok) (.s (fn99_ok) (.s (fn100_ok) (.s (fn101_ok) (.s (fn102_ok) (.s (fn103_ok) (.s (fn104_ok) (.s (fn105_ok) (.s (fn106_ok) (.s (fn107_ok) (.s (fn108_ok) (.s (fn109_ok) (.s (fn110_ok) (.s (fn111_ok) (.s (fn112_ok) (.s (fn113_ok) (.s (fn114_ok) (.s (fn115_ok) (.s (fn116_ok) (.s (fn117_ok) (.s (fn118_ok) (.s (fn119_ok) (.s (fn120_ok) (.s (fn121_ok) (.s (fn122_ok) (.s (fn123_ok) (.s (fn124_ok) (.s (fn125_ok) (.s (fn126_ok) (.s (fn127_ok) (.s (fn128_ok) (.s (fn129_ok) (.n (.n (.n (.n (.n (.n (.n (.n (.n (.n (.n (.n (.n (.n (.n (.n (.n (.n (.n (.n (.s (fn150_ok) (.e)))))))))))))))))))))))))))))))))))))))))))))))))))))))))))))))))))))))))))))))))))))))))))))))))))))))))))))))))))))))))))))))))))))))))))))))))))))))
theorem tbOk : TbOk Tryd.prog tb where
  fn f x h := by have := fnTab_ok.get f x h; rwa [Nat.zero_add] at this
  ty t i h := by have := tyTab_ok.get t i h; rwa [Nat.zero_add] at this
  dt t d h := by have := dtTab_ok.get t d h; rw [Nat.zero_add] at this; exact this
  mixed := by kernel_rfl
end Go.Proofs.YtnbaahpbmhhofaaDoor.Fw

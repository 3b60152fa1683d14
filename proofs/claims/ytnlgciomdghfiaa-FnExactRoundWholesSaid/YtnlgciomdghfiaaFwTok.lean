/- The seat's tables are right. Printed by fwtab.py. -/
import Derived.Test.YtnlgciomdghfiaaFwZc
import Derived.Test.YtnlgciomdghfiaaFwTab
import Derived.KernelRfl
namespace Go.Proofs.Ytnlgciomdghfiaa.Fw
open Go Go.RowKit
set_option linter.unusedVariables false
set_option maxRecDepth 100000
inductive AllT {β : Type} (p : Nat → β → Prop) : Nat → List (Option β) → Prop
  | e {k : Nat} : AllT p k []
  | n {k : Nat} {r : List (Option β)} : AllT p (k + 1) r → AllT p k (none :: r)
  | s {k : Nat} {x : β} {r : List (Option β)} : p k x → AllT p (k + 1) r → AllT p k (some x :: r)
theorem AllT.get {β : Type} {p : Nat → β → Prop} : ∀ {l : List (Option β)} {k : Nat}, AllT p k l → ∀ (i : Nat) (x : β), l.getD i none = some x → p (k + i) x
  | _, k, .e, i, x, h => by simp at h
  | _, k, .n hr, 0, x, h => by simp at h
  | _, k, .n hr, i + 1, x, h => by have := hr.get i x (by simpa using h); rwa [show k + 1 + i = k + (i + 1) by omega] at this
  | _, k, .s hx hr, 0, x, h => by simp at h; subst h; exact hx
  | _, k, .s hx hr, i + 1, x, h => by have := hr.get i x (by simpa using h); rwa [show k + 1 + i = k + (i + 1) by omega] at this
theorem nm_ok {l : List Field} (h : (l.all fun f => !(f.name == "_")) = true) : ∀ f ∈ l, (f.name == "_") = false := fun f hf => by simpa using List.all_eq_true.1 h f hf
theorem ti1_ok : TiOk Try.prog 1 ti1 := ⟨⟨Try.t1, _, Try.type1, rfl, rfl, rfl, by kernel_rfl, rfl⟩, ⟨_, Try.underlying1, rfl⟩, fun _ => rfl⟩
theorem ti2_ok : TiOk Try.prog 2 ti2 := ⟨⟨Try.t2, _, Try.type2, rfl, rfl, rfl, by kernel_rfl, rfl⟩, Try.underlying2, fun _ => rfl⟩
theorem ti3_ok : TiOk Try.prog 3 ti3 := ⟨⟨Try.t3, _, Try.type3, rfl, rfl, rfl, by kernel_rfl, rfl⟩, Try.underlying3, fun _ => rfl⟩
theorem ti4_ok : TiOk Try.prog 4 ti4 := ⟨⟨Try.t4, _, Try.type4, rfl, rfl, rfl, by kernel_rfl, rfl⟩, Try.underlying4, fun _ => rfl⟩
theorem ti5_ok : TiOk Try.prog 5 ti5 := ⟨⟨Try.t5, _, Try.type5, rfl, rfl, rfl, by kernel_rfl, rfl⟩, Try.underlying5, fun _ => rfl⟩
theorem ti6_ok : TiOk Try.prog 6 ti6 := ⟨⟨Try.t6, _, Try.type6, rfl, rfl, rfl, by kernel_rfl, rfl⟩, Try.underlying6, fun _ => rfl⟩
theorem ti7_ok : TiOk Try.prog 7 ti7 := ⟨⟨Try.t7, _, Try.type7, rfl, rfl, rfl, by kernel_rfl, rfl⟩, ⟨_, Try.underlying7, rfl, nm_ok (by kernel_rfl), Try.stoodInHeld7⟩, fun h => nomatch h⟩
theorem ti9_ok : TiOk Try.prog 9 ti9 := ⟨⟨Try.t9, _, Try.type9, rfl, rfl, rfl, by kernel_rfl, rfl⟩, Try.underlying9, fun _ => rfl⟩
theorem ti10_ok : TiOk Try.prog 10 ti10 := ⟨⟨Try.t10, _, Try.type10, rfl, rfl, rfl, by kernel_rfl, rfl⟩, Try.underlying10, fun _ => rfl⟩
theorem ti22_ok : TiOk Try.prog 22 ti22 := ⟨⟨Try.t22, _, Try.type22, rfl, rfl, rfl, by kernel_rfl, rfl⟩, Try.underlying22, fun _ => rfl⟩
theorem ti36_ok : TiOk Try.prog 36 ti36 := ⟨⟨Try.t36, _, Try.type36, rfl, rfl, rfl, by kernel_rfl, rfl⟩, ⟨_, Try.underlying36, rfl, nm_ok (by kernel_rfl), Try.stoodInHeld36⟩, fun h => nomatch h⟩
theorem ti38_ok : TiOk Try.prog 38 ti38 := ⟨⟨Try.t38, _, Try.type38, rfl, rfl, rfl, by kernel_rfl, rfl⟩, ⟨_, Try.underlying38, rfl, nm_ok (by kernel_rfl), Try.stoodInHeld38⟩, fun h => nomatch h⟩
theorem ti45_ok : TiOk Try.prog 45 ti45 := ⟨⟨Try.t45, _, Try.type45, rfl, rfl, rfl, by kernel_rfl, rfl⟩, Try.underlying45, fun _ => rfl⟩
theorem ti50_ok : TiOk Try.prog 50 ti50 := ⟨⟨Try.t50, _, Try.type50, rfl, rfl, rfl, by kernel_rfl, rfl⟩, ⟨_, Try.underlying50, rfl, nm_ok (by kernel_rfl), Try.stoodInHeld50⟩, fun h => nomatch h⟩
theorem ti56_ok : TiOk Try.prog 56 ti56 := ⟨⟨Try.t56, _, Try.type56, rfl, rfl, rfl, by kernel_rfl, rfl⟩, ⟨_, Try.underlying56, rfl, nm_ok (by kernel_rfl), Try.stoodInHeld56⟩, fun h => nomatch h⟩
theorem ti68_ok : TiOk Try.prog 68 ti68 := ⟨⟨Try.t68, _, Try.type68, rfl, rfl, rfl, by kernel_rfl, rfl⟩, ⟨_, Try.underlying68, rfl⟩, fun _ => rfl⟩
theorem ti69_ok : TiOk Try.prog 69 ti69 := ⟨⟨Try.t69, _, Try.type69, rfl, rfl, rfl, by kernel_rfl, rfl⟩, ⟨_, Try.underlying69, rfl⟩, fun _ => rfl⟩
theorem ti71_ok : TiOk Try.prog 71 ti71 := ⟨⟨Try.t71, _, Try.type71, rfl, rfl, rfl, by kernel_rfl, rfl⟩, ⟨_, Try.underlying71, rfl, nm_ok (by kernel_rfl), Try.stoodInHeld71⟩, fun h => nomatch h⟩
theorem ti75_ok : TiOk Try.prog 75 ti75 := ⟨⟨Try.t75, _, Try.type75, rfl, rfl, rfl, by kernel_rfl, rfl⟩, ⟨_, Try.underlying75, rfl⟩, fun _ => rfl⟩
theorem ti76_ok : TiOk Try.prog 76 ti76 := ⟨⟨Try.t76, _, Try.type76, rfl, rfl, rfl, by kernel_rfl, rfl⟩, ⟨_, Try.underlying76, rfl⟩, fun _ => rfl⟩
theorem ti77_ok : TiOk Try.prog 77 ti77 := ⟨⟨Try.t77, _, Try.type77, rfl, rfl, rfl, by kernel_rfl, rfl⟩, ⟨_, Try.underlying77, rfl⟩, fun _ => rfl⟩
theorem ti82_ok : TiOk Try.prog 82 ti82 := ⟨⟨Try.t82, _, Try.type82, rfl, rfl, rfl, by kernel_rfl, rfl⟩, ⟨_, Try.underlying82, rfl⟩, fun _ => rfl⟩
theorem ti86_ok : TiOk Try.prog 86 ti86 := ⟨⟨Try.t86, _, Try.type86, rfl, rfl, rfl, by kernel_rfl, rfl⟩, Try.underlying86, fun _ => rfl⟩
theorem ti88_ok : TiOk Try.prog 88 ti88 := ⟨⟨Try.t88, _, Try.type88, rfl, rfl, rfl, by kernel_rfl, rfl⟩, ⟨_, Try.underlying88, rfl, nm_ok (by kernel_rfl), Try.stoodInHeld88⟩, fun h => nomatch h⟩
theorem ti93_ok : TiOk Try.prog 93 ti93 := ⟨⟨Try.t93, _, Try.type93, rfl, rfl, rfl, by kernel_rfl, rfl⟩, ⟨_, Try.underlying93, rfl⟩, fun _ => rfl⟩
theorem ti94_ok : TiOk Try.prog 94 ti94 := ⟨⟨Try.t94, _, Try.type94, rfl, rfl, rfl, by kernel_rfl, rfl⟩, Try.underlying94, fun _ => rfl⟩
theorem ti96_ok : TiOk Try.prog 96 ti96 := ⟨⟨Try.t96, _, Try.type96, rfl, rfl, rfl, by kernel_rfl, rfl⟩, ⟨_, Try.underlying96, rfl, nm_ok (by kernel_rfl), Try.stoodInHeld96⟩, fun h => nomatch h⟩
theorem ti102_ok : TiOk Try.prog 102 ti102 := ⟨⟨Try.t102, _, Try.type102, rfl, rfl, rfl, by kernel_rfl, rfl⟩, Try.underlying102, fun _ => rfl⟩
theorem ti112_ok : TiOk Try.prog 112 ti112 := ⟨⟨Try.t112, _, Try.type112, rfl, rfl, rfl, by kernel_rfl, rfl⟩, ⟨_, Try.underlying112, rfl, nm_ok (by kernel_rfl), Try.stoodInHeld112⟩, fun h => nomatch h⟩
theorem ti131_ok : TiOk Try.prog 131 ti131 := ⟨⟨Try.t131, _, Try.type131, rfl, rfl, rfl, by kernel_rfl, rfl⟩, Try.underlying131, fun _ => rfl⟩
theorem tyTab_ok : AllT (TiOk Try.prog) 0 tyTab := .n (.s (ti1_ok) (.s (ti2_ok) (.s (ti3_ok) (.s (ti4_ok) (.s (ti5_ok) (.s (ti6_ok) (.s (ti7_ok) (.n (.s (ti9_ok) (.s (ti10_ok) (.n (.n (.n (.n (.n (.n (.n (.n (.n (.n (.n (.s (ti22_ok) (.n (.n (.n (.n (.n (.n (.n (.n (.n (.n (.n (.n (.n (.s (ti36_ok) (.n (.s (ti38_ok) (.n (.n (.n (.n (.n (.n (.s (ti45_ok) (.n (.n (.n (.n (.s (ti50_ok) (.n (.n (.n (.n (.n (.s (ti56_ok) (.n (.n (.n (.n (.n (.n (.n (.n (.n (.n (.n (.s (ti68_ok) (.s (ti69_ok) (.n (.s (ti71_ok) (.n (.n (.n (.s (ti75_ok) (.s (ti76_ok) (.s (ti77_ok) (.n (.n (.n (.n (.s (ti82_ok) (.n (.n (.n (.s (ti86_ok) (.n (.s (ti88_ok) (.n (.n (.n (.n (.s (ti93_ok) (.s (ti94_ok) (.n (.s (ti96_ok) (.n (.n (.n (.n (.n (.s (ti102_ok) (.n (.n (.n (.n (.n (.n (.n (.n (.n (.s (ti112_ok) (.n (.n (.n (.n (.n (.n (.n (.n (.n (.n (.n (.n (.n (.n (.n (.n (.n (.n (.s (ti131_ok) (.e))))))))))))))))))))))))))))))))))))))))))))))))))))))))))))))))))))))))))))))))))))))))))))))))))))))))))))))))))))))))))))))))))))
def DtOk (t : TypeId) (d : Ty) : Prop := (fun t d => ∃ i q z, tyTab.getD t none = some i ∧ i.size = d.size ∧ i.bytes ≤ 128 ∧ i.k.isAgg = d.isPr ∧ Try.prog.info? t = some q ∧ q.size = d.size ∧ q.bytes = i.bytes ∧ q.zero = some z ∧ dfltOk d z.cells.toList = true) t d
theorem dt2_ok : DtOk 2 (.int .i64) := ⟨ti2, Try.t2, _, rfl, rfl, by decide, rfl, Try.type2, rfl, rfl, rfl, by kernel_rfl⟩
theorem dt3_ok : DtOk 3 (.int .i64) := ⟨ti3, Try.t3, _, rfl, rfl, by decide, rfl, Try.type3, rfl, rfl, rfl, by kernel_rfl⟩
theorem dt4_ok : DtOk 4 (.bool) := ⟨ti4, Try.t4, _, rfl, rfl, by decide, rfl, Try.type4, rfl, rfl, rfl, by kernel_rfl⟩
theorem dt5_ok : DtOk 5 (.int .u8) := ⟨ti5, Try.t5, _, rfl, rfl, by decide, rfl, Try.type5, rfl, rfl, rfl, by kernel_rfl⟩
theorem dt6_ok : DtOk 6 (.int .u8) := ⟨ti6, Try.t6, _, rfl, rfl, by decide, rfl, Try.type6, rfl, rfl, rfl, by kernel_rfl⟩
theorem dt7_ok : DtOk 7 (.pr (.int .i64) (.pr (.int .i64) (.pr (.bool) (.int .u8)))) := ⟨ti7, Try.t7, _, rfl, rfl, by decide, rfl, Try.type7, rfl, rfl, rfl, by kernel_rfl⟩
theorem dt9_ok : DtOk 9 (.str) := ⟨ti9, Try.t9, _, rfl, rfl, by decide, rfl, Try.type9, rfl, rfl, rfl, by kernel_rfl⟩
theorem dt10_ok : DtOk 10 (.str) := ⟨ti10, Try.t10, _, rfl, rfl, by decide, rfl, Try.type10, rfl, rfl, rfl, by kernel_rfl⟩
theorem dt22_ok : DtOk 22 (.sl (.int .i64)) := ⟨ti22, Try.t22, _, rfl, rfl, by decide, rfl, Try.type22, rfl, rfl, rfl, by kernel_rfl⟩
theorem dt36_ok : DtOk 36 (.pr (.bool) (.sl (.int .i64))) := ⟨ti36, Try.t36, _, rfl, rfl, by decide, rfl, Try.type36, rfl, rfl, rfl, by kernel_rfl⟩
theorem dt38_ok : DtOk 38 (.pr (.bool) (.sl (.int .i64))) := ⟨ti38, Try.t38, _, rfl, rfl, by decide, rfl, Try.type38, rfl, rfl, rfl, by kernel_rfl⟩
theorem dt45_ok : DtOk 45 (.sl (.int .u8)) := ⟨ti45, Try.t45, _, rfl, rfl, by decide, rfl, Try.type45, rfl, rfl, rfl, by kernel_rfl⟩
theorem dt50_ok : DtOk 50 (.pr (.int .i64) (.pr (.int .i64) (.int .i64))) := ⟨ti50, Try.t50, _, rfl, rfl, by decide, rfl, Try.type50, rfl, rfl, rfl, by kernel_rfl⟩
theorem dt56_ok : DtOk 56 (.pr (.int .i64) (.pr (.int .i64) (.int .i64))) := ⟨ti56, Try.t56, _, rfl, rfl, by decide, rfl, Try.type56, rfl, rfl, rfl, by kernel_rfl⟩
theorem dt71_ok : DtOk 71 (.pr (.sl (.int .i64)) (.pr (.int .i64) (.bool))) := ⟨ti71, Try.t71, _, rfl, rfl, by decide, rfl, Try.type71, rfl, rfl, rfl, by kernel_rfl⟩
theorem dt86_ok : DtOk 86 (.sl (.int .i64)) := ⟨ti86, Try.t86, _, rfl, rfl, by decide, rfl, Try.type86, rfl, rfl, rfl, by kernel_rfl⟩
theorem dt88_ok : DtOk 88 (.pr (.bool) (.sl (.int .i64))) := ⟨ti88, Try.t88, _, rfl, rfl, by decide, rfl, Try.type88, rfl, rfl, rfl, by kernel_rfl⟩
theorem dt94_ok : DtOk 94 (.int .u64) := ⟨ti94, Try.t94, _, rfl, rfl, by decide, rfl, Try.type94, rfl, rfl, rfl, by kernel_rfl⟩
theorem dt96_ok : DtOk 96 (.pr (.sl (.int .u8)) (.pr (.int .i64) (.int .u64))) := ⟨ti96, Try.t96, _, rfl, rfl, by decide, rfl, Try.type96, rfl, rfl, rfl, by kernel_rfl⟩
theorem dt102_ok : DtOk 102 (.int .u64) := ⟨ti102, Try.t102, _, rfl, rfl, by decide, rfl, Try.type102, rfl, rfl, rfl, by kernel_rfl⟩
theorem dt112_ok : DtOk 112 (.pr (.sl (.int .i64)) (.pr (.int .i64) (.bool))) := ⟨ti112, Try.t112, _, rfl, rfl, by decide, rfl, Try.type112, rfl, rfl, rfl, by kernel_rfl⟩
theorem dt131_ok : DtOk 131 (.int .u32) := ⟨ti131, Try.t131, _, rfl, rfl, by decide, rfl, Try.type131, rfl, rfl, rfl, by kernel_rfl⟩
theorem dtTab_ok : AllT DtOk 0 dtTab := .n (.n (.s (dt2_ok) (.s (dt3_ok) (.s (dt4_ok) (.s (dt5_ok) (.s (dt6_ok) (.s (dt7_ok) (.n (.s (dt9_ok) (.s (dt10_ok) (.n (.n (.n (.n (.n (.n (.n (.n (.n (.n (.n (.s (dt22_ok) (.n (.n (.n (.n (.n (.n (.n (.n (.n (.n (.n (.n (.n (.s (dt36_ok) (.n (.s (dt38_ok) (.n (.n (.n (.n (.n (.n (.s (dt45_ok) (.n (.n (.n (.n (.s (dt50_ok) (.n (.n (.n (.n (.n (.s (dt56_ok) (.n (.n (.n (.n (.n (.n (.n (.n (.n (.n (.n (.n (.n (.n (.s (dt71_ok) (.n (.n (.n (.n (.n (.n (.n (.n (.n (.n (.n (.n (.n (.n (.s (dt86_ok) (.n (.s (dt88_ok) (.n (.n (.n (.n (.n (.s (dt94_ok) (.n (.s (dt96_ok) (.n (.n (.n (.n (.n (.s (dt102_ok) (.n (.n (.n (.n (.n (.n (.n (.n (.n (.s (dt112_ok) (.n (.n (.n (.n (.n (.n (.n (.n (.n (.n (.n (.n (.n (.n (.n (.n (.n (.n (.s (dt131_ok) (.e))))))))))))))))))))))))))))))))))))))))))))))))))))))))))))))))))))))))))))))))))))))))))))))))))))))))))))))))))))))))))))))))))))
def FnOk (f : FuncId) (x : Func) : Prop := Try.prog.funcs[f]? = some x ∧ (x.name == "runtime.NumGoroutine") = false ∧ x.body.isNone = false
theorem fn3_ok : FnOk 3 Try.f3 := ⟨Try.func3, by kernel_rfl, by kernel_rfl⟩
theorem fn4_ok : FnOk 4 Try.f4 := ⟨Try.func4, by kernel_rfl, by kernel_rfl⟩
theorem fn5_ok : FnOk 5 Try.f5 := ⟨Try.func5, by kernel_rfl, by kernel_rfl⟩
theorem fn6_ok : FnOk 6 Try.f6 := ⟨Try.func6, by kernel_rfl, by kernel_rfl⟩
theorem fn7_ok : FnOk 7 Try.f7 := ⟨Try.func7, by kernel_rfl, by kernel_rfl⟩
theorem fn8_ok : FnOk 8 Try.f8 := ⟨Try.func8, by kernel_rfl, by kernel_rfl⟩
theorem fn9_ok : FnOk 9 Try.f9 := ⟨Try.func9, by kernel_rfl, by kernel_rfl⟩
theorem fn10_ok : FnOk 10 Try.f10 := ⟨Try.func10, by kernel_rfl, by kernel_rfl⟩
theorem fn11_ok : FnOk 11 Try.f11 := ⟨Try.func11, by kernel_rfl, by kernel_rfl⟩
theorem fn12_ok : FnOk 12 Try.f12 := ⟨Try.func12, by kernel_rfl, by kernel_rfl⟩
theorem fn13_ok : FnOk 13 Try.f13 := ⟨Try.func13, by kernel_rfl, by kernel_rfl⟩
theorem fn14_ok : FnOk 14 Try.f14 := ⟨Try.func14, by kernel_rfl, by kernel_rfl⟩
theorem fn15_ok : FnOk 15 Try.f15 := ⟨Try.func15, by kernel_rfl, by kernel_rfl⟩
theorem fn16_ok : FnOk 16 Try.f16 := ⟨Try.func16, by kernel_rfl, by kernel_rfl⟩
theorem fn17_ok : FnOk 17 Try.f17 := ⟨Try.func17, by kernel_rfl, by kernel_rfl⟩
theorem fn18_ok : FnOk 18 Try.f18 := ⟨Try.func18, by kernel_rfl, by kernel_rfl⟩
theorem fn19_ok : FnOk 19 Try.f19 := ⟨Try.func19, by kernel_rfl, by kernel_rfl⟩
theorem fn20_ok : FnOk 20 Try.f20 := ⟨Try.func20, by kernel_rfl, by kernel_rfl⟩
theorem fn21_ok : FnOk 21 Try.f21 := ⟨Try.func21, by kernel_rfl, by kernel_rfl⟩
theorem fn22_ok : FnOk 22 Try.f22 := ⟨Try.func22, by kernel_rfl, by kernel_rfl⟩
theorem fn23_ok : FnOk 23 Try.f23 := ⟨Try.func23, by kernel_rfl, by kernel_rfl⟩
theorem fn24_ok : FnOk 24 Try.f24 := ⟨Try.func24, by kernel_rfl, by kernel_rfl⟩
theorem fn25_ok : FnOk 25 Try.f25 := ⟨Try.func25, by kernel_rfl, by kernel_rfl⟩
theorem fn26_ok : FnOk 26 Try.f26 := ⟨Try.func26, by kernel_rfl, by kernel_rfl⟩
theorem fn27_ok : FnOk 27 Try.f27 := ⟨Try.func27, by kernel_rfl, by kernel_rfl⟩
theorem fn28_ok : FnOk 28 Try.f28 := ⟨Try.func28, by kernel_rfl, by kernel_rfl⟩
theorem fn29_ok : FnOk 29 Try.f29 := ⟨Try.func29, by kernel_rfl, by kernel_rfl⟩
theorem fn30_ok : FnOk 30 Try.f30 := ⟨Try.func30, by kernel_rfl, by kernel_rfl⟩
theorem fn31_ok : FnOk 31 Try.f31 := ⟨Try.func31, by kernel_rfl, by kernel_rfl⟩
theorem fn32_ok : FnOk 32 Try.f32 := ⟨Try.func32, by kernel_rfl, by kernel_rfl⟩
theorem fn33_ok : FnOk 33 Try.f33 := ⟨Try.func33, by kernel_rfl, by kernel_rfl⟩
theorem fn34_ok : FnOk 34 Try.f34 := ⟨Try.func34, by kernel_rfl, by kernel_rfl⟩
theorem fn35_ok : FnOk 35 Try.f35 := ⟨Try.func35, by kernel_rfl, by kernel_rfl⟩
theorem fn36_ok : FnOk 36 Try.f36 := ⟨Try.func36, by kernel_rfl, by kernel_rfl⟩
theorem fn37_ok : FnOk 37 Try.f37 := ⟨Try.func37, by kernel_rfl, by kernel_rfl⟩
theorem fn38_ok : FnOk 38 Try.f38 := ⟨Try.func38, by kernel_rfl, by kernel_rfl⟩
theorem fn39_ok : FnOk 39 Try.f39 := ⟨Try.func39, by kernel_rfl, by kernel_rfl⟩
theorem fn40_ok : FnOk 40 Try.f40 := ⟨Try.func40, by kernel_rfl, by kernel_rfl⟩
theorem fn41_ok : FnOk 41 Try.f41 := ⟨Try.func41, by kernel_rfl, by kernel_rfl⟩
theorem fn42_ok : FnOk 42 Try.f42 := ⟨Try.func42, by kernel_rfl, by kernel_rfl⟩
theorem fn43_ok : FnOk 43 Try.f43 := ⟨Try.func43, by kernel_rfl, by kernel_rfl⟩
theorem fn44_ok : FnOk 44 Try.f44 := ⟨Try.func44, by kernel_rfl, by kernel_rfl⟩
theorem fn45_ok : FnOk 45 Try.f45 := ⟨Try.func45, by kernel_rfl, by kernel_rfl⟩
theorem fn46_ok : FnOk 46 Try.f46 := ⟨Try.func46, by kernel_rfl, by kernel_rfl⟩
theorem fn47_ok : FnOk 47 Try.f47 := ⟨Try.func47, by kernel_rfl, by kernel_rfl⟩
theorem fn48_ok : FnOk 48 Try.f48 := ⟨Try.func48, by kernel_rfl, by kernel_rfl⟩
theorem fn49_ok : FnOk 49 Try.f49 := ⟨Try.func49, by kernel_rfl, by kernel_rfl⟩
theorem fn50_ok : FnOk 50 Try.f50 := ⟨Try.func50, by kernel_rfl, by kernel_rfl⟩
theorem fn51_ok : FnOk 51 Try.f51 := ⟨Try.func51, by kernel_rfl, by kernel_rfl⟩
theorem fn52_ok : FnOk 52 Try.f52 := ⟨Try.func52, by kernel_rfl, by kernel_rfl⟩
theorem fn53_ok : FnOk 53 Try.f53 := ⟨Try.func53, by kernel_rfl, by kernel_rfl⟩
theorem fn54_ok : FnOk 54 Try.f54 := ⟨Try.func54, by kernel_rfl, by kernel_rfl⟩
theorem fn55_ok : FnOk 55 Try.f55 := ⟨Try.func55, by kernel_rfl, by kernel_rfl⟩
theorem fn56_ok : FnOk 56 Try.f56 := ⟨Try.func56, by kernel_rfl, by kernel_rfl⟩
theorem fn57_ok : FnOk 57 Try.f57 := ⟨Try.func57, by kernel_rfl, by kernel_rfl⟩
theorem fn58_ok : FnOk 58 Try.f58 := ⟨Try.func58, by kernel_rfl, by kernel_rfl⟩
theorem fn59_ok : FnOk 59 Try.f59 := ⟨Try.func59, by kernel_rfl, by kernel_rfl⟩
theorem fn60_ok : FnOk 60 Try.f60 := ⟨Try.func60, by kernel_rfl, by kernel_rfl⟩
theorem fn61_ok : FnOk 61 Try.f61 := ⟨Try.func61, by kernel_rfl, by kernel_rfl⟩
theorem fn62_ok : FnOk 62 Try.f62 := ⟨Try.func62, by kernel_rfl, by kernel_rfl⟩
theorem fn63_ok : FnOk 63 Try.f63 := ⟨Try.func63, by kernel_rfl, by kernel_rfl⟩
theorem fn64_ok : FnOk 64 Try.f64 := ⟨Try.func64, by kernel_rfl, by kernel_rfl⟩
theorem fn65_ok : FnOk 65 Try.f65 := ⟨Try.func65, by kernel_rfl, by kernel_rfl⟩
theorem fn66_ok : FnOk 66 Try.f66 := ⟨Try.func66, by kernel_rfl, by kernel_rfl⟩
theorem fn67_ok : FnOk 67 Try.f67 := ⟨Try.func67, by kernel_rfl, by kernel_rfl⟩
theorem fn68_ok : FnOk 68 Try.f68 := ⟨Try.func68, by kernel_rfl, by kernel_rfl⟩
theorem fn69_ok : FnOk 69 Try.f69 := ⟨Try.func69, by kernel_rfl, by kernel_rfl⟩
theorem fn70_ok : FnOk 70 Try.f70 := ⟨Try.func70, by kernel_rfl, by kernel_rfl⟩
theorem fn71_ok : FnOk 71 Try.f71 := ⟨Try.func71, by kernel_rfl, by kernel_rfl⟩
theorem fn72_ok : FnOk 72 Try.f72 := ⟨Try.func72, by kernel_rfl, by kernel_rfl⟩
theorem fn73_ok : FnOk 73 Try.f73 := ⟨Try.func73, by kernel_rfl, by kernel_rfl⟩
theorem fn74_ok : FnOk 74 Try.f74 := ⟨Try.func74, by kernel_rfl, by kernel_rfl⟩
theorem fn75_ok : FnOk 75 Try.f75 := ⟨Try.func75, by kernel_rfl, by kernel_rfl⟩
theorem fn76_ok : FnOk 76 Try.f76 := ⟨Try.func76, by kernel_rfl, by kernel_rfl⟩
theorem fn77_ok : FnOk 77 Try.f77 := ⟨Try.func77, by kernel_rfl, by kernel_rfl⟩
theorem fn78_ok : FnOk 78 Try.f78 := ⟨Try.func78, by kernel_rfl, by kernel_rfl⟩
theorem fn79_ok : FnOk 79 Try.f79 := ⟨Try.func79, by kernel_rfl, by kernel_rfl⟩
theorem fn80_ok : FnOk 80 Try.f80 := ⟨Try.func80, by kernel_rfl, by kernel_rfl⟩
theorem fn81_ok : FnOk 81 Try.f81 := ⟨Try.func81, by kernel_rfl, by kernel_rfl⟩
theorem fn82_ok : FnOk 82 Try.f82 := ⟨Try.func82, by kernel_rfl, by kernel_rfl⟩
theorem fn83_ok : FnOk 83 Try.f83 := ⟨Try.func83, by kernel_rfl, by kernel_rfl⟩
theorem fn84_ok : FnOk 84 Try.f84 := ⟨Try.func84, by kernel_rfl, by kernel_rfl⟩
theorem fn85_ok : FnOk 85 Try.f85 := ⟨Try.func85, by kernel_rfl, by kernel_rfl⟩
theorem fn86_ok : FnOk 86 Try.f86 := ⟨Try.func86, by kernel_rfl, by kernel_rfl⟩
theorem fn87_ok : FnOk 87 Try.f87 := ⟨Try.func87, by kernel_rfl, by kernel_rfl⟩
theorem fn88_ok : FnOk 88 Try.f88 := ⟨Try.func88, by kernel_rfl, by kernel_rfl⟩
theorem fn89_ok : FnOk 89 Try.f89 := ⟨Try.func89, by kernel_rfl, by kernel_rfl⟩
theorem fn90_ok : FnOk 90 Try.f90 := ⟨Try.func90, by kernel_rfl, by kernel_rfl⟩
theorem fn91_ok : FnOk 91 Try.f91 := ⟨Try.func91, by kernel_rfl, by kernel_rfl⟩
theorem fn92_ok : FnOk 92 Try.f92 := ⟨Try.func92, by kernel_rfl, by kernel_rfl⟩
theorem fn93_ok : FnOk 93 Try.f93 := ⟨Try.func93, by kernel_rfl, by kernel_rfl⟩
theorem fn94_ok : FnOk 94 Try.f94 := ⟨Try.func94, by kernel_rfl, by kernel_rfl⟩
theorem fn95_ok : FnOk 95 Try.f95 := ⟨Try.func95, by kernel_rfl, by kernel_rfl⟩
theorem fn96_ok : FnOk 96 Try.f96 := ⟨Try.func96, by kernel_rfl, by kernel_rfl⟩
theorem fn97_ok : FnOk 97 Try.f97 := ⟨Try.func97, by kernel_rfl, by kernel_rfl⟩
theorem fn98_ok : FnOk 98 Try.f98 := ⟨Try.func98, by kernel_rfl, by kernel_rfl⟩
theorem fn99_ok : FnOk 99 Try.f99 := ⟨Try.func99, by kernel_rfl, by kernel_rfl⟩
theorem fn100_ok : FnOk 100 Try.f100 := ⟨Try.func100, by kernel_rfl, by kernel_rfl⟩
theorem fn101_ok : FnOk 101 Try.f101 := ⟨Try.func101, by kernel_rfl, by kernel_rfl⟩
theorem fn102_ok : FnOk 102 Try.f102 := ⟨Try.func102, by kernel_rfl, by kernel_rfl⟩
theorem fn103_ok : FnOk 103 Try.f103 := ⟨Try.func103, by kernel_rfl, by kernel_rfl⟩
theorem fn104_ok : FnOk 104 Try.f104 := ⟨Try.func104, by kernel_rfl, by kernel_rfl⟩
theorem fn105_ok : FnOk 105 Try.f105 := ⟨Try.func105, by kernel_rfl, by kernel_rfl⟩
theorem fn106_ok : FnOk 106 Try.f106 := ⟨Try.func106, by kernel_rfl, by kernel_rfl⟩
theorem fn107_ok : FnOk 107 Try.f107 := ⟨Try.func107, by kernel_rfl, by kernel_rfl⟩
theorem fn108_ok : FnOk 108 Try.f108 := ⟨Try.func108, by kernel_rfl, by kernel_rfl⟩
theorem fn109_ok : FnOk 109 Try.f109 := ⟨Try.func109, by kernel_rfl, by kernel_rfl⟩
theorem fn110_ok : FnOk 110 Try.f110 := ⟨Try.func110, by kernel_rfl, by kernel_rfl⟩
theorem fn111_ok : FnOk 111 Try.f111 := ⟨Try.func111, by kernel_rfl, by kernel_rfl⟩
theorem fn112_ok : FnOk 112 Try.f112 := ⟨Try.func112, by kernel_rfl, by kernel_rfl⟩
theorem fn113_ok : FnOk 113 Try.f113 := ⟨Try.func113, by kernel_rfl, by kernel_rfl⟩
theorem fn114_ok : FnOk 114 Try.f114 := ⟨Try.func114, by kernel_rfl, by kernel_rfl⟩
theorem fn115_ok : FnOk 115 Try.f115 := ⟨Try.func115, by kernel_rfl, by kernel_rfl⟩
theorem fn116_ok : FnOk 116 Try.f116 := ⟨Try.func116, by kernel_rfl, by kernel_rfl⟩
theorem fn117_ok : FnOk 117 Try.f117 := ⟨Try.func117, by kernel_rfl, by kernel_rfl⟩
theorem fn118_ok : FnOk 118 Try.f118 := ⟨Try.func118, by kernel_rfl, by kernel_rfl⟩
theorem fn119_ok : FnOk 119 Try.f119 := ⟨Try.func119, by kernel_rfl, by kernel_rfl⟩
theorem fn120_ok : FnOk 120 Try.f120 := ⟨Try.func120, by kernel_rfl, by kernel_rfl⟩
theorem fn121_ok : FnOk 121 Try.f121 := ⟨Try.func121, by kernel_rfl, by kernel_rfl⟩
theorem fn122_ok : FnOk 122 Try.f122 := ⟨Try.func122, by kernel_rfl, by kernel_rfl⟩
theorem fn123_ok : FnOk 123 Try.f123 := ⟨Try.func123, by kernel_rfl, by kernel_rfl⟩
theorem fn124_ok : FnOk 124 Try.f124 := ⟨Try.func124, by kernel_rfl, by kernel_rfl⟩
theorem fn125_ok : FnOk 125 Try.f125 := ⟨Try.func125, by kernel_rfl, by kernel_rfl⟩
theorem fn126_ok : FnOk 126 Try.f126 := ⟨Try.func126, by kernel_rfl, by kernel_rfl⟩
theorem fn127_ok : FnOk 127 Try.f127 := ⟨Try.func127, by kernel_rfl, by kernel_rfl⟩
theorem fn128_ok : FnOk 128 Try.f128 := ⟨Try.func128, by kernel_rfl, by kernel_rfl⟩
theorem fn129_ok : FnOk 129 Try.f129 := ⟨Try.func129, by kernel_rfl, by kernel_rfl⟩
theorem fn130_ok : FnOk 130 Try.f130 := ⟨Try.func130, by kernel_rfl, by kernel_rfl⟩
theorem fn131_ok : FnOk 131 Try.f131 := ⟨Try.func131, by kernel_rfl, by kernel_rfl⟩
theorem fn132_ok : FnOk 132 Try.f132 := ⟨Try.func132, by kernel_rfl, by kernel_rfl⟩
theorem fn133_ok : FnOk 133 Try.f133 := ⟨Try.func133, by kernel_rfl, by kernel_rfl⟩
theorem fn134_ok : FnOk 134 Try.f134 := ⟨Try.func134, by kernel_rfl, by kernel_rfl⟩
theorem fn135_ok : FnOk 135 Try.f135 := ⟨Try.func135, by kernel_rfl, by kernel_rfl⟩
theorem fn136_ok : FnOk 136 Try.f136 := ⟨Try.func136, by kernel_rfl, by kernel_rfl⟩
theorem fn137_ok : FnOk 137 Try.f137 := ⟨Try.func137, by kernel_rfl, by kernel_rfl⟩
theorem fn138_ok : FnOk 138 Try.f138 := ⟨Try.func138, by kernel_rfl, by kernel_rfl⟩
theorem fn139_ok : FnOk 139 Try.f139 := ⟨Try.func139, by kernel_rfl, by kernel_rfl⟩
theorem fn140_ok : FnOk 140 Try.f140 := ⟨Try.func140, by kernel_rfl, by kernel_rfl⟩
theorem fn141_ok : FnOk 141 Try.f141 := ⟨Try.func141, by kernel_rfl, by kernel_rfl⟩
theorem fn142_ok : FnOk 142 Try.f142 := ⟨Try.func142, by kernel_rfl, by kernel_rfl⟩
theorem fn143_ok : FnOk 143 Try.f143 := ⟨Try.func143, by kernel_rfl, by kernel_rfl⟩
theorem fn144_ok : FnOk 144 Try.f144 := ⟨Try.func144, by kernel_rfl, by kernel_rfl⟩
theorem fn145_ok : FnOk 145 Try.f145 := ⟨Try.func145, by kernel_rfl, by kernel_rfl⟩
theorem fn146_ok : FnOk 146 Try.f146 := ⟨Try.func146, by kernel_rfl, by kernel_rfl⟩
theorem fn147_ok : FnOk 147 Try.f147 := ⟨Try.func147, by kernel_rfl, by kernel_rfl⟩
theorem fn148_ok : FnOk 148 Try.f148 := ⟨Try.func148, by kernel_rfl, by kernel_rfl⟩
theorem fn149_ok : FnOk 149 Try.f149 := ⟨Try.func149, by kernel_rfl, by kernel_rfl⟩
theorem fn150_ok : FnOk 150 Try.f150 := ⟨Try.func150, by kernel_rfl, by kernel_rfl⟩
theorem fn151_ok : FnOk 151 Try.f151 := ⟨Try.func151, by kernel_rfl, by kernel_rfl⟩
theorem fn152_ok : FnOk 152 Try.f152 := ⟨Try.func152, by kernel_rfl, by kernel_rfl⟩
theorem fn153_ok : FnOk 153 Try.f153 := ⟨Try.func153, by kernel_rfl, by kernel_rfl⟩
theorem fn154_ok : FnOk 154 Try.f154 := ⟨Try.func154, by kernel_rfl, by kernel_rfl⟩
theorem fn155_ok : FnOk 155 Try.f155 := ⟨Try.func155, by kernel_rfl, by kernel_rfl⟩
theorem fn156_ok : FnOk 156 Try.f156 := ⟨Try.func156, by kernel_rfl, by kernel_rfl⟩
theorem fn157_ok : FnOk 157 Try.f157 := ⟨Try.func157, by kernel_rfl, by kernel_rfl⟩
theorem fn158_ok : FnOk 158 Try.f158 := ⟨Try.func158, by kernel_rfl, by kernel_rfl⟩
theorem fn159_ok : FnOk 159 Try.f159 := ⟨Try.func159, by kernel_rfl, by kernel_rfl⟩
theorem fn160_ok : FnOk 160 Try.f160 := ⟨Try.func160, by kernel_rfl, by kernel_rfl⟩
theorem fn161_ok : FnOk 161 Try.f161 := ⟨Try.func161, by kernel_rfl, by kernel_rfl⟩
theorem fn162_ok : FnOk 162 Try.f162 := ⟨Try.func162, by kernel_rfl, by kernel_rfl⟩
theorem fn163_ok : FnOk 163 Try.f163 := ⟨Try.func163, by kernel_rfl, by kernel_rfl⟩
theorem fn164_ok : FnOk 164 Try.f164 := ⟨Try.func164, by kernel_rfl, by kernel_rfl⟩
theorem fn165_ok : FnOk 165 Try.f165 := ⟨Try.func165, by kernel_rfl, by kernel_rfl⟩
theorem fn166_ok : FnOk 166 Try.f166 := ⟨Try.func166, by kernel_rfl, by kernel_rfl⟩
theorem fn167_ok : FnOk 167 Try.f167 := ⟨Try.func167, by kernel_rfl, by kernel_rfl⟩
theorem fn168_ok : FnOk 168 Try.f168 := ⟨Try.func168, by kernel_rfl, by kernel_rfl⟩
theorem fnTab_ok : AllT FnOk 0 fnTab := .n (.n (.n (.s (fn3_ok) (.s (fn4_ok) (.s (fn5_ok) (.s (fn6_ok) (.s (fn7_ok) (.s (fn8_ok) (.s (fn9_ok) (.s (fn10_ok) (.s (fn11_ok) (.s (fn12_ok) (.s (fn13_ok) (.s (fn14_ok) (.s (fn15_ok) (.s (fn16_ok) (.s (fn17_ok) (.s (fn18_ok) (.s (fn19_ok) (.s (fn20_ok) (.s (fn21_ok) (.s (fn22_ok) (.s (fn23_ok) (.s (fn24_ok) (.s (fn25_ok) (.s (fn26_ok) (.s (fn27_ok) (.s (fn28_ok) (.s (fn29_ok) (.s (fn30_ok) (.s (fn31_ok) (.s (fn32_ok) (.s (fn33_ok) (.s (fn34_ok) (.s (fn35_ok) (.s (fn36_ok) (.s (fn37_ok) (.s (fn38_ok) (.s (fn39_ok) (.s (fn40_ok) (.s (fn41_ok) (.s (fn42_ok) (.s (fn43_ok) (.s (fn44_ok) (.s (fn45_ok) (.s (fn46_ok) (.s (fn47_ok) (.s (fn48_ok) (.s (fn49_ok) (.s (fn50_ok) (.s (fn51_ok) (.s (fn52_ok) (.s (fn53_ok) (.s (fn54_ok) (.s (fn55_ok) (.s (fn56_ok) (.s (fn57_ok) (.s (fn58_ok) (.s (fn59_ok) (.s (fn60_ok) (.s (fn61_ok) (.s (fn62_ok) (.s (fn63_ok) (.s (fn64_ok) (.s (fn65_ok) (.s (fn66_ok) (.s (fn67_ok) (.s (fn68_ok) (.s (fn69_ok) (.s (fn70_ok) (.s (fn71_ok) (.s (fn72_ok) (.s (fn73_ok) (.s (fn74_ok) (.s (fn75_ok) (.s (fn76_ok) (.s (fn77_ok) (.s (fn78_ok) (.s (fn79_ok) (.s (fn80_ok) (.s (fn81_ok) (.s (fn82_ok) (.s (fn83_ok) (.s (fn84_ok) (.s (fn85_ok) (.s (fn86_ok) (.s (fn87_ok) (.s (fn88_ok) (.s (fn89_ok) (.s (fn90_ok) (.s (fn91_ok) (.s (fn92_ok) (.s (fn93_ok) (.s (fn94_ok) (.s (fn95_ok) (.s (fn96_ok) (.s (fn97_ok) (.s (fn98_ok) (.s (fn99_ok) (.s (fn100_ok) (.s (fn101_ok) (.s (fn102_ok) (.s (fn103_ok) (.s (fn104_ok) (.s (fn105_ok) (.s (fn106_ok) (.s (fn107_ok) (.s (fn108_ok) (.s (fn109_ok) (.s (fn110_ok) (.s (fn111_ok) (.s (fn112_ok) (.s (fn113_ok) (.s (fn114_ok) (.s (fn115_ok) (.s (fn116_ok) (.s (fn117_ok) (.s (fn118_ok) (.s (fn119_ok) (.s (fn120_ok) (.s (fn121_ok) (.s (fn122_ok) (.s (fn123_ok) (.s (fn124_ok) (.s (fn125_ok) (.s (fn126_ok) (.s (fn127_ok) (.s (fn128_ok) (.s (fn129_ok) (.s (fn130_ok) (.s (fn131_ok) (.s (fn132_ok) (.s (fn133_ok) (.s (fn134_ok) (.s (fn135_ok) (.s (fn136_ok) (.s (fn137_ok) (.s (fn138_ok) (.s (fn139_ok) (.s (fn140_ok) (.s (fn141_ok) (.s (fn142_ok) (.s (fn143_ok) (.s (fn144_ok) (.s (fn145_ok) (.s (fn146_ok) (.s (fn147_ok) (.s (fn148_ok) (.s (fn149_ok) (.s (fn150_ok) (.s (fn151_ok) (.s (fn152_ok) (.s (fn153_ok) (.s (fn154_ok) (.s (fn155_ok) (.s (fn156_ok) (.s (fn157_ok) (.s (fn158_ok) (.s (fn159_ok) (.s (fn160_ok) (.s (fn161_ok) (.s (fn162_ok) (.s (fn163_ok) (.s (fn164_ok) (.s (fn165_ok) (.s (fn166_ok) (.s (fn167_ok) (.s (fn168_ok) (.e)))))))))))))))))))))))))))))))))))))))))))))))))))))))))))))))))))))))))))))))))))))))))))))))))))))))))))))))))))))))))))))))))))))))))))))))))))))))))))))))))))))))))
theorem tbOk : TbOk Try.prog tb where
  fn f x h := by have := fnTab_ok.get f x h; rwa [Nat.zero_add] at this
  ty t i h := by have := tyTab_ok.get t i h; rwa [Nat.zero_add] at this
  dt t d h := by have := dtTab_ok.get t d h; rw [Nat.zero_add] at this; exact this
  mixed := by kernel_rfl
end Go.Proofs.Ytnlgciomdghfiaa.Fw

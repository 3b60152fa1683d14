/- The functions of the program and of the reference as the print spells them, once each: what the plain laws speak of. -/
import Derived.Below
import Derived.Deep.Draws
import Derived.Deep.AppendLies
import Derived.Maps.AppendAt
import Derived.OwnWalk
import Derived.Laws.BytesArg
import Derived.Laws.MakeOwn
import Derived.Laws.OwnMore
import Derived.Deep.OwnRows
import Derived.Tactics
import Derived.Lib.ConvBytes
import Derived.Laws.Slices
import Derived.WalkKit
import Derived.KernelRfl
import Derived.RowKit3
import Derived.Deep.LoopGhost
import Derived.Deep.QuietTactic
import Derived.BigQuiet
import Derived.WideLaws
import Derived.Deep.DeepCutAuto
import Derived.Deep.CutBlock
import Derived.Deep.RegionHeld3
import Derived.Laws.Rows
import Derived.Lib.AppendStr
import Derived.ArgAppend
import Derived.Laws.IdiomCopy
import Derived.OrdersHeld
import Derived.Laws.BitsLemmas
import Derived.RowKit
import Derived.Test.YtajlgfjmocgoeadWWords
import Derived.Test.YtajlgfjmocgoeadWLast
import Derived.Test.YtajlgfjmocgoeadWTab
import Derived.Test.YtajlgfjmocgoeadWFour
import Derived.Test.YtajlgfjmocgoeadWQPut
import Derived.Test.YtajlgfjmocgoeadWApart
import Derived.Test.YtajlgfjmocgoeadWArr
import Derived.Test.YtajlgfjmocgoeadWZeros
import Derived.Test.YtajlgfjmocgoeadWFoot
import Derived.Test.YtajlgfjmocgoeadWKept
import Derived.Test.YtajlgfjmocgoeadWShare
import Derived.Test.YtajlgfjmocgoeadWN
import Derived.Test.YtajlgfjmocgoeadWFootNe
import Derived.Test.YtajlgfjmocgoeadWAt
import Derived.Test.YtajlgfjmocgoeadWEqStruct
import Derived.Test.YtajlgfjmocgoeadWRepsOne
import Derived.Test.YtajlgfjmocgoeadWInv
import Derived.Test.YtajlgfjmocgoeadWInvWords
import Derived.Test.YtajlgfjmocgoeadWGuard
import Derived.Test.YtajlgfjmocgoeadWNEv
import Derived.Test.YtajlgfjmocgoeadWMore
namespace Go.Proofs.Ytajlgfjmocgoead.M
open Go.RowKit Go.Proofs.YtajlgfjmocgoeadW.PrintWords Go.Proofs.YtajlgfjmocgoeadW.PrintLast Go.Proofs.YtajlgfjmocgoeadW.PrintMore
set_option linter.unusedVariables false
def errW : Option Int → Value
  | none => .nilIface
  | some c => .iface 0 (.int .i64 c)
theorem errW_none : errW none = .nilIface := rfl
theorem errW_some (c : Int) : errW (some c) = .iface 0 (.int .i64 c) := rfl
def laws_FnExactConstants.f  : Option (Bool) := some true
def laws_FnExactConstants.Pure : Prop := laws_FnExactConstants.f  = some true
def spec_l1In.f (a0 : Int) (a1 : Int) (a2 : Int) : Option (Bool) := if a0 ≥ a1 then (some (decide (a0 ≤ a2))) else (some false)
def spec_l1Modulus.f (a0 : Int) : Option (Bool) := (spec_l1In.f a0 2 268435456).bind fun t101 => (some t101)
def spec_ShoupOf.f (a0 : Int) (a1 : Int) : Option (Int × Bool) := (spec_l1Modulus.f a1).bind fun t102 => (if t102 = true then ((spec_l1In.f a0 0 (wrap64 (a1 - 1))).bind fun t103 => (if t103 = true then (if a1 = 0 then (none) else (some (wrap64 (Int.tdiv (wrap64 (a0 * 4294967296)) a1), true))) else (some (0, false)))) else (some (0, false)))
def impl_in.f (a0 : Int) (a1 : Int) (a2 : Int) : Option (Bool) := if a1 ≤ a0 then (some (decide (a0 ≤ a2))) else (some false)
def impl_isModulus.f (a0 : Int) : Option (Bool) := (impl_in.f a0 2 268435456).bind fun t104 => (some t104)
def impl_shoup.f (a0 : Int) (a1 : Int) : Option (Int) := if a1 = 0 then (none) else (some (wrap64 (Int.tdiv (wrap64 (a0 * 4294967296)) a1)))
def impl_ShoupOf.f (a0 : Int) (a1 : Int) : Option (Int × Bool) := (impl_isModulus.f a1).bind fun t105 => (if t105 = true then ((impl_in.f a0 0 (wrap64 (a1 - 1))).bind fun t106 => (if t106 = true then ((impl_shoup.f a0 a1).bind fun t107 => (some (t107, true))) else (some (0, false)))) else (some (0, false)))
def laws_FnExactShoupOf.f (a0 : Int) (a1 : Int) : Option (Bool) := (spec_ShoupOf.f a0 a1).bind fun bt108 => ((impl_ShoupOf.f a0 a1).bind fun bt110 => (if bt110.1 = bt108.1 then (if (bt110.2 != bt108.2) = true then (some false) else (some true)) else (some false)))
def laws_FnExactShoupOf.Pure : Prop := ∀ (a0 : Int) (a1 : Int), (Lit.int .i64 a0).wf = true → (Lit.int .i64 a1).wf = true → laws_FnExactShoupOf.f a0 a1 = some true
def spec_ShoupMul.f (a0 : Int) (a1 : Int) (a2 : Int) (a3 : Int) : Option (Int × Bool) := (spec_ShoupOf.f a0 a2).bind fun bt104 => (if bt104.2 = true then (if bt104.1 = a1 then ((spec_l1In.f a3 0 4294967295).bind fun t106 => (if t106 = true then (some (wrap64 ((wrap64 (a0 * a3)) - (wrap64 ((wrap64 ((IntKind.u64.wrap ((IntKind.u64.wrap (a1)) * (IntKind.u64.wrap (a3)))) / 4294967296)) * a2))), true)) else (some (0, false)))) else (some (0, false))) else (some (0, false)))
def impl_ShoupMul.f (a0 : Int) (a1 : Int) (a2 : Int) (a3 : Int) : Option (Int × Bool) := (impl_isModulus.f a2).bind fun t108 => (if t108 = true then ((impl_in.f a0 0 (wrap64 (a2 - 1))).bind fun t109 => (if t109 = true then ((impl_shoup.f a0 a2).bind fun t110 => (if a1 = t110 then ((impl_in.f a3 0 4294967295).bind fun t111 => (if t111 = true then (some (wrap64 ((wrap64 (a0 * a3)) - (wrap64 ((wrap64 ((IntKind.u64.wrap ((IntKind.u64.wrap (a1)) * (IntKind.u64.wrap (a3)))) / 4294967296)) * a2))), true)) else (some (0, false)))) else (some (0, false)))) else (some (0, false)))) else (some (0, false)))
def laws_FnExactShoupMul.f (a0 : Int) (a1 : Int) (a2 : Int) (a3 : Int) : Option (Bool) := (spec_ShoupMul.f a0 a1 a2 a3).bind fun bt112 => ((impl_ShoupMul.f a0 a1 a2 a3).bind fun bt114 => (if bt114.1 = bt112.1 then (if (bt114.2 != bt112.2) = true then (some false) else (some true)) else (some false)))
def laws_FnExactShoupMul.Pure : Prop := ∀ (a0 : Int) (a1 : Int) (a2 : Int) (a3 : Int), (Lit.int .i64 a0).wf = true → (Lit.int .i64 a1).wf = true → (Lit.int .i64 a2).wf = true → (Lit.int .i64 a3).wf = true → laws_FnExactShoupMul.f a0 a1 a2 a3 = some true
def spec_l3Back.l0 : Nat → Int → Int → Int → Option (Int)
  | 0, _, _, _ => none
  | k + 1, x0, x1, x5 => if x1 > 0 then (spec_l3Back.l0 k (wrap64 (Int.tdiv x0 2)) (wrap64 (x1 - 1)) (wrap64 ((wrap64 (2 * x5)) + (Int.tmod x0 2)))) else (some x5)
def spec_l3Back.f (k : Nat) (a0 : Int) (a1 : Int) : Option (Int) := spec_l3Back.l0 k a0 a1 0
theorem spec_l3Back.mono_l : ∀ k, (∀ y0 y1 y2, LeO (spec_l3Back.l0 k y0 y1 y2) (spec_l3Back.l0 (k + 1) y0 y1 y2))
  | 0 => fun _ _ _ r h => by simp [spec_l3Back.l0] at h
  | k + 1 => by
    have ih0 := spec_l3Back.mono_l k
    · intro y0 y1 y2
      unfold spec_l3Back.l0
      repeat' first
      | (with_reducible exact ih0 _ _ _)
      | (with_reducible exact LeO.refl _)
      | (with_reducible exact LeO.none _)
      | (with_reducible refine LeO.ite ?_ ?_)
      | (with_reducible refine LeO.bind ?_ (fun _ => ?_))
      | exact ih0 _ _ _
      | exact LeO.none _
      | refine LeO.ite ?_ ?_
      | refine LeO.bind ?_ (fun _ => ?_)
theorem spec_l3Back.mono : ∀ a0 a1 k, LeO (spec_l3Back.f k a0 a1) (spec_l3Back.f (k + 1) a0 a1) := by
  intro a0 a1 k
  have ih0 := spec_l3Back.mono_l k
  unfold spec_l3Back.f
  repeat' first
      | (with_reducible exact ih0 _ _ _)
      | (with_reducible exact LeO.refl _)
      | (with_reducible exact LeO.none _)
      | (with_reducible refine LeO.ite ?_ ?_)
      | (with_reducible refine LeO.bind ?_ (fun _ => ?_))
      | exact ih0 _ _ _
      | exact LeO.none _
      | refine LeO.ite ?_ ?_
      | refine LeO.bind ?_ (fun _ => ?_)
def spec_BitBack.f (k : Nat) (a0 : Int) (a1 : Int) : Option (Int) := (spec_l1In.f a1 0 10).bind fun t101 => (if t101 = true then (if 0 ≤ (IntKind.u64.wrap (a1)) then ((spec_l1In.f a0 0 (wrap64 ((shl .i64 1 (IntKind.u64.wrap (a1))) - 1))).bind fun t102 => (if t102 = true then ((spec_l3Back.f k a0 a1).bind fun t103 => (some t103)) else (some 0))) else (none)) else (some 0))
theorem spec_BitBack.mono : ∀ a0 a1 k, LeO (spec_BitBack.f k a0 a1) (spec_BitBack.f (k + 1) a0 a1) := by
  intro a0 a1 k
  unfold spec_BitBack.f
  repeat' first
      | (with_reducible exact spec_l3Back.mono _ _ _)
      | (with_reducible exact LeO.refl _)
      | (with_reducible exact LeO.none _)
      | (with_reducible refine LeO.ite ?_ ?_)
      | (with_reducible refine LeO.bind ?_ (fun _ => ?_))
      | exact spec_l3Back.mono _ _ _
      | exact LeO.none _
      | refine LeO.ite ?_ ?_
      | refine LeO.bind ?_ (fun _ => ?_)
def impl_bitBack.l0 : Nat → Int → Int → Int → Int → Option (Int)
  | 0, _, _, _, _ => none
  | k + 1, x0, x5, x6, x7 => if x7 < x6 then (impl_bitBack.l0 k (x0 / 2) (Go.bits .or .i64 (wrap64 (x5 * 2)) (Go.bits .and .i64 x0 1)) x6 (wrap64 (x7 + 1))) else (some x5)
def impl_bitBack.f (k : Nat) (a0 : Int) (a1 : Int) : Option (Int) := impl_bitBack.l0 k a0 0 a1 0
theorem impl_bitBack.mono_l : ∀ k, (∀ y0 y1 y2 y3, LeO (impl_bitBack.l0 k y0 y1 y2 y3) (impl_bitBack.l0 (k + 1) y0 y1 y2 y3))
  | 0 => fun _ _ _ _ r h => by simp [impl_bitBack.l0] at h
  | k + 1 => by
    have ih0 := impl_bitBack.mono_l k
    · intro y0 y1 y2 y3
      unfold impl_bitBack.l0
      repeat' first
      | (with_reducible exact ih0 _ _ _ _)
      | (with_reducible exact LeO.refl _)
      | (with_reducible exact LeO.none _)
      | (with_reducible refine LeO.ite ?_ ?_)
      | (with_reducible refine LeO.bind ?_ (fun _ => ?_))
      | exact ih0 _ _ _ _
      | exact LeO.none _
      | refine LeO.ite ?_ ?_
      | refine LeO.bind ?_ (fun _ => ?_)
theorem impl_bitBack.mono : ∀ a0 a1 k, LeO (impl_bitBack.f k a0 a1) (impl_bitBack.f (k + 1) a0 a1) := by
  intro a0 a1 k
  have ih0 := impl_bitBack.mono_l k
  unfold impl_bitBack.f
  repeat' first
      | (with_reducible exact ih0 _ _ _ _)
      | (with_reducible exact LeO.refl _)
      | (with_reducible exact LeO.none _)
      | (with_reducible refine LeO.ite ?_ ?_)
      | (with_reducible refine LeO.bind ?_ (fun _ => ?_))
      | exact ih0 _ _ _ _
      | exact LeO.none _
      | refine LeO.ite ?_ ?_
      | refine LeO.bind ?_ (fun _ => ?_)
def impl_BitBack.f (k : Nat) (a0 : Int) (a1 : Int) : Option (Int) := (impl_in.f a1 0 10).bind fun t104 => (if t104 = true then (if 0 ≤ a1 then ((impl_in.f a0 0 (wrap64 ((shl .i64 1 a1) - 1))).bind fun t105 => (if t105 = true then ((impl_bitBack.f k a0 a1).bind fun t106 => (some t106)) else (some 0))) else (none)) else (some 0))
theorem impl_BitBack.mono : ∀ a0 a1 k, LeO (impl_BitBack.f k a0 a1) (impl_BitBack.f (k + 1) a0 a1) := by
  intro a0 a1 k
  unfold impl_BitBack.f
  repeat' first
      | (with_reducible exact impl_bitBack.mono _ _ _)
      | (with_reducible exact LeO.refl _)
      | (with_reducible exact LeO.none _)
      | (with_reducible refine LeO.ite ?_ ?_)
      | (with_reducible refine LeO.bind ?_ (fun _ => ?_))
      | exact impl_bitBack.mono _ _ _
      | exact LeO.none _
      | refine LeO.ite ?_ ?_
      | refine LeO.bind ?_ (fun _ => ?_)
def laws_FnExactBitBack.f (k : Nat) (a0 : Int) (a1 : Int) : Option (Bool) := (spec_BitBack.f k a0 a1).bind fun t107 => ((impl_BitBack.f k a0 a1).bind fun t108 => (if t108 = t107 then (some true) else (some false)))
theorem laws_FnExactBitBack.mono : ∀ a0 a1 k, LeO (laws_FnExactBitBack.f k a0 a1) (laws_FnExactBitBack.f (k + 1) a0 a1) := by
  intro a0 a1 k
  unfold laws_FnExactBitBack.f
  repeat' first
      | (with_reducible exact impl_BitBack.mono _ _ _)
      | (with_reducible exact spec_BitBack.mono _ _ _)
      | (with_reducible exact LeO.refl _)
      | (with_reducible exact LeO.none _)
      | (with_reducible refine LeO.ite ?_ ?_)
      | (with_reducible refine LeO.bind ?_ (fun _ => ?_))
      | exact impl_BitBack.mono _ _ _
      | exact spec_BitBack.mono _ _ _
      | exact LeO.none _
      | refine LeO.ite ?_ ?_
      | refine LeO.bind ?_ (fun _ => ?_)
def laws_FnExactBitBack.Pure : Prop := ∀ (a0 : Int) (a1 : Int), (Lit.int .i64 a0).wf = true → (Lit.int .i64 a1).wf = true → ∃ k, laws_FnExactBitBack.f k a0 a1 = some true
def spec_l1Mod.f (a0 : Int) (a1 : Int) : Option (Int) := if a1 = 0 then (none) else (if (Int.tmod a0 a1) < 0 then (some (wrap64 ((Int.tmod a0 a1) + a1))) else (some (Int.tmod a0 a1)))
def spec_l1Inv.l0 : Nat → Int → Int → Int → Int → Int → Option (Int)
  | 0, _, _, _, _, _ => none
  | k + 1, x1, x5, x6, x7, x8 => if x5 = 0 then (if x6 = 1 then ((spec_l1Mod.f x8 x1).bind fun t103 => (some t103)) else (some 0)) else (spec_l1Inv.l0 k x1 (wrap64 (x6 - (wrap64 ((wrap64 (Int.tdiv x6 x5)) * x5)))) x5 (wrap64 (x8 - (wrap64 ((wrap64 (Int.tdiv x6 x5)) * x7)))) x7)
def spec_l1Inv.f (k : Nat) (a0 : Int) (a1 : Int) : Option (Int) := (spec_l1Mod.f a0 a1).bind fun t102 => (spec_l1Inv.l0 k a1 t102 a1 1 0)
theorem spec_l1Inv.mono_l : ∀ k, (∀ y0 y1 y2 y3 y4, LeO (spec_l1Inv.l0 k y0 y1 y2 y3 y4) (spec_l1Inv.l0 (k + 1) y0 y1 y2 y3 y4))
  | 0 => fun _ _ _ _ _ r h => by simp [spec_l1Inv.l0] at h
  | k + 1 => by
    have ih0 := spec_l1Inv.mono_l k
    · intro y0 y1 y2 y3 y4
      unfold spec_l1Inv.l0
      repeat' first
      | (with_reducible exact ih0 _ _ _ _ _)
      | (with_reducible exact LeO.refl _)
      | (with_reducible exact LeO.none _)
      | (with_reducible refine LeO.ite ?_ ?_)
      | (with_reducible refine LeO.bind ?_ (fun _ => ?_))
      | exact ih0 _ _ _ _ _
      | exact LeO.none _
      | refine LeO.ite ?_ ?_
      | refine LeO.bind ?_ (fun _ => ?_)
theorem spec_l1Inv.mono : ∀ a0 a1 k, LeO (spec_l1Inv.f k a0 a1) (spec_l1Inv.f (k + 1) a0 a1) := by
  intro a0 a1 k
  have ih0 := spec_l1Inv.mono_l k
  unfold spec_l1Inv.f
  repeat' first
      | (with_reducible exact ih0 _ _ _ _ _)
      | (with_reducible exact LeO.refl _)
      | (with_reducible exact LeO.none _)
      | (with_reducible refine LeO.ite ?_ ?_)
      | (with_reducible refine LeO.bind ?_ (fun _ => ?_))
      | exact ih0 _ _ _ _ _
      | exact LeO.none _
      | refine LeO.ite ?_ ?_
      | refine LeO.bind ?_ (fun _ => ?_)
def spec_InvMod.f (k : Nat) (a0 : Int) (a1 : Int) : Option (Int) := (spec_l1Modulus.f a1).bind fun t104 => (if t104 = true then ((spec_l1Inv.f k a0 a1).bind fun t105 => (some t105)) else (some 0))
theorem spec_InvMod.mono : ∀ a0 a1 k, LeO (spec_InvMod.f k a0 a1) (spec_InvMod.f (k + 1) a0 a1) := by
  intro a0 a1 k
  unfold spec_InvMod.f
  repeat' first
      | (with_reducible exact spec_l1Inv.mono _ _ _)
      | (with_reducible exact LeO.refl _)
      | (with_reducible exact LeO.none _)
      | (with_reducible refine LeO.ite ?_ ?_)
      | (with_reducible refine LeO.bind ?_ (fun _ => ?_))
      | exact spec_l1Inv.mono _ _ _
      | exact LeO.none _
      | refine LeO.ite ?_ ?_
      | refine LeO.bind ?_ (fun _ => ?_)
def impl_mod.f (a0 : Int) (a1 : Int) : Option (Int) := if a1 = 0 then (none) else (if (Int.tmod a0 a1) < 0 then (some (wrap64 ((Int.tmod a0 a1) + a1))) else (some (Int.tmod a0 a1)))
def impl_inverse.l0 : Nat → Int → Int → Int → Int → Int → Option (Int × Bool)
  | 0, _, _, _, _, _ => none
  | k + 1, x1, x6, x7, x8, x9 => if x7 = 0 then ((impl_mod.f x8 x1).bind fun t108 => (some (t108, (x6 == 1)))) else (impl_inverse.l0 k x1 x7 (wrap64 (x6 - (wrap64 ((wrap64 (Int.tdiv x6 x7)) * x7)))) x9 (wrap64 (x8 - (wrap64 ((wrap64 (Int.tdiv x6 x7)) * x9)))))
def impl_inverse.f (k : Nat) (a0 : Int) (a1 : Int) : Option (Int × Bool) := (impl_mod.f a0 a1).bind fun t107 => (impl_inverse.l0 k a1 t107 a1 1 0)
theorem impl_inverse.mono_l : ∀ k, (∀ y0 y1 y2 y3 y4, LeO (impl_inverse.l0 k y0 y1 y2 y3 y4) (impl_inverse.l0 (k + 1) y0 y1 y2 y3 y4))
  | 0 => fun _ _ _ _ _ r h => by simp [impl_inverse.l0] at h
  | k + 1 => by
    have ih0 := impl_inverse.mono_l k
    · intro y0 y1 y2 y3 y4
      unfold impl_inverse.l0
      repeat' first
      | (with_reducible exact ih0 _ _ _ _ _)
      | (with_reducible exact LeO.refl _)
      | (with_reducible exact LeO.none _)
      | (with_reducible refine LeO.ite ?_ ?_)
      | (with_reducible refine LeO.bind ?_ (fun _ => ?_))
      | exact ih0 _ _ _ _ _
      | exact LeO.none _
      | refine LeO.ite ?_ ?_
      | refine LeO.bind ?_ (fun _ => ?_)
theorem impl_inverse.mono : ∀ a0 a1 k, LeO (impl_inverse.f k a0 a1) (impl_inverse.f (k + 1) a0 a1) := by
  intro a0 a1 k
  have ih0 := impl_inverse.mono_l k
  unfold impl_inverse.f
  repeat' first
      | (with_reducible exact ih0 _ _ _ _ _)
      | (with_reducible exact LeO.refl _)
      | (with_reducible exact LeO.none _)
      | (with_reducible refine LeO.ite ?_ ?_)
      | (with_reducible refine LeO.bind ?_ (fun _ => ?_))
      | exact ih0 _ _ _ _ _
      | exact LeO.none _
      | refine LeO.ite ?_ ?_
      | refine LeO.bind ?_ (fun _ => ?_)
def impl_InvMod.f (k : Nat) (a0 : Int) (a1 : Int) : Option (Int) := (impl_isModulus.f a1).bind fun t109 => (if t109 = true then ((impl_inverse.f k a0 a1).bind fun bt110 => (if bt110.2 = true then (some bt110.1) else (some 0))) else (some 0))
theorem impl_InvMod.mono : ∀ a0 a1 k, LeO (impl_InvMod.f k a0 a1) (impl_InvMod.f (k + 1) a0 a1) := by
  intro a0 a1 k
  unfold impl_InvMod.f
  repeat' first
      | (with_reducible exact impl_inverse.mono _ _ _)
      | (with_reducible exact LeO.refl _)
      | (with_reducible exact LeO.none _)
      | (with_reducible refine LeO.ite ?_ ?_)
      | (with_reducible refine LeO.bind ?_ (fun _ => ?_))
      | exact impl_inverse.mono _ _ _
      | exact LeO.none _
      | refine LeO.ite ?_ ?_
      | refine LeO.bind ?_ (fun _ => ?_)
def laws_FnExactInvMod.f (k : Nat) (a0 : Int) (a1 : Int) : Option (Bool) := (spec_InvMod.f k a0 a1).bind fun t112 => ((impl_InvMod.f k a0 a1).bind fun t113 => (if t113 = t112 then (some true) else (some false)))
theorem laws_FnExactInvMod.mono : ∀ a0 a1 k, LeO (laws_FnExactInvMod.f k a0 a1) (laws_FnExactInvMod.f (k + 1) a0 a1) := by
  intro a0 a1 k
  unfold laws_FnExactInvMod.f
  repeat' first
      | (with_reducible exact impl_InvMod.mono _ _ _)
      | (with_reducible exact spec_InvMod.mono _ _ _)
      | (with_reducible exact LeO.refl _)
      | (with_reducible exact LeO.none _)
      | (with_reducible refine LeO.ite ?_ ?_)
      | (with_reducible refine LeO.bind ?_ (fun _ => ?_))
      | exact impl_InvMod.mono _ _ _
      | exact spec_InvMod.mono _ _ _
      | exact LeO.none _
      | refine LeO.ite ?_ ?_
      | refine LeO.bind ?_ (fun _ => ?_)
def laws_FnExactInvMod.Pure : Prop := ∀ (a0 : Int) (a1 : Int), (Lit.int .i64 a0).wf = true → (Lit.int .i64 a1).wf = true → ∃ k, laws_FnExactInvMod.f k a0 a1 = some true
def spec_l1Bits.l0 : Nat → Int → Int → Option (Int)
  | 0, _, _ => none
  | k + 1, x0, x3 => if x0 > 0 then (spec_l1Bits.l0 k (x0 / 2) (wrap64 (x3 + 1))) else (some x3)
def spec_l1Bits.f (k : Nat) (a0 : Int) : Option (Int) := spec_l1Bits.l0 k a0 0
theorem spec_l1Bits.mono_l : ∀ k, (∀ y0 y1, LeO (spec_l1Bits.l0 k y0 y1) (spec_l1Bits.l0 (k + 1) y0 y1))
  | 0 => fun _ _ r h => by simp [spec_l1Bits.l0] at h
  | k + 1 => by
    have ih0 := spec_l1Bits.mono_l k
    · intro y0 y1
      unfold spec_l1Bits.l0
      repeat' first
      | (with_reducible exact ih0 _ _)
      | (with_reducible exact LeO.refl _)
      | (with_reducible exact LeO.none _)
      | (with_reducible refine LeO.ite ?_ ?_)
      | (with_reducible refine LeO.bind ?_ (fun _ => ?_))
      | exact ih0 _ _
      | exact LeO.none _
      | refine LeO.ite ?_ ?_
      | refine LeO.bind ?_ (fun _ => ?_)
theorem spec_l1Bits.mono : ∀ a0 k, LeO (spec_l1Bits.f k a0) (spec_l1Bits.f (k + 1) a0) := by
  intro a0 k
  have ih0 := spec_l1Bits.mono_l k
  unfold spec_l1Bits.f
  repeat' first
      | (with_reducible exact ih0 _ _)
      | (with_reducible exact LeO.refl _)
      | (with_reducible exact LeO.none _)
      | (with_reducible refine LeO.ite ?_ ?_)
      | (with_reducible refine LeO.bind ?_ (fun _ => ?_))
      | exact ih0 _ _
      | exact LeO.none _
      | refine LeO.ite ?_ ?_
      | refine LeO.bind ?_ (fun _ => ?_)
def spec_BarrettOf.f (k : Nat) (a0 : Int) : Option (Int × Int × Int × Bool) := (spec_l1Modulus.f a0).bind fun t103 => (if t103 = true then (if (Int.tmod a0 2) = 0 then (some (0, 0, 0, false)) else ((spec_l1Bits.f k a0).bind fun t104 => (if 0 ≤ (IntKind.u64.wrap (wrap64 (2 * t104))) then (if a0 = 0 then (none) else (some (a0, wrap64 (2 * t104), wrap64 (Int.tdiv (shl .i64 1 (IntKind.u64.wrap (wrap64 (2 * t104)))) a0), true))) else (none)))) else (some (0, 0, 0, false)))
theorem spec_BarrettOf.mono : ∀ a0 k, LeO (spec_BarrettOf.f k a0) (spec_BarrettOf.f (k + 1) a0) := by
  intro a0 k
  unfold spec_BarrettOf.f
  repeat' first
      | (with_reducible exact spec_l1Bits.mono _ _)
      | (with_reducible exact LeO.refl _)
      | (with_reducible exact LeO.none _)
      | (with_reducible refine LeO.ite ?_ ?_)
      | (with_reducible refine LeO.bind ?_ (fun _ => ?_))
      | exact spec_l1Bits.mono _ _
      | exact LeO.none _
      | refine LeO.ite ?_ ?_
      | refine LeO.bind ?_ (fun _ => ?_)
def bits_Len32.f (a0 : Int) : Option (Int) := if a0 ≥ 65536 then (if (a0 / 65536) ≥ 256 then (if 0 ≤ (((a0 / 65536) / 256) % 256) then (if (((a0 / 65536) / 256) % 256) < 256 then (some (wrap64 ((16 + 8) + (wrap64 (bt (⟨#[0, 1, 2, 2, 3, 3, 3, 3, 4, 4, 4, 4, 4, 4, 4, 4, 5, 5, 5, 5, 5, 5, 5, 5, 5, 5, 5, 5, 5, 5, 5, 5, 6, 6, 6, 6, 6, 6, 6, 6, 6, 6, 6, 6, 6, 6, 6, 6, 6, 6, 6, 6, 6, 6, 6, 6, 6, 6, 6, 6, 6, 6, 6, 6, 7, 7, 7, 7, 7, 7, 7, 7, 7, 7, 7, 7, 7, 7, 7, 7, 7, 7, 7, 7, 7, 7, 7, 7, 7, 7, 7, 7, 7, 7, 7, 7, 7, 7, 7, 7, 7, 7, 7, 7, 7, 7, 7, 7, 7, 7, 7, 7, 7, 7, 7, 7, 7, 7, 7, 7, 7, 7, 7, 7, 7, 7, 7, 7, 8, 8, 8, 8, 8, 8, 8, 8, 8, 8, 8, 8, 8, 8, 8, 8, 8, 8, 8, 8, 8, 8, 8, 8, 8, 8, 8, 8, 8, 8, 8, 8, 8, 8, 8, 8, 8, 8, 8, 8, 8, 8, 8, 8, 8, 8, 8, 8, 8, 8, 8, 8, 8, 8, 8, 8, 8, 8, 8, 8, 8, 8, 8, 8, 8, 8, 8, 8, 8, 8, 8, 8, 8, 8, 8, 8, 8, 8, 8, 8, 8, 8, 8, 8, 8, 8, 8, 8, 8, 8, 8, 8, 8, 8, 8, 8, 8, 8, 8, 8, 8, 8, 8, 8, 8, 8, 8, 8, 8, 8, 8, 8, 8, 8, 8, 8, 8, 8, 8, 8, 8, 8, 8, 8, 8, 8, 8, 8]⟩ : ByteArray) (((a0 / 65536) / 256) % 256)))))) else (none)) else (none)) else (if 0 ≤ ((a0 / 65536) % 256) then (if ((a0 / 65536) % 256) < 256 then (some (wrap64 (16 + (wrap64 (bt (⟨#[0, 1, 2, 2, 3, 3, 3, 3, 4, 4, 4, 4, 4, 4, 4, 4, 5, 5, 5, 5, 5, 5, 5, 5, 5, 5, 5, 5, 5, 5, 5, 5, 6, 6, 6, 6, 6, 6, 6, 6, 6, 6, 6, 6, 6, 6, 6, 6, 6, 6, 6, 6, 6, 6, 6, 6, 6, 6, 6, 6, 6, 6, 6, 6, 7, 7, 7, 7, 7, 7, 7, 7, 7, 7, 7, 7, 7, 7, 7, 7, 7, 7, 7, 7, 7, 7, 7, 7, 7, 7, 7, 7, 7, 7, 7, 7, 7, 7, 7, 7, 7, 7, 7, 7, 7, 7, 7, 7, 7, 7, 7, 7, 7, 7, 7, 7, 7, 7, 7, 7, 7, 7, 7, 7, 7, 7, 7, 7, 8, 8, 8, 8, 8, 8, 8, 8, 8, 8, 8, 8, 8, 8, 8, 8, 8, 8, 8, 8, 8, 8, 8, 8, 8, 8, 8, 8, 8, 8, 8, 8, 8, 8, 8, 8, 8, 8, 8, 8, 8, 8, 8, 8, 8, 8, 8, 8, 8, 8, 8, 8, 8, 8, 8, 8, 8, 8, 8, 8, 8, 8, 8, 8, 8, 8, 8, 8, 8, 8, 8, 8, 8, 8, 8, 8, 8, 8, 8, 8, 8, 8, 8, 8, 8, 8, 8, 8, 8, 8, 8, 8, 8, 8, 8, 8, 8, 8, 8, 8, 8, 8, 8, 8, 8, 8, 8, 8, 8, 8, 8, 8, 8, 8, 8, 8, 8, 8, 8, 8, 8, 8, 8, 8, 8, 8, 8, 8]⟩ : ByteArray) ((a0 / 65536) % 256)))))) else (none)) else (none))) else (if a0 ≥ 256 then (if 0 ≤ ((a0 / 256) % 256) then (if ((a0 / 256) % 256) < 256 then (some (wrap64 ((0 + 8) + (wrap64 (bt (⟨#[0, 1, 2, 2, 3, 3, 3, 3, 4, 4, 4, 4, 4, 4, 4, 4, 5, 5, 5, 5, 5, 5, 5, 5, 5, 5, 5, 5, 5, 5, 5, 5, 6, 6, 6, 6, 6, 6, 6, 6, 6, 6, 6, 6, 6, 6, 6, 6, 6, 6, 6, 6, 6, 6, 6, 6, 6, 6, 6, 6, 6, 6, 6, 6, 7, 7, 7, 7, 7, 7, 7, 7, 7, 7, 7, 7, 7, 7, 7, 7, 7, 7, 7, 7, 7, 7, 7, 7, 7, 7, 7, 7, 7, 7, 7, 7, 7, 7, 7, 7, 7, 7, 7, 7, 7, 7, 7, 7, 7, 7, 7, 7, 7, 7, 7, 7, 7, 7, 7, 7, 7, 7, 7, 7, 7, 7, 7, 7, 8, 8, 8, 8, 8, 8, 8, 8, 8, 8, 8, 8, 8, 8, 8, 8, 8, 8, 8, 8, 8, 8, 8, 8, 8, 8, 8, 8, 8, 8, 8, 8, 8, 8, 8, 8, 8, 8, 8, 8, 8, 8, 8, 8, 8, 8, 8, 8, 8, 8, 8, 8, 8, 8, 8, 8, 8, 8, 8, 8, 8, 8, 8, 8, 8, 8, 8, 8, 8, 8, 8, 8, 8, 8, 8, 8, 8, 8, 8, 8, 8, 8, 8, 8, 8, 8, 8, 8, 8, 8, 8, 8, 8, 8, 8, 8, 8, 8, 8, 8, 8, 8, 8, 8, 8, 8, 8, 8, 8, 8, 8, 8, 8, 8, 8, 8, 8, 8, 8, 8, 8, 8, 8, 8, 8, 8, 8, 8]⟩ : ByteArray) ((a0 / 256) % 256)))))) else (none)) else (none)) else (if 0 ≤ ((a0) % 256) then (if ((a0) % 256) < 256 then (some (wrap64 (0 + (wrap64 (bt (⟨#[0, 1, 2, 2, 3, 3, 3, 3, 4, 4, 4, 4, 4, 4, 4, 4, 5, 5, 5, 5, 5, 5, 5, 5, 5, 5, 5, 5, 5, 5, 5, 5, 6, 6, 6, 6, 6, 6, 6, 6, 6, 6, 6, 6, 6, 6, 6, 6, 6, 6, 6, 6, 6, 6, 6, 6, 6, 6, 6, 6, 6, 6, 6, 6, 7, 7, 7, 7, 7, 7, 7, 7, 7, 7, 7, 7, 7, 7, 7, 7, 7, 7, 7, 7, 7, 7, 7, 7, 7, 7, 7, 7, 7, 7, 7, 7, 7, 7, 7, 7, 7, 7, 7, 7, 7, 7, 7, 7, 7, 7, 7, 7, 7, 7, 7, 7, 7, 7, 7, 7, 7, 7, 7, 7, 7, 7, 7, 7, 8, 8, 8, 8, 8, 8, 8, 8, 8, 8, 8, 8, 8, 8, 8, 8, 8, 8, 8, 8, 8, 8, 8, 8, 8, 8, 8, 8, 8, 8, 8, 8, 8, 8, 8, 8, 8, 8, 8, 8, 8, 8, 8, 8, 8, 8, 8, 8, 8, 8, 8, 8, 8, 8, 8, 8, 8, 8, 8, 8, 8, 8, 8, 8, 8, 8, 8, 8, 8, 8, 8, 8, 8, 8, 8, 8, 8, 8, 8, 8, 8, 8, 8, 8, 8, 8, 8, 8, 8, 8, 8, 8, 8, 8, 8, 8, 8, 8, 8, 8, 8, 8, 8, 8, 8, 8, 8, 8, 8, 8, 8, 8, 8, 8, 8, 8, 8, 8, 8, 8, 8, 8, 8, 8, 8, 8, 8, 8]⟩ : ByteArray) ((a0) % 256)))))) else (none)) else (none)))
def bits_Len64.j0 : Nat → Int → Int → Option (Int)
  | 0, _, _ => none
  | k + 1, x0, x2 => if x0 ≥ 65536 then (if (x0 / 65536) ≥ 256 then (if 0 ≤ (((x0 / 65536) / 256) % 256) then (if (((x0 / 65536) / 256) % 256) < 256 then (some (wrap64 ((wrap64 ((wrap64 (x2 + 16)) + 8)) + (wrap64 (bt (⟨#[0, 1, 2, 2, 3, 3, 3, 3, 4, 4, 4, 4, 4, 4, 4, 4, 5, 5, 5, 5, 5, 5, 5, 5, 5, 5, 5, 5, 5, 5, 5, 5, 6, 6, 6, 6, 6, 6, 6, 6, 6, 6, 6, 6, 6, 6, 6, 6, 6, 6, 6, 6, 6, 6, 6, 6, 6, 6, 6, 6, 6, 6, 6, 6, 7, 7, 7, 7, 7, 7, 7, 7, 7, 7, 7, 7, 7, 7, 7, 7, 7, 7, 7, 7, 7, 7, 7, 7, 7, 7, 7, 7, 7, 7, 7, 7, 7, 7, 7, 7, 7, 7, 7, 7, 7, 7, 7, 7, 7, 7, 7, 7, 7, 7, 7, 7, 7, 7, 7, 7, 7, 7, 7, 7, 7, 7, 7, 7, 8, 8, 8, 8, 8, 8, 8, 8, 8, 8, 8, 8, 8, 8, 8, 8, 8, 8, 8, 8, 8, 8, 8, 8, 8, 8, 8, 8, 8, 8, 8, 8, 8, 8, 8, 8, 8, 8, 8, 8, 8, 8, 8, 8, 8, 8, 8, 8, 8, 8, 8, 8, 8, 8, 8, 8, 8, 8, 8, 8, 8, 8, 8, 8, 8, 8, 8, 8, 8, 8, 8, 8, 8, 8, 8, 8, 8, 8, 8, 8, 8, 8, 8, 8, 8, 8, 8, 8, 8, 8, 8, 8, 8, 8, 8, 8, 8, 8, 8, 8, 8, 8, 8, 8, 8, 8, 8, 8, 8, 8, 8, 8, 8, 8, 8, 8, 8, 8, 8, 8, 8, 8, 8, 8, 8, 8, 8, 8]⟩ : ByteArray) (((x0 / 65536) / 256) % 256)))))) else (none)) else (none)) else (if 0 ≤ ((x0 / 65536) % 256) then (if ((x0 / 65536) % 256) < 256 then (some (wrap64 ((wrap64 (x2 + 16)) + (wrap64 (bt (⟨#[0, 1, 2, 2, 3, 3, 3, 3, 4, 4, 4, 4, 4, 4, 4, 4, 5, 5, 5, 5, 5, 5, 5, 5, 5, 5, 5, 5, 5, 5, 5, 5, 6, 6, 6, 6, 6, 6, 6, 6, 6, 6, 6, 6, 6, 6, 6, 6, 6, 6, 6, 6, 6, 6, 6, 6, 6, 6, 6, 6, 6, 6, 6, 6, 7, 7, 7, 7, 7, 7, 7, 7, 7, 7, 7, 7, 7, 7, 7, 7, 7, 7, 7, 7, 7, 7, 7, 7, 7, 7, 7, 7, 7, 7, 7, 7, 7, 7, 7, 7, 7, 7, 7, 7, 7, 7, 7, 7, 7, 7, 7, 7, 7, 7, 7, 7, 7, 7, 7, 7, 7, 7, 7, 7, 7, 7, 7, 7, 8, 8, 8, 8, 8, 8, 8, 8, 8, 8, 8, 8, 8, 8, 8, 8, 8, 8, 8, 8, 8, 8, 8, 8, 8, 8, 8, 8, 8, 8, 8, 8, 8, 8, 8, 8, 8, 8, 8, 8, 8, 8, 8, 8, 8, 8, 8, 8, 8, 8, 8, 8, 8, 8, 8, 8, 8, 8, 8, 8, 8, 8, 8, 8, 8, 8, 8, 8, 8, 8, 8, 8, 8, 8, 8, 8, 8, 8, 8, 8, 8, 8, 8, 8, 8, 8, 8, 8, 8, 8, 8, 8, 8, 8, 8, 8, 8, 8, 8, 8, 8, 8, 8, 8, 8, 8, 8, 8, 8, 8, 8, 8, 8, 8, 8, 8, 8, 8, 8, 8, 8, 8, 8, 8, 8, 8, 8, 8]⟩ : ByteArray) ((x0 / 65536) % 256)))))) else (none)) else (none))) else (if x0 ≥ 256 then (if 0 ≤ ((x0 / 256) % 256) then (if ((x0 / 256) % 256) < 256 then (some (wrap64 ((wrap64 (x2 + 8)) + (wrap64 (bt (⟨#[0, 1, 2, 2, 3, 3, 3, 3, 4, 4, 4, 4, 4, 4, 4, 4, 5, 5, 5, 5, 5, 5, 5, 5, 5, 5, 5, 5, 5, 5, 5, 5, 6, 6, 6, 6, 6, 6, 6, 6, 6, 6, 6, 6, 6, 6, 6, 6, 6, 6, 6, 6, 6, 6, 6, 6, 6, 6, 6, 6, 6, 6, 6, 6, 7, 7, 7, 7, 7, 7, 7, 7, 7, 7, 7, 7, 7, 7, 7, 7, 7, 7, 7, 7, 7, 7, 7, 7, 7, 7, 7, 7, 7, 7, 7, 7, 7, 7, 7, 7, 7, 7, 7, 7, 7, 7, 7, 7, 7, 7, 7, 7, 7, 7, 7, 7, 7, 7, 7, 7, 7, 7, 7, 7, 7, 7, 7, 7, 8, 8, 8, 8, 8, 8, 8, 8, 8, 8, 8, 8, 8, 8, 8, 8, 8, 8, 8, 8, 8, 8, 8, 8, 8, 8, 8, 8, 8, 8, 8, 8, 8, 8, 8, 8, 8, 8, 8, 8, 8, 8, 8, 8, 8, 8, 8, 8, 8, 8, 8, 8, 8, 8, 8, 8, 8, 8, 8, 8, 8, 8, 8, 8, 8, 8, 8, 8, 8, 8, 8, 8, 8, 8, 8, 8, 8, 8, 8, 8, 8, 8, 8, 8, 8, 8, 8, 8, 8, 8, 8, 8, 8, 8, 8, 8, 8, 8, 8, 8, 8, 8, 8, 8, 8, 8, 8, 8, 8, 8, 8, 8, 8, 8, 8, 8, 8, 8, 8, 8, 8, 8, 8, 8, 8, 8, 8, 8]⟩ : ByteArray) ((x0 / 256) % 256)))))) else (none)) else (none)) else (if 0 ≤ ((x0) % 256) then (if ((x0) % 256) < 256 then (some (wrap64 (x2 + (wrap64 (bt (⟨#[0, 1, 2, 2, 3, 3, 3, 3, 4, 4, 4, 4, 4, 4, 4, 4, 5, 5, 5, 5, 5, 5, 5, 5, 5, 5, 5, 5, 5, 5, 5, 5, 6, 6, 6, 6, 6, 6, 6, 6, 6, 6, 6, 6, 6, 6, 6, 6, 6, 6, 6, 6, 6, 6, 6, 6, 6, 6, 6, 6, 6, 6, 6, 6, 7, 7, 7, 7, 7, 7, 7, 7, 7, 7, 7, 7, 7, 7, 7, 7, 7, 7, 7, 7, 7, 7, 7, 7, 7, 7, 7, 7, 7, 7, 7, 7, 7, 7, 7, 7, 7, 7, 7, 7, 7, 7, 7, 7, 7, 7, 7, 7, 7, 7, 7, 7, 7, 7, 7, 7, 7, 7, 7, 7, 7, 7, 7, 7, 8, 8, 8, 8, 8, 8, 8, 8, 8, 8, 8, 8, 8, 8, 8, 8, 8, 8, 8, 8, 8, 8, 8, 8, 8, 8, 8, 8, 8, 8, 8, 8, 8, 8, 8, 8, 8, 8, 8, 8, 8, 8, 8, 8, 8, 8, 8, 8, 8, 8, 8, 8, 8, 8, 8, 8, 8, 8, 8, 8, 8, 8, 8, 8, 8, 8, 8, 8, 8, 8, 8, 8, 8, 8, 8, 8, 8, 8, 8, 8, 8, 8, 8, 8, 8, 8, 8, 8, 8, 8, 8, 8, 8, 8, 8, 8, 8, 8, 8, 8, 8, 8, 8, 8, 8, 8, 8, 8, 8, 8, 8, 8, 8, 8, 8, 8, 8, 8, 8, 8, 8, 8, 8, 8, 8, 8, 8, 8]⟩ : ByteArray) ((x0) % 256)))))) else (none)) else (none)))
def bits_Len64.f (k : Nat) (a0 : Int) : Option (Int) := if a0 ≥ 4294967296 then (bits_Len64.j0 k (a0 / 4294967296) 32) else (bits_Len64.j0 k a0 0)
theorem bits_Len64.mono_l : ∀ k, (∀ y0 y1, LeO (bits_Len64.j0 k y0 y1) (bits_Len64.j0 (k + 1) y0 y1))
  | 0 => fun _ _ r h => by simp [bits_Len64.j0] at h
  | k + 1 => by
    have ih0 := bits_Len64.mono_l k
    · intro y0 y1
      unfold bits_Len64.j0
      repeat' first
      | (with_reducible exact ih0 _ _)
      | (with_reducible exact LeO.refl _)
      | (with_reducible exact LeO.none _)
      | (with_reducible refine LeO.ite ?_ ?_)
      | (with_reducible refine LeO.bind ?_ (fun _ => ?_))
      | exact ih0 _ _
      | exact LeO.none _
      | refine LeO.ite ?_ ?_
      | refine LeO.bind ?_ (fun _ => ?_)
theorem bits_Len64.mono : ∀ a0 k, LeO (bits_Len64.f k a0) (bits_Len64.f (k + 1) a0) := by
  intro a0 k
  have ih0 := bits_Len64.mono_l k
  unfold bits_Len64.f
  repeat' first
      | (with_reducible exact ih0 _ _)
      | (with_reducible exact LeO.refl _)
      | (with_reducible exact LeO.none _)
      | (with_reducible refine LeO.ite ?_ ?_)
      | (with_reducible refine LeO.bind ?_ (fun _ => ?_))
      | exact ih0 _ _
      | exact LeO.none _
      | refine LeO.ite ?_ ?_
      | refine LeO.bind ?_ (fun _ => ?_)
def bits_Len.f (k : Nat) (a0 : Int) : Option (Int) := (bits_Len64.f k a0).bind fun t106 => (some t106)
theorem bits_Len.mono : ∀ a0 k, LeO (bits_Len.f k a0) (bits_Len.f (k + 1) a0) := by
  intro a0 k
  unfold bits_Len.f
  repeat' first
      | (with_reducible exact bits_Len64.mono _ _)
      | (with_reducible exact LeO.refl _)
      | (with_reducible exact LeO.none _)
      | (with_reducible refine LeO.ite ?_ ?_)
      | (with_reducible refine LeO.bind ?_ (fun _ => ?_))
      | exact bits_Len64.mono _ _
      | exact LeO.none _
      | refine LeO.ite ?_ ?_
      | refine LeO.bind ?_ (fun _ => ?_)
def impl_BarrettOf.f (k : Nat) (a0 : Int) : Option (Int × Int × Int × Bool) := (impl_isModulus.f a0).bind fun t108 => (if t108 = true then (if (Int.tmod a0 2) = 0 then (some (0, 0, 0, false)) else ((bits_Len.f k (IntKind.u64.wrap (a0))).bind fun t109 => (if 0 ≤ (wrap64 (2 * t109)) then (if a0 = 0 then (none) else (some (a0, wrap64 (2 * t109), wrap64 (Int.tdiv (shl .i64 1 (wrap64 (2 * t109))) a0), true))) else (none)))) else (some (0, 0, 0, false)))
theorem impl_BarrettOf.mono : ∀ a0 k, LeO (impl_BarrettOf.f k a0) (impl_BarrettOf.f (k + 1) a0) := by
  intro a0 k
  unfold impl_BarrettOf.f
  repeat' first
      | (with_reducible exact bits_Len.mono _ _)
      | (with_reducible exact LeO.refl _)
      | (with_reducible exact LeO.none _)
      | (with_reducible refine LeO.ite ?_ ?_)
      | (with_reducible refine LeO.bind ?_ (fun _ => ?_))
      | exact bits_Len.mono _ _
      | exact LeO.none _
      | refine LeO.ite ?_ ?_
      | refine LeO.bind ?_ (fun _ => ?_)
def laws_eqBarrett.f (a0_0 : Int) (a0_1 : Int) (a0_2 : Int) (a1_0 : Int) (a1_1 : Int) (a1_2 : Int) : Option (Bool) := if a0_0 = a1_0 then (if a0_1 = a1_1 then (if a0_2 = a1_2 then (some true) else (some false)) else (some false)) else (some false)
def laws_FnExactBarrettOf.f (k : Nat) (a0 : Int) : Option (Bool) := (spec_BarrettOf.f k a0).bind fun bt112 => ((impl_BarrettOf.f k a0).bind fun bt117 => ((laws_eqBarrett.f bt117.1 bt117.2.1 bt117.2.2.1 bt112.1 bt112.2.1 bt112.2.2.1).bind fun t122 => (if t122 = true then (if (bt117.2.2.2 != bt112.2.2.2) = true then (some false) else (some true)) else (some false))))
theorem laws_FnExactBarrettOf.mono : ∀ a0 k, LeO (laws_FnExactBarrettOf.f k a0) (laws_FnExactBarrettOf.f (k + 1) a0) := by
  intro a0 k
  unfold laws_FnExactBarrettOf.f
  repeat' first
      | (with_reducible exact impl_BarrettOf.mono _ _)
      | (with_reducible exact spec_BarrettOf.mono _ _)
      | (with_reducible exact LeO.refl _)
      | (with_reducible exact LeO.none _)
      | (with_reducible refine LeO.ite ?_ ?_)
      | (with_reducible refine LeO.bind ?_ (fun _ => ?_))
      | exact impl_BarrettOf.mono _ _
      | exact spec_BarrettOf.mono _ _
      | exact LeO.none _
      | refine LeO.ite ?_ ?_
      | refine LeO.bind ?_ (fun _ => ?_)
def laws_FnExactBarrettOf.Pure : Prop := ∀ (a0 : Int), (Lit.int .i64 a0).wf = true → ∃ k, laws_FnExactBarrettOf.f k a0 = some true
def spec_BarrettMul.f (k : Nat) (a0_0 : Int) (a0_1 : Int) (a0_2 : Int) (a1 : Int) (a2 : Int) : Option (Int × Bool) := (spec_BarrettOf.f k a0_0).bind fun bt106 => (if bt106.2.2.2 = true then (if (!(bt106.1 == a0_0) || (!(bt106.2.1 == a0_1) || (!(bt106.2.2.1 == a0_2)))) = true then (some (0, false)) else ((spec_l1In.f a1 0 (wrap64 (a0_0 - 1))).bind fun t111 => (if t111 = true then ((spec_l1In.f a2 0 (wrap64 (a0_0 - 1))).bind fun t112 => (if t112 = true then (if a0_0 = 0 then (none) else (some (Int.tmod (wrap64 (a1 * a2)) a0_0, true))) else (some (0, false)))) else (some (0, false))))) else (some (0, false)))
theorem spec_BarrettMul.mono : ∀ a0 a1 a2 a3 a4 k, LeO (spec_BarrettMul.f k a0 a1 a2 a3 a4) (spec_BarrettMul.f (k + 1) a0 a1 a2 a3 a4) := by
  intro a0 a1 a2 a3 a4 k
  unfold spec_BarrettMul.f
  repeat' first
      | (with_reducible exact spec_BarrettOf.mono _ _)
      | (with_reducible exact LeO.refl _)
      | (with_reducible exact LeO.none _)
      | (with_reducible refine LeO.ite ?_ ?_)
      | (with_reducible refine LeO.bind ?_ (fun _ => ?_))
      | exact spec_BarrettOf.mono _ _
      | exact LeO.none _
      | refine LeO.ite ?_ ?_
      | refine LeO.bind ?_ (fun _ => ?_)
def laws_toBarrett.f (a0_0 : Int) (a0_1 : Int) (a0_2 : Int) : Option (Int × Int × Int) := some (a0_0, a0_1, a0_2)
def impl_BarrettMul.f (k : Nat) (a0_0 : Int) (a0_1 : Int) (a0_2 : Int) (a1 : Int) (a2 : Int) : Option (Int × Bool) := (impl_BarrettOf.f k a0_0).bind fun bt122 => (if bt122.2.2.2 = true then (if (!(bt122.1 == a0_0) || (!(bt122.2.1 == a0_1) || (!(bt122.2.2.1 == a0_2)))) = true then (some (0, false)) else ((impl_in.f a1 0 (wrap64 (a0_0 - 1))).bind fun t127 => (if t127 = true then ((impl_in.f a2 0 (wrap64 (a0_0 - 1))).bind fun t128 => (if t128 = true then (if a0_0 = 0 then (none) else (some (Int.tmod (wrap64 (a1 * a2)) a0_0, true))) else (some (0, false)))) else (some (0, false))))) else (some (0, false)))
theorem impl_BarrettMul.mono : ∀ a0 a1 a2 a3 a4 k, LeO (impl_BarrettMul.f k a0 a1 a2 a3 a4) (impl_BarrettMul.f (k + 1) a0 a1 a2 a3 a4) := by
  intro a0 a1 a2 a3 a4 k
  unfold impl_BarrettMul.f
  repeat' first
      | (with_reducible exact impl_BarrettOf.mono _ _)
      | (with_reducible exact LeO.refl _)
      | (with_reducible exact LeO.none _)
      | (with_reducible refine LeO.ite ?_ ?_)
      | (with_reducible refine LeO.bind ?_ (fun _ => ?_))
      | exact impl_BarrettOf.mono _ _
      | exact LeO.none _
      | refine LeO.ite ?_ ?_
      | refine LeO.bind ?_ (fun _ => ?_)
def laws_FnExactBarrettMul.f (k : Nat) (a0_0 : Int) (a0_1 : Int) (a0_2 : Int) (a1 : Int) (a2 : Int) : Option (Bool) := (laws_toBarrett.f a0_0 a0_1 a0_2).bind fun bt130 => ((spec_BarrettMul.f k bt130.1 bt130.2.1 bt130.2.2 a1 a2).bind fun bt133 => ((laws_toBarrett.f a0_0 a0_1 a0_2).bind fun bt135 => ((impl_BarrettMul.f k bt135.1 bt135.2.1 bt135.2.2 a1 a2).bind fun bt138 => (if bt138.1 = bt133.1 then (if (bt138.2 != bt133.2) = true then (some false) else (some true)) else (some false)))))
theorem laws_FnExactBarrettMul.mono : ∀ a0 a1 a2 a3 a4 k, LeO (laws_FnExactBarrettMul.f k a0 a1 a2 a3 a4) (laws_FnExactBarrettMul.f (k + 1) a0 a1 a2 a3 a4) := by
  intro a0 a1 a2 a3 a4 k
  unfold laws_FnExactBarrettMul.f
  repeat' first
      | (with_reducible exact impl_BarrettMul.mono _ _ _ _ _ _)
      | (with_reducible exact spec_BarrettMul.mono _ _ _ _ _ _)
      | (with_reducible exact LeO.refl _)
      | (with_reducible exact LeO.none _)
      | (with_reducible refine LeO.ite ?_ ?_)
      | (with_reducible refine LeO.bind ?_ (fun _ => ?_))
      | exact impl_BarrettMul.mono _ _ _ _ _ _
      | exact spec_BarrettMul.mono _ _ _ _ _ _
      | exact LeO.none _
      | refine LeO.ite ?_ ?_
      | refine LeO.bind ?_ (fun _ => ?_)
end Go.Proofs.Ytajlgfjmocgoead.M

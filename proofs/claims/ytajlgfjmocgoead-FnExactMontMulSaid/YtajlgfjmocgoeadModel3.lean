/- The functions of the program and of the reference as the print spells them, once each: what the plain laws speak of. -/
import Derived.Test.YtajlgfjmocgoeadModel
import Derived.Test.YtajlgfjmocgoeadModel2
namespace Go.Proofs.Ytajlgfjmocgoead.M
open Go.RowKit Go.Proofs.YtajlgfjmocgoeadW.PrintWords Go.Proofs.YtajlgfjmocgoeadW.PrintLast Go.Proofs.YtajlgfjmocgoeadW.PrintMore
set_option linter.unusedVariables false
def spec_l2Length.f (k : Nat) (l0 : List Int) : Option (Int) := if (l0.length : Int) = 0 then (some 0) else (if 0 ≤ (wrap64 ((l0.length : Int) - 1)) then (if (wrap64 ((l0.length : Int) - 1)) < (l0.length : Int) then ((spec_l1Bits.f k (rd l0 (wrap64 ((l0.length : Int) - 1)))).bind fun t107 => (some (wrap64 ((wrap64 (28 * (wrap64 ((l0.length : Int) - 1)))) + t107)))) else (none)) else (none))
theorem spec_l2Length.mono : ∀ a0 k, LeO (spec_l2Length.f k a0) (spec_l2Length.f (k + 1) a0) := by
  intro a0 k
  unfold spec_l2Length.f
  repeat' first
      | (with_reducible exact spec_l1Bits.mono _ _)
      | (with_reducible exact LeO.refl _)
      | (with_reducible exact LeO.none _)
      | (with_reducible refine LeO.ite ?_ ?_)
      | (with_reducible refine LeO.bind ?_ (fun _ => ?_))
      | exact spec_l1Bits.mono _ _
      | exact LeO.none _
      | refine LeO.ite ?_ ?_
      | refine LeO.bind ?_ (fun _ => ?_)
def spec_BitsOf.f (k : Nat) (a0_0 : Bool) (l0_1 : List Int) : Option (Int) := (spec_GoodWhole.f k a0_0 l0_1).bind fun t109 => (if t109 = true then ((spec_l2Length.f k l0_1).bind fun t110 => (some t110)) else (some 0))
theorem spec_BitsOf.mono : ∀ a0 a1 k, LeO (spec_BitsOf.f k a0 a1) (spec_BitsOf.f (k + 1) a0 a1) := by
  intro a0 a1 k
  unfold spec_BitsOf.f
  repeat' first
      | (with_reducible exact spec_GoodWhole.mono _ _ _)
      | (with_reducible exact spec_l2Length.mono _ _)
      | (with_reducible exact LeO.refl _)
      | (with_reducible exact LeO.none _)
      | (with_reducible refine LeO.ite ?_ ?_)
      | (with_reducible refine LeO.bind ?_ (fun _ => ?_))
      | exact spec_GoodWhole.mono _ _ _
      | exact spec_l2Length.mono _ _
      | exact LeO.none _
      | refine LeO.ite ?_ ?_
      | refine LeO.bind ?_ (fun _ => ?_)
def impl_bitsW.f (k : Nat) (a0_0 : Bool) (l0_1 : List Int) : Option (Int) := if (l0_1.length : Int) = 0 then (some 0) else (if 0 ≤ (wrap64 ((l0_1.length : Int) - 1)) then (if (wrap64 ((l0_1.length : Int) - 1)) < (l0_1.length : Int) then ((bits_Len.f k (IntKind.u64.wrap (rd l0_1 (wrap64 ((l0_1.length : Int) - 1))))).bind fun t128 => (some (wrap64 ((wrap64 (28 * (wrap64 ((l0_1.length : Int) - 1)))) + t128)))) else (none)) else (none))
theorem impl_bitsW.mono : ∀ a0 a1 k, LeO (impl_bitsW.f k a0 a1) (impl_bitsW.f (k + 1) a0 a1) := by
  intro a0 a1 k
  unfold impl_bitsW.f
  repeat' first
      | (with_reducible exact bits_Len.mono _ _)
      | (with_reducible exact LeO.refl _)
      | (with_reducible exact LeO.none _)
      | (with_reducible refine LeO.ite ?_ ?_)
      | (with_reducible refine LeO.bind ?_ (fun _ => ?_))
      | exact bits_Len.mono _ _
      | exact LeO.none _
      | refine LeO.ite ?_ ?_
      | refine LeO.bind ?_ (fun _ => ?_)
def impl_BitsOf.f (k : Nat) (a0_0 : Bool) (l0_1 : List Int) : Option (Int) := (impl_GoodWhole.f a0_0 l0_1).bind fun t130 => (if t130 = true then ((impl_bitsW.f k a0_0 l0_1).bind fun t131 => (some t131)) else (some 0))
theorem impl_BitsOf.mono : ∀ a0 a1 k, LeO (impl_BitsOf.f k a0 a1) (impl_BitsOf.f (k + 1) a0 a1) := by
  intro a0 a1 k
  unfold impl_BitsOf.f
  repeat' first
      | (with_reducible exact impl_bitsW.mono _ _ _)
      | (with_reducible exact LeO.refl _)
      | (with_reducible exact LeO.none _)
      | (with_reducible refine LeO.ite ?_ ?_)
      | (with_reducible refine LeO.bind ?_ (fun _ => ?_))
      | exact impl_bitsW.mono _ _ _
      | exact LeO.none _
      | refine LeO.ite ?_ ?_
      | refine LeO.bind ?_ (fun _ => ?_)
def laws_FnExactBitsOf.f (k : Nat) (a0_0 : Bool) (l0_1 : List Int) : Option (Bool) := (laws_szWhole.f a0_0 l0_1 1048576).bind fun t138 => (if t138 < 0 then (some true) else ((laws_toWhole.f k a0_0 l0_1).bind fun bt139 => ((spec_BitsOf.f k bt139.1 bt139.2).bind fun t143 => ((laws_toWhole.f k a0_0 l0_1).bind fun bt144 => ((impl_BitsOf.f k bt144.1 bt144.2).bind fun t149 => (if t149 = t143 then ((laws_toWhole.f k a0_0 l0_1).bind fun bt150 => ((laws_eqWhole.f k bt144.1 bt144.2 bt150.1 bt150.2).bind fun t154 => (if t154 = true then (some true) else (some false)))) else (some false)))))))
theorem laws_FnExactBitsOf.mono : ∀ a0 a1 k, LeO (laws_FnExactBitsOf.f k a0 a1) (laws_FnExactBitsOf.f (k + 1) a0 a1) := by
  intro a0 a1 k
  unfold laws_FnExactBitsOf.f
  repeat' first
      | (with_reducible exact impl_BitsOf.mono _ _ _)
      | (with_reducible exact laws_eqWhole.mono _ _ _ _ _)
      | (with_reducible exact laws_toWhole.mono _ _ _)
      | (with_reducible exact spec_BitsOf.mono _ _ _)
      | (with_reducible exact LeO.refl _)
      | (with_reducible exact LeO.none _)
      | (with_reducible refine LeO.ite ?_ ?_)
      | (with_reducible refine LeO.bind ?_ (fun _ => ?_))
      | exact impl_BitsOf.mono _ _ _
      | exact laws_eqWhole.mono _ _ _ _ _
      | exact laws_toWhole.mono _ _ _
      | exact spec_BitsOf.mono _ _ _
      | exact LeO.none _
      | refine LeO.ite ?_ ?_
      | refine LeO.bind ?_ (fun _ => ?_)
def spec_l1Power.f (a0 : Int) (a1 : Int) (a2 : Int) : Option (Bool) := (spec_l1In.f a0 a1 a2).bind fun t101 => (if t101 = true then (some ((Go.bits .and .i64 a0 (wrap64 (a0 - 1))) == 0)) else (some false))
def spec_l3Size.f (a0 : Int) : Option (Bool) := (spec_l1Power.f a0 2 16).bind fun t102 => (some t102)
def spec_l3Odd.f (a0 : Int) (a1 : Int) : Option (Bool) := (spec_l1In.f a1 1 (wrap64 ((wrap64 (2 * a0)) - 1))).bind fun t103 => (if t103 = true then (some ((Int.tmod a1 2) == 1)) else (some false))
def spec_l3Points.l0 : Nat → Int → List Int → Int → Int → Option (List Int)
  | 0, _, _, _, _ => none
  | k + 1, x0, x3, x4, x5 => if x5 < x0 then ((spec_l3Back.f k x5 x4).bind fun t105 => (if x3.length < 17592186044416 then (spec_l3Points.l0 k x0 (x3 ++ [wrap64 ((wrap64 (2 * t105)) + 1)]) x4 (wrap64 (x5 + 1))) else (none))) else (some x3)
def spec_l3Points.f (k : Nat) (a0 : Int) : Option (List Int) := (spec_l1Bits.f k a0).bind fun t104 => (spec_l3Points.l0 k a0 ([] : List Int) (wrap64 (t104 - 1)) 0)
theorem spec_l3Points.mono_l : ∀ k, (∀ y0 y1 y2 y3, LeO (spec_l3Points.l0 k y0 y1 y2 y3) (spec_l3Points.l0 (k + 1) y0 y1 y2 y3))
  | 0 => fun _ _ _ _ r h => by simp [spec_l3Points.l0] at h
  | k + 1 => by
    have ih0 := spec_l3Points.mono_l k
    · intro y0 y1 y2 y3
      unfold spec_l3Points.l0
      repeat' first
      | (with_reducible exact ih0 _ _ _ _)
      | (with_reducible exact spec_l1Bits.mono _ _)
      | (with_reducible exact spec_l3Back.mono _ _ _)
      | (with_reducible exact LeO.refl _)
      | (with_reducible exact LeO.none _)
      | (with_reducible refine LeO.ite ?_ ?_)
      | (with_reducible refine LeO.bind ?_ (fun _ => ?_))
      | exact ih0 _ _ _ _
      | exact spec_l1Bits.mono _ _
      | exact spec_l3Back.mono _ _ _
      | exact LeO.none _
      | refine LeO.ite ?_ ?_
      | refine LeO.bind ?_ (fun _ => ?_)
theorem spec_l3Points.mono : ∀ a0 k, LeO (spec_l3Points.f k a0) (spec_l3Points.f (k + 1) a0) := by
  intro a0 k
  have ih0 := spec_l3Points.mono_l k
  unfold spec_l3Points.f
  repeat' first
      | (with_reducible exact ih0 _ _ _ _)
      | (with_reducible exact spec_l1Bits.mono _ _)
      | (with_reducible exact spec_l3Back.mono _ _ _)
      | (with_reducible exact LeO.refl _)
      | (with_reducible exact LeO.none _)
      | (with_reducible refine LeO.ite ?_ ?_)
      | (with_reducible refine LeO.bind ?_ (fun _ => ?_))
      | exact ih0 _ _ _ _
      | exact spec_l1Bits.mono _ _
      | exact spec_l3Back.mono _ _ _
      | exact LeO.none _
      | refine LeO.ite ?_ ?_
      | refine LeO.bind ?_ (fun _ => ?_)
mutual
def spec_TurnTable.j0 : Nat → Int → Int → Bool → Option (List Int × Bool)
  | 0, _, _, _ => none
  | k + 1, x0, x1, x20 => if x20 = true then (some (([] : List Int), false)) else ((spec_l3Points.f k x0).bind fun t111 => (spec_TurnTable.l0 k x0 x1 t111 ([] : List Int) t111 (t111.length : Int) 0))
def spec_TurnTable.l0 : Nat → Int → Int → List Int → List Int → List Int → Int → Int → Option (List Int × Bool)
  | 0, _, _, _, _, _, _, _ => none
  | k + 1, x0, x1, x6, x7, x23, x24, x25 => if x25 < x24 then (if 0 ≤ x25 then (if x25 < (x23.length : Int) then (spec_TurnTable.l1 k x0 x1 x6 x7 (rd x23 x25) x23 x24 x25 x6 (x6.length : Int) 0) else (none)) else (none)) else (some (x7, true))
def spec_TurnTable.l1 : Nat → Int → Int → List Int → List Int → Int → List Int → Int → Int → List Int → Int → Int → Option (List Int × Bool)
  | 0, _, _, _, _, _, _, _, _, _, _, _ => none
  | k + 1, x0, x1, x6, x7, x9, x23, x24, x25, x29, x30, x31 => if x31 < x30 then (if 0 ≤ x31 then (if x31 < (x29.length : Int) then (if (wrap64 (2 * x0)) = 0 then (none) else (if (rd x29 x31) = (Int.tmod (wrap64 (x9 * x1)) (wrap64 (2 * x0))) then (if x7.length < 17592186044416 then (spec_TurnTable.l1 k x0 x1 x6 (x7 ++ [x31]) x9 x23 x24 x25 x29 x30 (wrap64 (x31 + 1))) else (none)) else (spec_TurnTable.l1 k x0 x1 x6 x7 x9 x23 x24 x25 x29 x30 (wrap64 (x31 + 1))))) else (none)) else (none)) else (spec_TurnTable.l0 k x0 x1 x6 x7 x23 x24 (wrap64 (x25 + 1)))
end
def spec_TurnTable.f (k : Nat) (a0 : Int) (a1 : Int) : Option (List Int × Bool) := (spec_l3Size.f a0).bind fun t109 => (if t109 = true then ((spec_l3Odd.f a0 a1).bind fun t110 => (spec_TurnTable.j0 k a0 a1 (!t110))) else (spec_TurnTable.j0 k a0 a1 true))
theorem spec_TurnTable.mono_l : ∀ k, (∀ y0 y1 y2, LeO (spec_TurnTable.j0 k y0 y1 y2) (spec_TurnTable.j0 (k + 1) y0 y1 y2)) ∧ (∀ y0 y1 y2 y3 y4 y5 y6, LeO (spec_TurnTable.l0 k y0 y1 y2 y3 y4 y5 y6) (spec_TurnTable.l0 (k + 1) y0 y1 y2 y3 y4 y5 y6)) ∧ (∀ y0 y1 y2 y3 y4 y5 y6 y7 y8 y9 y10, LeO (spec_TurnTable.l1 k y0 y1 y2 y3 y4 y5 y6 y7 y8 y9 y10) (spec_TurnTable.l1 (k + 1) y0 y1 y2 y3 y4 y5 y6 y7 y8 y9 y10))
  | 0 => ⟨fun _ _ _ r h => by simp [spec_TurnTable.j0] at h, fun _ _ _ _ _ _ _ r h => by simp [spec_TurnTable.l0] at h, fun _ _ _ _ _ _ _ _ _ _ _ r h => by simp [spec_TurnTable.l1] at h⟩
  | k + 1 => by
    obtain ⟨ih0, ih1, ih2⟩ := spec_TurnTable.mono_l k
    refine ⟨?_, ?_, ?_⟩
    · intro y0 y1 y2
      unfold spec_TurnTable.j0
      repeat' first
      | (with_reducible exact ih0 _ _ _)
      | (with_reducible exact ih1 _ _ _ _ _ _ _)
      | (with_reducible exact ih2 _ _ _ _ _ _ _ _ _ _ _)
      | (with_reducible exact spec_l3Points.mono _ _)
      | (with_reducible exact LeO.refl _)
      | (with_reducible exact LeO.none _)
      | (with_reducible refine LeO.ite ?_ ?_)
      | (with_reducible refine LeO.bind ?_ (fun _ => ?_))
      | exact ih0 _ _ _
      | exact ih1 _ _ _ _ _ _ _
      | exact ih2 _ _ _ _ _ _ _ _ _ _ _
      | exact spec_l3Points.mono _ _
      | exact LeO.none _
      | refine LeO.ite ?_ ?_
      | refine LeO.bind ?_ (fun _ => ?_)
    · intro y0 y1 y2 y3 y4 y5 y6
      unfold spec_TurnTable.l0
      repeat' first
      | (with_reducible exact ih0 _ _ _)
      | (with_reducible exact ih1 _ _ _ _ _ _ _)
      | (with_reducible exact ih2 _ _ _ _ _ _ _ _ _ _ _)
      | (with_reducible exact spec_l3Points.mono _ _)
      | (with_reducible exact LeO.refl _)
      | (with_reducible exact LeO.none _)
      | (with_reducible refine LeO.ite ?_ ?_)
      | (with_reducible refine LeO.bind ?_ (fun _ => ?_))
      | exact ih0 _ _ _
      | exact ih1 _ _ _ _ _ _ _
      | exact ih2 _ _ _ _ _ _ _ _ _ _ _
      | exact spec_l3Points.mono _ _
      | exact LeO.none _
      | refine LeO.ite ?_ ?_
      | refine LeO.bind ?_ (fun _ => ?_)
    · intro y0 y1 y2 y3 y4 y5 y6 y7 y8 y9 y10
      unfold spec_TurnTable.l1
      repeat' first
      | (with_reducible exact ih0 _ _ _)
      | (with_reducible exact ih1 _ _ _ _ _ _ _)
      | (with_reducible exact ih2 _ _ _ _ _ _ _ _ _ _ _)
      | (with_reducible exact spec_l3Points.mono _ _)
      | (with_reducible exact LeO.refl _)
      | (with_reducible exact LeO.none _)
      | (with_reducible refine LeO.ite ?_ ?_)
      | (with_reducible refine LeO.bind ?_ (fun _ => ?_))
      | exact ih0 _ _ _
      | exact ih1 _ _ _ _ _ _ _
      | exact ih2 _ _ _ _ _ _ _ _ _ _ _
      | exact spec_l3Points.mono _ _
      | exact LeO.none _
      | refine LeO.ite ?_ ?_
      | refine LeO.bind ?_ (fun _ => ?_)
theorem spec_TurnTable.mono : ∀ a0 a1 k, LeO (spec_TurnTable.f k a0 a1) (spec_TurnTable.f (k + 1) a0 a1) := by
  intro a0 a1 k
  obtain ⟨ih0, ih1, ih2⟩ := spec_TurnTable.mono_l k
  unfold spec_TurnTable.f
  repeat' first
      | (with_reducible exact ih0 _ _ _)
      | (with_reducible exact ih1 _ _ _ _ _ _ _)
      | (with_reducible exact ih2 _ _ _ _ _ _ _ _ _ _ _)
      | (with_reducible exact spec_l3Points.mono _ _)
      | (with_reducible exact LeO.refl _)
      | (with_reducible exact LeO.none _)
      | (with_reducible refine LeO.ite ?_ ?_)
      | (with_reducible refine LeO.bind ?_ (fun _ => ?_))
      | exact ih0 _ _ _
      | exact ih1 _ _ _ _ _ _ _
      | exact ih2 _ _ _ _ _ _ _ _ _ _ _
      | exact spec_l3Points.mono _ _
      | exact LeO.none _
      | refine LeO.ite ?_ ?_
      | refine LeO.bind ?_ (fun _ => ?_)
def impl_isPower.f (a0 : Int) (a1 : Int) (a2 : Int) : Option (Bool) := (impl_in.f a0 a1 a2).bind fun t119 => (if t119 = true then (some ((Go.bits .and .i64 a0 (wrap64 (a0 - 1))) == 0)) else (some false))
def impl_isN.f (a0 : Int) : Option (Bool) := (impl_isPower.f a0 2 16).bind fun t120 => (some t120)
def impl_isTurn.f (a0 : Int) (a1 : Int) : Option (Bool) := (impl_in.f a1 1 (wrap64 ((wrap64 (2 * a0)) - 1))).bind fun t121 => (if t121 = true then (some ((Int.tmod a1 2) == 1)) else (some false))
def impl_oddOf.f (k : Nat) (a0 : Int) (a1 : Int) : Option (Int) := (bits_Len.f k (IntKind.u64.wrap (a0))).bind fun t123 => ((impl_bitBack.f k a1 (wrap64 (t123 - 1))).bind fun t124 => (some (wrap64 ((wrap64 (2 * t124)) + 1))))
theorem impl_oddOf.mono : ∀ a0 a1 k, LeO (impl_oddOf.f k a0 a1) (impl_oddOf.f (k + 1) a0 a1) := by
  intro a0 a1 k
  unfold impl_oddOf.f
  repeat' first
      | (with_reducible exact bits_Len.mono _ _)
      | (with_reducible exact impl_bitBack.mono _ _ _)
      | (with_reducible exact LeO.refl _)
      | (with_reducible exact LeO.none _)
      | (with_reducible refine LeO.ite ?_ ?_)
      | (with_reducible refine LeO.bind ?_ (fun _ => ?_))
      | exact bits_Len.mono _ _
      | exact impl_bitBack.mono _ _ _
      | exact LeO.none _
      | refine LeO.ite ?_ ?_
      | refine LeO.bind ?_ (fun _ => ?_)
def impl_turnTable.l0 : Nat → Int → Int → List Int → Int → Int → Option (List Int)
  | 0, _, _, _, _, _ => none
  | k + 1, x0, x1, x5, x8, x9 => if x9 < x8 then ((impl_oddOf.f k x0 x9).bind fun t128 => (if (wrap64 (2 * x0)) = 0 then (none) else ((bits_Len.f k (IntKind.u64.wrap (x0))).bind fun t129 => ((impl_bitBack.f k (wrap64 (Int.tdiv (Int.tmod (wrap64 (t128 * x1)) (wrap64 (2 * x0))) 2)) (wrap64 (t129 - 1))).bind fun t130 => (if x5.length < 17592186044416 then (impl_turnTable.l0 k x0 x1 (x5 ++ [t130]) x8 (wrap64 (x9 + 1))) else (none)))))) else (some x5)
def impl_turnTable.f (k : Nat) (a0 : Int) (a1 : Int) : Option (List Int) := impl_turnTable.l0 k a0 a1 (([] : List Int)) a0 0
theorem impl_turnTable.mono_l : ∀ k, (∀ y0 y1 y2 y3 y4, LeO (impl_turnTable.l0 k y0 y1 y2 y3 y4) (impl_turnTable.l0 (k + 1) y0 y1 y2 y3 y4))
  | 0 => fun _ _ _ _ _ r h => by simp [impl_turnTable.l0] at h
  | k + 1 => by
    have ih0 := impl_turnTable.mono_l k
    · intro y0 y1 y2 y3 y4
      unfold impl_turnTable.l0
      repeat' first
      | (with_reducible exact ih0 _ _ _ _ _)
      | (with_reducible exact bits_Len.mono _ _)
      | (with_reducible exact impl_bitBack.mono _ _ _)
      | (with_reducible exact impl_oddOf.mono _ _ _)
      | (with_reducible exact LeO.refl _)
      | (with_reducible exact LeO.none _)
      | (with_reducible refine LeO.ite ?_ ?_)
      | (with_reducible refine LeO.bind ?_ (fun _ => ?_))
      | exact ih0 _ _ _ _ _
      | exact bits_Len.mono _ _
      | exact impl_bitBack.mono _ _ _
      | exact impl_oddOf.mono _ _ _
      | exact LeO.none _
      | refine LeO.ite ?_ ?_
      | refine LeO.bind ?_ (fun _ => ?_)
theorem impl_turnTable.mono : ∀ a0 a1 k, LeO (impl_turnTable.f k a0 a1) (impl_turnTable.f (k + 1) a0 a1) := by
  intro a0 a1 k
  have ih0 := impl_turnTable.mono_l k
  unfold impl_turnTable.f
  repeat' first
      | (with_reducible exact ih0 _ _ _ _ _)
      | (with_reducible exact bits_Len.mono _ _)
      | (with_reducible exact impl_bitBack.mono _ _ _)
      | (with_reducible exact impl_oddOf.mono _ _ _)
      | (with_reducible exact LeO.refl _)
      | (with_reducible exact LeO.none _)
      | (with_reducible refine LeO.ite ?_ ?_)
      | (with_reducible refine LeO.bind ?_ (fun _ => ?_))
      | exact ih0 _ _ _ _ _
      | exact bits_Len.mono _ _
      | exact impl_bitBack.mono _ _ _
      | exact impl_oddOf.mono _ _ _
      | exact LeO.none _
      | refine LeO.ite ?_ ?_
      | refine LeO.bind ?_ (fun _ => ?_)
def impl_TurnTable.f (k : Nat) (a0 : Int) (a1 : Int) : Option (List Int × Bool) := (impl_isN.f a0).bind fun t134 => (if t134 = true then ((impl_isTurn.f a0 a1).bind fun t135 => (if t135 = true then ((impl_turnTable.f k a0 a1).bind fun t136 => (some (t136, true))) else (some (([] : List Int), false)))) else (some (([] : List Int), false)))
theorem impl_TurnTable.mono : ∀ a0 a1 k, LeO (impl_TurnTable.f k a0 a1) (impl_TurnTable.f (k + 1) a0 a1) := by
  intro a0 a1 k
  unfold impl_TurnTable.f
  repeat' first
      | (with_reducible exact impl_turnTable.mono _ _ _)
      | (with_reducible exact LeO.refl _)
      | (with_reducible exact LeO.none _)
      | (with_reducible refine LeO.ite ?_ ?_)
      | (with_reducible refine LeO.bind ?_ (fun _ => ?_))
      | exact impl_turnTable.mono _ _ _
      | exact LeO.none _
      | refine LeO.ite ?_ ?_
      | refine LeO.bind ?_ (fun _ => ?_)
mutual
def laws_FnExactTurnTable.j0 : Nat → Int → Int → List Int → Bool → List Int → Bool → Option (Bool)
  | 0, _, _, _, _, _, _ => none
  | k + 1, x0, x1, x5, x6, x7, x33 => if x33 = true then (some false) else ((laws_markIntS.f k x7 1).bind fun bt152 => ((laws_heldIntS.f k bt152.2 1).bind fun t154 => (if t154 < 0 then (some false) else (if t154 = bt152.1 then ((impl_TurnTable.f k x0 x1).bind fun bt155 => ((laws_eqIntS.f k bt155.1 x5).bind fun t159 => (if t159 = true then (laws_FnExactTurnTable.j1 k bt152.2 bt152.1 (bt155.2 != x6)) else (laws_FnExactTurnTable.j1 k bt152.2 bt152.1 true)))) else (some false)))))
def laws_FnExactTurnTable.j1 : Nat → List Int → Int → Bool → Option (Bool)
  | 0, _, _, _ => none
  | k + 1, x7, x9, x59 => if x59 = true then (some false) else ((laws_heldIntS.f k x7 1).bind fun t160 => (if t160 < 0 then (some false) else (if t160 = x9 then (some true) else (some false))))
end
def laws_FnExactTurnTable.f (k : Nat) (a0 : Int) (a1 : Int) : Option (Bool) := (spec_TurnTable.f k a0 a1).bind fun bt143 => ((impl_TurnTable.f k a0 a1).bind fun bt147 => ((laws_eqIntS.f k bt147.1 bt143.1).bind fun t151 => (if t151 = true then (laws_FnExactTurnTable.j0 k a0 a1 bt143.1 bt143.2 bt147.1 (bt147.2 != bt143.2)) else (laws_FnExactTurnTable.j0 k a0 a1 bt143.1 bt143.2 bt147.1 true))))
theorem laws_FnExactTurnTable.mono_l : ∀ k, (∀ y0 y1 y2 y3 y4 y5, LeO (laws_FnExactTurnTable.j0 k y0 y1 y2 y3 y4 y5) (laws_FnExactTurnTable.j0 (k + 1) y0 y1 y2 y3 y4 y5)) ∧ (∀ y0 y1 y2, LeO (laws_FnExactTurnTable.j1 k y0 y1 y2) (laws_FnExactTurnTable.j1 (k + 1) y0 y1 y2))
  | 0 => ⟨fun _ _ _ _ _ _ r h => by simp [laws_FnExactTurnTable.j0] at h, fun _ _ _ r h => by simp [laws_FnExactTurnTable.j1] at h⟩
  | k + 1 => by
    obtain ⟨ih0, ih1⟩ := laws_FnExactTurnTable.mono_l k
    refine ⟨?_, ?_⟩
    · intro y0 y1 y2 y3 y4 y5
      unfold laws_FnExactTurnTable.j0
      repeat' first
      | (with_reducible exact ih0 _ _ _ _ _ _)
      | (with_reducible exact ih1 _ _ _)
      | (with_reducible exact impl_TurnTable.mono _ _ _)
      | (with_reducible exact laws_eqIntS.mono _ _ _)
      | (with_reducible exact laws_heldIntS.mono _ _ _)
      | (with_reducible exact laws_markIntS.mono _ _ _)
      | (with_reducible exact spec_TurnTable.mono _ _ _)
      | (with_reducible exact LeO.refl _)
      | (with_reducible exact LeO.none _)
      | (with_reducible refine LeO.ite ?_ ?_)
      | (with_reducible refine LeO.bind ?_ (fun _ => ?_))
      | exact ih0 _ _ _ _ _ _
      | exact ih1 _ _ _
      | exact impl_TurnTable.mono _ _ _
      | exact laws_eqIntS.mono _ _ _
      | exact laws_heldIntS.mono _ _ _
      | exact laws_markIntS.mono _ _ _
      | exact spec_TurnTable.mono _ _ _
      | exact LeO.none _
      | refine LeO.ite ?_ ?_
      | refine LeO.bind ?_ (fun _ => ?_)
    · intro y0 y1 y2
      unfold laws_FnExactTurnTable.j1
      repeat' first
      | (with_reducible exact ih0 _ _ _ _ _ _)
      | (with_reducible exact ih1 _ _ _)
      | (with_reducible exact impl_TurnTable.mono _ _ _)
      | (with_reducible exact laws_eqIntS.mono _ _ _)
      | (with_reducible exact laws_heldIntS.mono _ _ _)
      | (with_reducible exact laws_markIntS.mono _ _ _)
      | (with_reducible exact spec_TurnTable.mono _ _ _)
      | (with_reducible exact LeO.refl _)
      | (with_reducible exact LeO.none _)
      | (with_reducible refine LeO.ite ?_ ?_)
      | (with_reducible refine LeO.bind ?_ (fun _ => ?_))
      | exact ih0 _ _ _ _ _ _
      | exact ih1 _ _ _
      | exact impl_TurnTable.mono _ _ _
      | exact laws_eqIntS.mono _ _ _
      | exact laws_heldIntS.mono _ _ _
      | exact laws_markIntS.mono _ _ _
      | exact spec_TurnTable.mono _ _ _
      | exact LeO.none _
      | refine LeO.ite ?_ ?_
      | refine LeO.bind ?_ (fun _ => ?_)
theorem laws_FnExactTurnTable.mono : ∀ a0 a1 k, LeO (laws_FnExactTurnTable.f k a0 a1) (laws_FnExactTurnTable.f (k + 1) a0 a1) := by
  intro a0 a1 k
  obtain ⟨ih0, ih1⟩ := laws_FnExactTurnTable.mono_l k
  unfold laws_FnExactTurnTable.f
  repeat' first
      | (with_reducible exact ih0 _ _ _ _ _ _)
      | (with_reducible exact ih1 _ _ _)
      | (with_reducible exact impl_TurnTable.mono _ _ _)
      | (with_reducible exact laws_eqIntS.mono _ _ _)
      | (with_reducible exact laws_heldIntS.mono _ _ _)
      | (with_reducible exact laws_markIntS.mono _ _ _)
      | (with_reducible exact spec_TurnTable.mono _ _ _)
      | (with_reducible exact LeO.refl _)
      | (with_reducible exact LeO.none _)
      | (with_reducible refine LeO.ite ?_ ?_)
      | (with_reducible refine LeO.bind ?_ (fun _ => ?_))
      | exact ih0 _ _ _ _ _ _
      | exact ih1 _ _ _
      | exact impl_TurnTable.mono _ _ _
      | exact laws_eqIntS.mono _ _ _
      | exact laws_heldIntS.mono _ _ _
      | exact laws_markIntS.mono _ _ _
      | exact spec_TurnTable.mono _ _ _
      | exact LeO.none _
      | refine LeO.ite ?_ ?_
      | refine LeO.bind ?_ (fun _ => ?_)
def laws_FnExactTurnTable.Pure : Prop := ∀ (a0 : Int) (a1 : Int), (Lit.int .i64 a0).wf = true → (Lit.int .i64 a1).wf = true → ∃ k, laws_FnExactTurnTable.f k a0 a1 = some true
def spec_l2Cmp.l0 : Nat → List Int → List Int → Int → Option (Int)
  | 0, _, _, _ => none
  | k + 1, x0, x1, x5 => if x5 ≥ 0 then (if 0 ≤ x5 then (if x5 < (x0.length : Int) then (if x5 < (x1.length : Int) then (if (rd x0 x5) < (rd x1 x5) then (some (-1)) else (if (rd x0 x5) > (rd x1 x5) then (some 1) else (spec_l2Cmp.l0 k x0 x1 (wrap64 (x5 - 1))))) else (none)) else (none)) else (none)) else (some 0)
def spec_l2Cmp.f (k : Nat) (l0 : List Int) (l1 : List Int) : Option (Int) := if (l0.length : Int) = (l1.length : Int) then (spec_l2Cmp.l0 k l0 l1 (wrap64 ((l0.length : Int) - 1))) else (if (l0.length : Int) < (l1.length : Int) then (some (-1)) else (some 1))
theorem spec_l2Cmp.mono_l : ∀ k, (∀ y0 y1 y2, LeO (spec_l2Cmp.l0 k y0 y1 y2) (spec_l2Cmp.l0 (k + 1) y0 y1 y2))
  | 0 => fun _ _ _ r h => by simp [spec_l2Cmp.l0] at h
  | k + 1 => by
    have ih0 := spec_l2Cmp.mono_l k
    · intro y0 y1 y2
      unfold spec_l2Cmp.l0
      repeat' first
      | (with_reducible exact ih0 _ _ _)
      | (with_reducible exact LeO.refl _)
      | (with_reducible exact LeO.none _)
      | (with_reducible refine LeO.ite ?_ ?_)
      | (with_reducible refine LeO.bind ?_ (fun _ => ?_))
      | exact ih0 _ _ _
      | exact LeO.none _
      | refine LeO.ite ?_ ?_
      | refine LeO.bind ?_ (fun _ => ?_)
theorem spec_l2Cmp.mono : ∀ a0 a1 k, LeO (spec_l2Cmp.f k a0 a1) (spec_l2Cmp.f (k + 1) a0 a1) := by
  intro a0 a1 k
  have ih0 := spec_l2Cmp.mono_l k
  unfold spec_l2Cmp.f
  repeat' first
      | (with_reducible exact ih0 _ _ _)
      | (with_reducible exact LeO.refl _)
      | (with_reducible exact LeO.none _)
      | (with_reducible refine LeO.ite ?_ ?_)
      | (with_reducible refine LeO.bind ?_ (fun _ => ?_))
      | exact ih0 _ _ _
      | exact LeO.none _
      | refine LeO.ite ?_ ?_
      | refine LeO.bind ?_ (fun _ => ?_)
mutual
def spec_l2Compare.j0 : Nat → Bool → Bool → List Int → Bool → List Int → Option (Int)
  | 0, _, _, _, _, _ => none
  | k + 1, x5, x111000, x111001, x112000, x112001 => if x5 = true then (some (-1)) else (if x112000 = true then (spec_l2Compare.j1 k (!x111000) x111000 x111001 x112000 x112001) else (spec_l2Compare.j1 k false x111000 x111001 x112000 x112001))
def spec_l2Compare.j1 : Nat → Bool → Bool → List Int → Bool → List Int → Option (Int)
  | 0, _, _, _, _, _ => none
  | k + 1, x13, x111000, x111001, x112000, x112001 => if x13 = true then (some 1) else (if x111000 = true then ((spec_l2Cmp.f k x112001 x111001).bind fun t112 => (some t112)) else ((spec_l2Cmp.f k x111001 x112001).bind fun t113 => (some t113)))
end
def spec_l2Compare.f (k : Nat) (a0_0 : Bool) (l0_1 : List Int) (a1_0 : Bool) (l1_1 : List Int) : Option (Int) := if a0_0 = true then (spec_l2Compare.j0 k (!a1_0) a0_0 l0_1 a1_0 l1_1) else (spec_l2Compare.j0 k false a0_0 l0_1 a1_0 l1_1)
theorem spec_l2Compare.mono_l : ∀ k, (∀ y0 y1 y2 y3 y4, LeO (spec_l2Compare.j0 k y0 y1 y2 y3 y4) (spec_l2Compare.j0 (k + 1) y0 y1 y2 y3 y4)) ∧ (∀ y0 y1 y2 y3 y4, LeO (spec_l2Compare.j1 k y0 y1 y2 y3 y4) (spec_l2Compare.j1 (k + 1) y0 y1 y2 y3 y4))
  | 0 => ⟨fun _ _ _ _ _ r h => by simp [spec_l2Compare.j0] at h, fun _ _ _ _ _ r h => by simp [spec_l2Compare.j1] at h⟩
  | k + 1 => by
    obtain ⟨ih0, ih1⟩ := spec_l2Compare.mono_l k
    refine ⟨?_, ?_⟩
    · intro y0 y1 y2 y3 y4
      unfold spec_l2Compare.j0
      repeat' first
      | (with_reducible exact ih0 _ _ _ _ _)
      | (with_reducible exact ih1 _ _ _ _ _)
      | (with_reducible exact spec_l2Cmp.mono _ _ _)
      | (with_reducible exact LeO.refl _)
      | (with_reducible exact LeO.none _)
      | (with_reducible refine LeO.ite ?_ ?_)
      | (with_reducible refine LeO.bind ?_ (fun _ => ?_))
      | exact ih0 _ _ _ _ _
      | exact ih1 _ _ _ _ _
      | exact spec_l2Cmp.mono _ _ _
      | exact LeO.none _
      | refine LeO.ite ?_ ?_
      | refine LeO.bind ?_ (fun _ => ?_)
    · intro y0 y1 y2 y3 y4
      unfold spec_l2Compare.j1
      repeat' first
      | (with_reducible exact ih0 _ _ _ _ _)
      | (with_reducible exact ih1 _ _ _ _ _)
      | (with_reducible exact spec_l2Cmp.mono _ _ _)
      | (with_reducible exact LeO.refl _)
      | (with_reducible exact LeO.none _)
      | (with_reducible refine LeO.ite ?_ ?_)
      | (with_reducible refine LeO.bind ?_ (fun _ => ?_))
      | exact ih0 _ _ _ _ _
      | exact ih1 _ _ _ _ _
      | exact spec_l2Cmp.mono _ _ _
      | exact LeO.none _
      | refine LeO.ite ?_ ?_
      | refine LeO.bind ?_ (fun _ => ?_)
theorem spec_l2Compare.mono : ∀ a0 a1 a2 a3 k, LeO (spec_l2Compare.f k a0 a1 a2 a3) (spec_l2Compare.f (k + 1) a0 a1 a2 a3) := by
  intro a0 a1 a2 a3 k
  obtain ⟨ih0, ih1⟩ := spec_l2Compare.mono_l k
  unfold spec_l2Compare.f
  repeat' first
      | (with_reducible exact ih0 _ _ _ _ _)
      | (with_reducible exact ih1 _ _ _ _ _)
      | (with_reducible exact spec_l2Cmp.mono _ _ _)
      | (with_reducible exact LeO.refl _)
      | (with_reducible exact LeO.none _)
      | (with_reducible refine LeO.ite ?_ ?_)
      | (with_reducible refine LeO.bind ?_ (fun _ => ?_))
      | exact ih0 _ _ _ _ _
      | exact ih1 _ _ _ _ _
      | exact spec_l2Cmp.mono _ _ _
      | exact LeO.none _
      | refine LeO.ite ?_ ?_
      | refine LeO.bind ?_ (fun _ => ?_)
def spec_CmpWholes.j0 : Nat → Bool → Bool → List Int → Bool → List Int → Option (Int)
  | 0, _, _, _, _, _ => none
  | k + 1, x12, x117000, x117001, x118000, x118001 => if x12 = true then (some 0) else ((spec_l2In.f x117000 x117001).bind fun bt120 => ((spec_l2In.f x118000 x118001).bind fun bt124 => ((spec_l2Compare.f k bt120.1 bt120.2 bt124.1 bt124.2).bind fun t128 => (some t128))))
def spec_CmpWholes.f (k : Nat) (a0_0 : Bool) (l0_1 : List Int) (a1_0 : Bool) (l1_1 : List Int) : Option (Int) := (spec_GoodWhole.f k a0_0 l0_1).bind fun t118 => (if t118 = true then ((spec_GoodWhole.f k a1_0 l1_1).bind fun t119 => (spec_CmpWholes.j0 k (!t119) a0_0 l0_1 a1_0 l1_1)) else (spec_CmpWholes.j0 k true a0_0 l0_1 a1_0 l1_1))
theorem spec_CmpWholes.mono_l : ∀ k, (∀ y0 y1 y2 y3 y4, LeO (spec_CmpWholes.j0 k y0 y1 y2 y3 y4) (spec_CmpWholes.j0 (k + 1) y0 y1 y2 y3 y4))
  | 0 => fun _ _ _ _ _ r h => by simp [spec_CmpWholes.j0] at h
  | k + 1 => by
    have ih0 := spec_CmpWholes.mono_l k
    · intro y0 y1 y2 y3 y4
      unfold spec_CmpWholes.j0
      repeat' first
      | (with_reducible exact ih0 _ _ _ _ _)
      | (with_reducible exact spec_GoodWhole.mono _ _ _)
      | (with_reducible exact spec_l2Compare.mono _ _ _ _ _)
      | (with_reducible exact LeO.refl _)
      | (with_reducible exact LeO.none _)
      | (with_reducible refine LeO.ite ?_ ?_)
      | (with_reducible refine LeO.bind ?_ (fun _ => ?_))
      | exact ih0 _ _ _ _ _
      | exact spec_GoodWhole.mono _ _ _
      | exact spec_l2Compare.mono _ _ _ _ _
      | exact LeO.none _
      | refine LeO.ite ?_ ?_
      | refine LeO.bind ?_ (fun _ => ?_)
theorem spec_CmpWholes.mono : ∀ a0 a1 a2 a3 k, LeO (spec_CmpWholes.f k a0 a1 a2 a3) (spec_CmpWholes.f (k + 1) a0 a1 a2 a3) := by
  intro a0 a1 a2 a3 k
  have ih0 := spec_CmpWholes.mono_l k
  unfold spec_CmpWholes.f
  repeat' first
      | (with_reducible exact ih0 _ _ _ _ _)
      | (with_reducible exact spec_GoodWhole.mono _ _ _)
      | (with_reducible exact spec_l2Compare.mono _ _ _ _ _)
      | (with_reducible exact LeO.refl _)
      | (with_reducible exact LeO.none _)
      | (with_reducible refine LeO.ite ?_ ?_)
      | (with_reducible refine LeO.bind ?_ (fun _ => ?_))
      | exact ih0 _ _ _ _ _
      | exact spec_GoodWhole.mono _ _ _
      | exact spec_l2Compare.mono _ _ _ _ _
      | exact LeO.none _
      | refine LeO.ite ?_ ?_
      | refine LeO.bind ?_ (fun _ => ?_)
def cmp_isNaN_int.f (a0 : Int) : Option (Bool) := some (a0 != a0)
def cmp_Compare_int.f (a0 : Int) (a1 : Int) : Option (Int) := (cmp_isNaN_int.f a0).bind fun t143 => ((cmp_isNaN_int.f a1).bind fun t144 => (if t143 = true then (if t144 = true then (some 0) else (some (-1))) else (if t144 = true then (some 1) else (if a0 < a1 then (some (-1)) else (if a0 > a1 then (some 1) else (some 0))))))
def impl_sizeCmp.l0 : Nat → List Int → List Int → Int → Option (Int)
  | 0, _, _, _ => none
  | k + 1, x0, x1, x5 => if x5 ≥ 0 then (if 0 ≤ x5 then (if x5 < (x0.length : Int) then (if x5 < (x1.length : Int) then (if (rd x0 x5) = (rd x1 x5) then (impl_sizeCmp.l0 k x0 x1 (wrap64 (x5 - 1))) else ((cmp_Compare_int.f (rd x0 x5) (rd x1 x5)).bind fun t150 => (some t150))) else (none)) else (none)) else (none)) else (some 0)
def impl_sizeCmp.f (k : Nat) (l0 : List Int) (l1 : List Int) : Option (Int) := if (l0.length : Int) = (l1.length : Int) then (impl_sizeCmp.l0 k l0 l1 (wrap64 ((l0.length : Int) - 1))) else ((cmp_Compare_int.f (l0.length : Int) (l1.length : Int)).bind fun t145 => (some t145))
theorem impl_sizeCmp.mono_l : ∀ k, (∀ y0 y1 y2, LeO (impl_sizeCmp.l0 k y0 y1 y2) (impl_sizeCmp.l0 (k + 1) y0 y1 y2))
  | 0 => fun _ _ _ r h => by simp [impl_sizeCmp.l0] at h
  | k + 1 => by
    have ih0 := impl_sizeCmp.mono_l k
    · intro y0 y1 y2
      unfold impl_sizeCmp.l0
      repeat' first
      | (with_reducible exact ih0 _ _ _)
      | (with_reducible exact LeO.refl _)
      | (with_reducible exact LeO.none _)
      | (with_reducible refine LeO.ite ?_ ?_)
      | (with_reducible refine LeO.bind ?_ (fun _ => ?_))
      | exact ih0 _ _ _
      | exact LeO.none _
      | refine LeO.ite ?_ ?_
      | refine LeO.bind ?_ (fun _ => ?_)
theorem impl_sizeCmp.mono : ∀ a0 a1 k, LeO (impl_sizeCmp.f k a0 a1) (impl_sizeCmp.f (k + 1) a0 a1) := by
  intro a0 a1 k
  have ih0 := impl_sizeCmp.mono_l k
  unfold impl_sizeCmp.f
  repeat' first
      | (with_reducible exact ih0 _ _ _)
      | (with_reducible exact LeO.refl _)
      | (with_reducible exact LeO.none _)
      | (with_reducible refine LeO.ite ?_ ?_)
      | (with_reducible refine LeO.bind ?_ (fun _ => ?_))
      | exact ih0 _ _ _
      | exact LeO.none _
      | refine LeO.ite ?_ ?_
      | refine LeO.bind ?_ (fun _ => ?_)
def impl_cmpW.f (k : Nat) (a0_0 : Bool) (l0_1 : List Int) (a1_0 : Bool) (l1_1 : List Int) : Option (Int) := if (a0_0 != a1_0) = true then (if a0_0 = true then (some (-1)) else (some 1)) else (if a0_0 = true then ((impl_sizeCmp.f k l1_1 l0_1).bind fun t153 => (some t153)) else ((impl_sizeCmp.f k l0_1 l1_1).bind fun t154 => (some t154)))
theorem impl_cmpW.mono : ∀ a0 a1 a2 a3 k, LeO (impl_cmpW.f k a0 a1 a2 a3) (impl_cmpW.f (k + 1) a0 a1 a2 a3) := by
  intro a0 a1 a2 a3 k
  unfold impl_cmpW.f
  repeat' first
      | (with_reducible exact impl_sizeCmp.mono _ _ _)
      | (with_reducible exact LeO.refl _)
      | (with_reducible exact LeO.none _)
      | (with_reducible refine LeO.ite ?_ ?_)
      | (with_reducible refine LeO.bind ?_ (fun _ => ?_))
      | exact impl_sizeCmp.mono _ _ _
      | exact LeO.none _
      | refine LeO.ite ?_ ?_
      | refine LeO.bind ?_ (fun _ => ?_)
def impl_CmpWholes.f (k : Nat) (a0_0 : Bool) (l0_1 : List Int) (a1_0 : Bool) (l1_1 : List Int) : Option (Int) := (impl_GoodWhole.f a0_0 l0_1).bind fun t157 => (if t157 = true then ((impl_GoodWhole.f a1_0 l1_1).bind fun t158 => (if t158 = true then ((impl_cmpW.f k a0_0 l0_1 a1_0 l1_1).bind fun t159 => (some t159)) else (some 0))) else (some 0))
theorem impl_CmpWholes.mono : ∀ a0 a1 a2 a3 k, LeO (impl_CmpWholes.f k a0 a1 a2 a3) (impl_CmpWholes.f (k + 1) a0 a1 a2 a3) := by
  intro a0 a1 a2 a3 k
  unfold impl_CmpWholes.f
  repeat' first
      | (with_reducible exact impl_cmpW.mono _ _ _ _ _)
      | (with_reducible exact LeO.refl _)
      | (with_reducible exact LeO.none _)
      | (with_reducible refine LeO.ite ?_ ?_)
      | (with_reducible refine LeO.bind ?_ (fun _ => ?_))
      | exact impl_cmpW.mono _ _ _ _ _
      | exact LeO.none _
      | refine LeO.ite ?_ ?_
      | refine LeO.bind ?_ (fun _ => ?_)
def laws_FnExactCmpWholes.f (k : Nat) (a0_0 : Bool) (l0_1 : List Int) (a1_0 : Bool) (l1_1 : List Int) : Option (Bool) := (laws_szWhole.f a0_0 l0_1 1048576).bind fun t167 => (if t167 < 0 then (some true) else ((laws_szWhole.f a1_0 l1_1 t167).bind fun t168 => (if t168 < 0 then (some true) else ((laws_toWhole.f k a0_0 l0_1).bind fun bt169 => ((laws_toWhole.f k a1_0 l1_1).bind fun bt173 => ((spec_CmpWholes.f k bt169.1 bt169.2 bt173.1 bt173.2).bind fun t177 => ((laws_toWhole.f k a0_0 l0_1).bind fun bt178 => ((laws_toWhole.f k a1_0 l1_1).bind fun bt183 => ((impl_CmpWholes.f k bt178.1 bt178.2 bt183.1 bt183.2).bind fun t188 => (if t188 = t177 then ((laws_toWhole.f k a0_0 l0_1).bind fun bt189 => ((laws_eqWhole.f k bt178.1 bt178.2 bt189.1 bt189.2).bind fun t193 => (if t193 = true then ((laws_toWhole.f k a1_0 l1_1).bind fun bt194 => ((laws_eqWhole.f k bt183.1 bt183.2 bt194.1 bt194.2).bind fun t198 => (if t198 = true then (some true) else (some false)))) else (some false)))) else (some false)))))))))))
theorem laws_FnExactCmpWholes.mono : ∀ a0 a1 a2 a3 k, LeO (laws_FnExactCmpWholes.f k a0 a1 a2 a3) (laws_FnExactCmpWholes.f (k + 1) a0 a1 a2 a3) := by
  intro a0 a1 a2 a3 k
  unfold laws_FnExactCmpWholes.f
  repeat' first
      | (with_reducible exact impl_CmpWholes.mono _ _ _ _ _)
      | (with_reducible exact laws_eqWhole.mono _ _ _ _ _)
      | (with_reducible exact laws_toWhole.mono _ _ _)
      | (with_reducible exact spec_CmpWholes.mono _ _ _ _ _)
      | (with_reducible exact LeO.refl _)
      | (with_reducible exact LeO.none _)
      | (with_reducible refine LeO.ite ?_ ?_)
      | (with_reducible refine LeO.bind ?_ (fun _ => ?_))
      | exact impl_CmpWholes.mono _ _ _ _ _
      | exact laws_eqWhole.mono _ _ _ _ _
      | exact laws_toWhole.mono _ _ _
      | exact spec_CmpWholes.mono _ _ _ _ _
      | exact LeO.none _
      | refine LeO.ite ?_ ?_
      | refine LeO.bind ?_ (fun _ => ?_)
end Go.Proofs.Ytajlgfjmocgoead.M

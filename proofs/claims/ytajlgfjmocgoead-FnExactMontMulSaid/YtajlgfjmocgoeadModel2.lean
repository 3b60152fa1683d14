/- The functions of the program and of the reference as the print spells them, once each: what the plain laws speak of. -/
import Derived.Test.YtajlgfjmocgoeadModel
import Derived.Test.YtajlgfjmocgoeadPlain
namespace Go.Proofs.Ytajlgfjmocgoead.M
open Go.RowKit Go.Proofs.YtajlgfjmocgoeadW.PrintWords Go.Proofs.YtajlgfjmocgoeadW.PrintLast Go.Proofs.YtajlgfjmocgoeadW.PrintMore
set_option linter.unusedVariables false
def laws_szIntS.f (l0 : List Int) (a1 : Int) : Option (Int) := if (wrap64 (a1 - (l0.length : Int))) < 0 then (some (-1)) else (some (wrap64 (a1 - (l0.length : Int))))
def laws_szWhole.f (a0_0 : Bool) (l0_1 : List Int) (a1 : Int) : Option (Int) := (laws_szIntS.f l0_1 a1).bind fun t102 => (if t102 < 0 then (some (-1)) else (some t102))
mutual
def spec_GoodWhole.j0 : Nat → Bool → Bool → List Int → Option (Bool)
  | 0, _, _, _ => none
  | k + 1, x18, x104000, x104001 => if x18 = true then (some false) else (spec_GoodWhole.l0 k x104001 (x104001.length : Int) 0 x104000 x104001)
def spec_GoodWhole.l0 : Nat → List Int → Int → Int → Bool → List Int → Option (Bool)
  | 0, _, _, _, _, _ => none
  | k + 1, x20, x21, x22, x104000, x104001 => if x22 < x21 then (if 0 ≤ x22 then (if x22 < (x20.length : Int) then ((spec_l1In.f (rd x20 x22) 0 268435455).bind fun t105 => (if t105 = true then (if (rd x20 x22) = 0 then (if x22 = (wrap64 ((x104001.length : Int) - 1)) then (some false) else (spec_GoodWhole.l0 k x20 x21 (wrap64 (x22 + 1)) x104000 x104001)) else (spec_GoodWhole.l0 k x20 x21 (wrap64 (x22 + 1)) x104000 x104001)) else (some false))) else (none)) else (none)) else (some true)
end
def spec_GoodWhole.f (k : Nat) (a0_0 : Bool) (l0_1 : List Int) : Option (Bool) := if (l0_1.length : Int) > 40 then (spec_GoodWhole.j0 k true a0_0 l0_1) else (if (l0_1.length : Int) = 0 then (spec_GoodWhole.j0 k a0_0 a0_0 l0_1) else (spec_GoodWhole.j0 k false a0_0 l0_1))
theorem spec_GoodWhole.mono_l : ∀ k, (∀ y0 y1 y2, LeO (spec_GoodWhole.j0 k y0 y1 y2) (spec_GoodWhole.j0 (k + 1) y0 y1 y2)) ∧ (∀ y0 y1 y2 y3 y4, LeO (spec_GoodWhole.l0 k y0 y1 y2 y3 y4) (spec_GoodWhole.l0 (k + 1) y0 y1 y2 y3 y4))
  | 0 => ⟨fun _ _ _ r h => by simp [spec_GoodWhole.j0] at h, fun _ _ _ _ _ r h => by simp [spec_GoodWhole.l0] at h⟩
  | k + 1 => by
    obtain ⟨ih0, ih1⟩ := spec_GoodWhole.mono_l k
    refine ⟨?_, ?_⟩
    · intro y0 y1 y2
      unfold spec_GoodWhole.j0
      repeat' first
      | (with_reducible exact ih0 _ _ _)
      | (with_reducible exact ih1 _ _ _ _ _)
      | (with_reducible exact LeO.refl _)
      | (with_reducible exact LeO.none _)
      | (with_reducible refine LeO.ite ?_ ?_)
      | (with_reducible refine LeO.bind ?_ (fun _ => ?_))
      | exact ih0 _ _ _
      | exact ih1 _ _ _ _ _
      | exact LeO.none _
      | refine LeO.ite ?_ ?_
      | refine LeO.bind ?_ (fun _ => ?_)
    · intro y0 y1 y2 y3 y4
      unfold spec_GoodWhole.l0
      repeat' first
      | (with_reducible exact ih0 _ _ _)
      | (with_reducible exact ih1 _ _ _ _ _)
      | (with_reducible exact LeO.refl _)
      | (with_reducible exact LeO.none _)
      | (with_reducible refine LeO.ite ?_ ?_)
      | (with_reducible refine LeO.bind ?_ (fun _ => ?_))
      | exact ih0 _ _ _
      | exact ih1 _ _ _ _ _
      | exact LeO.none _
      | refine LeO.ite ?_ ?_
      | refine LeO.bind ?_ (fun _ => ?_)
theorem spec_GoodWhole.mono : ∀ a0 a1 k, LeO (spec_GoodWhole.f k a0 a1) (spec_GoodWhole.f (k + 1) a0 a1) := by
  intro a0 a1 k
  obtain ⟨ih0, ih1⟩ := spec_GoodWhole.mono_l k
  unfold spec_GoodWhole.f
  repeat' first
      | (with_reducible exact ih0 _ _ _)
      | (with_reducible exact ih1 _ _ _ _ _)
      | (with_reducible exact LeO.refl _)
      | (with_reducible exact LeO.none _)
      | (with_reducible refine LeO.ite ?_ ?_)
      | (with_reducible refine LeO.bind ?_ (fun _ => ?_))
      | exact ih0 _ _ _
      | exact ih1 _ _ _ _ _
      | exact LeO.none _
      | refine LeO.ite ?_ ?_
      | refine LeO.bind ?_ (fun _ => ?_)
def laws_toIntS.l0 : Nat → List Int → List Int → Int → Option (List Int)
  | 0, _, _, _ => none
  | k + 1, x0, x3, x4 => if x4 < (x0.length : Int) then (if 0 ≤ x4 then (if x4 < (x3.length : Int) then (laws_toIntS.l0 k x0 (x3.set (x4 : Int).toNat (rd x0 x4)) (wrap64 (x4 + 1))) else (none)) else (none)) else (some x3)
def laws_toIntS.f (k : Nat) (l0 : List Int) : Option (List Int) := if 0 ≤ (l0.length : Int) then (if ((l0.length : Int) : Int).toNat ≤ 35184372088832 then (laws_toIntS.l0 k l0 (List.replicate ((l0.length : Int) : Int).toNat 0) 0) else (none)) else (none)
theorem laws_toIntS.mono_l : ∀ k, (∀ y0 y1 y2, LeO (laws_toIntS.l0 k y0 y1 y2) (laws_toIntS.l0 (k + 1) y0 y1 y2))
  | 0 => fun _ _ _ r h => by simp [laws_toIntS.l0] at h
  | k + 1 => by
    have ih0 := laws_toIntS.mono_l k
    · intro y0 y1 y2
      unfold laws_toIntS.l0
      repeat' first
      | (with_reducible exact ih0 _ _ _)
      | (with_reducible exact LeO.refl _)
      | (with_reducible exact LeO.none _)
      | (with_reducible refine LeO.ite ?_ ?_)
      | (with_reducible refine LeO.bind ?_ (fun _ => ?_))
      | exact ih0 _ _ _
      | exact LeO.none _
      | refine LeO.ite ?_ ?_
      | refine LeO.bind ?_ (fun _ => ?_)
theorem laws_toIntS.mono : ∀ a0 k, LeO (laws_toIntS.f k a0) (laws_toIntS.f (k + 1) a0) := by
  intro a0 k
  have ih0 := laws_toIntS.mono_l k
  unfold laws_toIntS.f
  repeat' first
      | (with_reducible exact ih0 _ _ _)
      | (with_reducible exact LeO.refl _)
      | (with_reducible exact LeO.none _)
      | (with_reducible refine LeO.ite ?_ ?_)
      | (with_reducible refine LeO.bind ?_ (fun _ => ?_))
      | exact ih0 _ _ _
      | exact LeO.none _
      | refine LeO.ite ?_ ?_
      | refine LeO.bind ?_ (fun _ => ?_)
def laws_toWhole.f (k : Nat) (a0_0 : Bool) (l0_1 : List Int) : Option (Bool × List Int) := (laws_toIntS.f k l0_1).bind fun t114 => (some (a0_0, t114))
theorem laws_toWhole.mono : ∀ a0 a1 k, LeO (laws_toWhole.f k a0 a1) (laws_toWhole.f (k + 1) a0 a1) := by
  intro a0 a1 k
  unfold laws_toWhole.f
  repeat' first
      | (with_reducible exact laws_toIntS.mono _ _)
      | (with_reducible exact LeO.refl _)
      | (with_reducible exact LeO.none _)
      | (with_reducible refine LeO.ite ?_ ?_)
      | (with_reducible refine LeO.bind ?_ (fun _ => ?_))
      | exact laws_toIntS.mono _ _
      | exact LeO.none _
      | refine LeO.ite ?_ ?_
      | refine LeO.bind ?_ (fun _ => ?_)
def impl_isWhole.f (a0_0 : Bool) (l0_1 : List Int) : Option (Bool) := some (Go.Proofs.Ytajlgfjmocgoead.Plain.isWholeB a0_0 l0_1)
def impl_GoodWhole.f (a0_0 : Bool) (l0_1 : List Int) : Option (Bool) := if (l0_1.length : Int) ≤ 40 then ((impl_isWhole.f a0_0 l0_1).bind fun t119 => (some t119)) else (some false)
def laws_eqIntS.l0 : Nat → List Int → List Int → Int → Option (Bool)
  | 0, _, _, _ => none
  | k + 1, x0, x1, x5 => if x5 < (x0.length : Int) then (if 0 ≤ x5 then (if x5 < (x1.length : Int) then (if (rd x0 x5) = (rd x1 x5) then (laws_eqIntS.l0 k x0 x1 (wrap64 (x5 + 1))) else (some false)) else (none)) else (none)) else (some true)
def laws_eqIntS.f (k : Nat) (l0 : List Int) (l1 : List Int) : Option (Bool) := if (l0.length : Int) = (l1.length : Int) then (laws_eqIntS.l0 k l0 l1 0) else (some false)
theorem laws_eqIntS.mono_l : ∀ k, (∀ y0 y1 y2, LeO (laws_eqIntS.l0 k y0 y1 y2) (laws_eqIntS.l0 (k + 1) y0 y1 y2))
  | 0 => fun _ _ _ r h => by simp [laws_eqIntS.l0] at h
  | k + 1 => by
    have ih0 := laws_eqIntS.mono_l k
    · intro y0 y1 y2
      unfold laws_eqIntS.l0
      repeat' first
      | (with_reducible exact ih0 _ _ _)
      | (with_reducible exact LeO.refl _)
      | (with_reducible exact LeO.none _)
      | (with_reducible refine LeO.ite ?_ ?_)
      | (with_reducible refine LeO.bind ?_ (fun _ => ?_))
      | exact ih0 _ _ _
      | exact LeO.none _
      | refine LeO.ite ?_ ?_
      | refine LeO.bind ?_ (fun _ => ?_)
theorem laws_eqIntS.mono : ∀ a0 a1 k, LeO (laws_eqIntS.f k a0 a1) (laws_eqIntS.f (k + 1) a0 a1) := by
  intro a0 a1 k
  have ih0 := laws_eqIntS.mono_l k
  unfold laws_eqIntS.f
  repeat' first
      | (with_reducible exact ih0 _ _ _)
      | (with_reducible exact LeO.refl _)
      | (with_reducible exact LeO.none _)
      | (with_reducible refine LeO.ite ?_ ?_)
      | (with_reducible refine LeO.bind ?_ (fun _ => ?_))
      | exact ih0 _ _ _
      | exact LeO.none _
      | refine LeO.ite ?_ ?_
      | refine LeO.bind ?_ (fun _ => ?_)
def laws_eqWhole.f (k : Nat) (a0_0 : Bool) (l0_1 : List Int) (a1_0 : Bool) (l1_1 : List Int) : Option (Bool) := if (a0_0 != a1_0) = true then (some false) else ((laws_eqIntS.f k l0_1 l1_1).bind fun t124 => (if t124 = true then (some true) else (some false)))
theorem laws_eqWhole.mono : ∀ a0 a1 a2 a3 k, LeO (laws_eqWhole.f k a0 a1 a2 a3) (laws_eqWhole.f (k + 1) a0 a1 a2 a3) := by
  intro a0 a1 a2 a3 k
  unfold laws_eqWhole.f
  repeat' first
      | (with_reducible exact laws_eqIntS.mono _ _ _)
      | (with_reducible exact LeO.refl _)
      | (with_reducible exact LeO.none _)
      | (with_reducible refine LeO.ite ?_ ?_)
      | (with_reducible refine LeO.bind ?_ (fun _ => ?_))
      | exact laws_eqIntS.mono _ _ _
      | exact LeO.none _
      | refine LeO.ite ?_ ?_
      | refine LeO.bind ?_ (fun _ => ?_)
def laws_FnExactGoodWhole.f (k : Nat) (a0_0 : Bool) (l0_1 : List Int) : Option (Bool) := (laws_szWhole.f a0_0 l0_1 1048576).bind fun t126 => (if t126 < 0 then (some true) else ((laws_toWhole.f k a0_0 l0_1).bind fun bt127 => ((spec_GoodWhole.f k bt127.1 bt127.2).bind fun t131 => ((laws_toWhole.f k a0_0 l0_1).bind fun bt132 => ((impl_GoodWhole.f bt132.1 bt132.2).bind fun t137 => (if (t137 != t131) = true then (some false) else ((laws_toWhole.f k a0_0 l0_1).bind fun bt138 => ((laws_eqWhole.f k bt132.1 bt132.2 bt138.1 bt138.2).bind fun t142 => (if t142 = true then (some true) else (some false))))))))))
theorem laws_FnExactGoodWhole.mono : ∀ a0 a1 k, LeO (laws_FnExactGoodWhole.f k a0 a1) (laws_FnExactGoodWhole.f (k + 1) a0 a1) := by
  intro a0 a1 k
  unfold laws_FnExactGoodWhole.f
  repeat' first
      | (with_reducible exact laws_eqWhole.mono _ _ _ _ _)
      | (with_reducible exact laws_toWhole.mono _ _ _)
      | (with_reducible exact spec_GoodWhole.mono _ _ _)
      | (with_reducible exact LeO.refl _)
      | (with_reducible exact LeO.none _)
      | (with_reducible refine LeO.ite ?_ ?_)
      | (with_reducible refine LeO.bind ?_ (fun _ => ?_))
      | exact laws_eqWhole.mono _ _ _ _ _
      | exact laws_toWhole.mono _ _ _
      | exact spec_GoodWhole.mono _ _ _
      | exact LeO.none _
      | refine LeO.ite ?_ ?_
      | refine LeO.bind ?_ (fun _ => ?_)
def spec_l2Word.l0 : Nat → List Int → Int → Int → Int → Option (Int)
  | 0, _, _, _, _ => none
  | k + 1, x0, x1, x5, x6 => if x6 ≥ 0 then (if 0 ≤ x6 then (if x6 < (x0.length : Int) then (if x1 = 0 then (none) else (spec_l2Word.l0 k x0 x1 (Int.tmod (wrap64 ((wrap64 (x5 * 268435456)) + (rd x0 x6))) x1) (wrap64 (x6 - 1)))) else (none)) else (none)) else (some x5)
def spec_l2Word.f (k : Nat) (l0 : List Int) (a1 : Int) : Option (Int) := spec_l2Word.l0 k l0 a1 0 (wrap64 ((l0.length : Int) - 1))
theorem spec_l2Word.mono_l : ∀ k, (∀ y0 y1 y2 y3, LeO (spec_l2Word.l0 k y0 y1 y2 y3) (spec_l2Word.l0 (k + 1) y0 y1 y2 y3))
  | 0 => fun _ _ _ _ r h => by simp [spec_l2Word.l0] at h
  | k + 1 => by
    have ih0 := spec_l2Word.mono_l k
    · intro y0 y1 y2 y3
      unfold spec_l2Word.l0
      repeat' first
      | (with_reducible exact ih0 _ _ _ _)
      | (with_reducible exact LeO.refl _)
      | (with_reducible exact LeO.none _)
      | (with_reducible refine LeO.ite ?_ ?_)
      | (with_reducible refine LeO.bind ?_ (fun _ => ?_))
      | exact ih0 _ _ _ _
      | exact LeO.none _
      | refine LeO.ite ?_ ?_
      | refine LeO.bind ?_ (fun _ => ?_)
theorem spec_l2Word.mono : ∀ a0 a1 k, LeO (spec_l2Word.f k a0 a1) (spec_l2Word.f (k + 1) a0 a1) := by
  intro a0 a1 k
  have ih0 := spec_l2Word.mono_l k
  unfold spec_l2Word.f
  repeat' first
      | (with_reducible exact ih0 _ _ _ _)
      | (with_reducible exact LeO.refl _)
      | (with_reducible exact LeO.none _)
      | (with_reducible refine LeO.ite ?_ ?_)
      | (with_reducible refine LeO.bind ?_ (fun _ => ?_))
      | exact ih0 _ _ _ _
      | exact LeO.none _
      | refine LeO.ite ?_ ?_
      | refine LeO.bind ?_ (fun _ => ?_)
def spec_l2Modulo.f (k : Nat) (a0_0 : Bool) (l0_1 : List Int) (a1 : Int) : Option (Int) := (spec_l2Word.f k l0_1 a1).bind fun t125 => (if a0_0 = true then (if t125 > 0 then (some (wrap64 (a1 - t125))) else (some t125)) else (some t125))
theorem spec_l2Modulo.mono : ∀ a0 a1 a2 k, LeO (spec_l2Modulo.f k a0 a1 a2) (spec_l2Modulo.f (k + 1) a0 a1 a2) := by
  intro a0 a1 a2 k
  unfold spec_l2Modulo.f
  repeat' first
      | (with_reducible exact spec_l2Word.mono _ _ _)
      | (with_reducible exact LeO.refl _)
      | (with_reducible exact LeO.none _)
      | (with_reducible refine LeO.ite ?_ ?_)
      | (with_reducible refine LeO.bind ?_ (fun _ => ?_))
      | exact spec_l2Word.mono _ _ _
      | exact LeO.none _
      | refine LeO.ite ?_ ?_
      | refine LeO.bind ?_ (fun _ => ?_)
def spec_l2In.f (a0_0 : Bool) (l0_1 : List Int) : Option (Bool × List Int) := some (a0_0, l0_1)
def spec_ModWord.j0 : Nat → Int → Bool → Bool → List Int → Option (Int)
  | 0, _, _, _, _ => none
  | k + 1, x1, x12, x129000, x129001 => if x12 = true then (some 0) else ((spec_l2In.f x129000 x129001).bind fun bt131 => ((spec_l2Modulo.f k bt131.1 bt131.2 x1).bind fun t135 => (some t135)))
def spec_ModWord.f (k : Nat) (a0_0 : Bool) (l0_1 : List Int) (a1 : Int) : Option (Int) := (spec_GoodWhole.f k a0_0 l0_1).bind fun t129 => (if t129 = true then ((spec_l1Modulus.f a1).bind fun t130 => (spec_ModWord.j0 k a1 (!t130) a0_0 l0_1)) else (spec_ModWord.j0 k a1 true a0_0 l0_1))
theorem spec_ModWord.mono_l : ∀ k, (∀ y0 y1 y2 y3, LeO (spec_ModWord.j0 k y0 y1 y2 y3) (spec_ModWord.j0 (k + 1) y0 y1 y2 y3))
  | 0 => fun _ _ _ _ r h => by simp [spec_ModWord.j0] at h
  | k + 1 => by
    have ih0 := spec_ModWord.mono_l k
    · intro y0 y1 y2 y3
      unfold spec_ModWord.j0
      repeat' first
      | (with_reducible exact ih0 _ _ _ _)
      | (with_reducible exact spec_GoodWhole.mono _ _ _)
      | (with_reducible exact spec_l2Modulo.mono _ _ _ _)
      | (with_reducible exact LeO.refl _)
      | (with_reducible exact LeO.none _)
      | (with_reducible refine LeO.ite ?_ ?_)
      | (with_reducible refine LeO.bind ?_ (fun _ => ?_))
      | exact ih0 _ _ _ _
      | exact spec_GoodWhole.mono _ _ _
      | exact spec_l2Modulo.mono _ _ _ _
      | exact LeO.none _
      | refine LeO.ite ?_ ?_
      | refine LeO.bind ?_ (fun _ => ?_)
theorem spec_ModWord.mono : ∀ a0 a1 a2 k, LeO (spec_ModWord.f k a0 a1 a2) (spec_ModWord.f (k + 1) a0 a1 a2) := by
  intro a0 a1 a2 k
  have ih0 := spec_ModWord.mono_l k
  unfold spec_ModWord.f
  repeat' first
      | (with_reducible exact ih0 _ _ _ _)
      | (with_reducible exact spec_GoodWhole.mono _ _ _)
      | (with_reducible exact spec_l2Modulo.mono _ _ _ _)
      | (with_reducible exact LeO.refl _)
      | (with_reducible exact LeO.none _)
      | (with_reducible refine LeO.ite ?_ ?_)
      | (with_reducible refine LeO.bind ?_ (fun _ => ?_))
      | exact ih0 _ _ _ _
      | exact spec_GoodWhole.mono _ _ _
      | exact spec_l2Modulo.mono _ _ _ _
      | exact LeO.none _
      | refine LeO.ite ?_ ?_
      | refine LeO.bind ?_ (fun _ => ?_)
def impl_modW.l0 : Nat → Int → Int → Int → Bool → List Int → Option (Int)
  | 0, _, _, _, _, _ => none
  | k + 1, x1, x5, x6, x141000, x141001 => if x6 ≥ 0 then (if 0 ≤ x6 then (if x6 < (x141001.length : Int) then (if x1 = 0 then (none) else (impl_modW.l0 k x1 (Int.tmod (Go.bits .or .i64 (wrap64 (x5 * 268435456)) (rd x141001 x6)) x1) (wrap64 (x6 - 1)) x141000 x141001)) else (none)) else (none)) else (if x141000 = true then ((impl_mod.f (wrap64 (-x5)) x1).bind fun t142 => (some t142)) else (some x5))
def impl_modW.f (k : Nat) (a0_0 : Bool) (l0_1 : List Int) (a1 : Int) : Option (Int) := impl_modW.l0 k a1 0 (wrap64 ((l0_1.length : Int) - 1)) a0_0 l0_1
theorem impl_modW.mono_l : ∀ k, (∀ y0 y1 y2 y3 y4, LeO (impl_modW.l0 k y0 y1 y2 y3 y4) (impl_modW.l0 (k + 1) y0 y1 y2 y3 y4))
  | 0 => fun _ _ _ _ _ r h => by simp [impl_modW.l0] at h
  | k + 1 => by
    have ih0 := impl_modW.mono_l k
    · intro y0 y1 y2 y3 y4
      unfold impl_modW.l0
      repeat' first
      | (with_reducible exact ih0 _ _ _ _ _)
      | (with_reducible exact LeO.refl _)
      | (with_reducible exact LeO.none _)
      | (with_reducible refine LeO.ite ?_ ?_)
      | (with_reducible refine LeO.bind ?_ (fun _ => ?_))
      | exact ih0 _ _ _ _ _
      | exact LeO.none _
      | refine LeO.ite ?_ ?_
      | refine LeO.bind ?_ (fun _ => ?_)
theorem impl_modW.mono : ∀ a0 a1 a2 k, LeO (impl_modW.f k a0 a1 a2) (impl_modW.f (k + 1) a0 a1 a2) := by
  intro a0 a1 a2 k
  have ih0 := impl_modW.mono_l k
  unfold impl_modW.f
  repeat' first
      | (with_reducible exact ih0 _ _ _ _ _)
      | (with_reducible exact LeO.refl _)
      | (with_reducible exact LeO.none _)
      | (with_reducible refine LeO.ite ?_ ?_)
      | (with_reducible refine LeO.bind ?_ (fun _ => ?_))
      | exact ih0 _ _ _ _ _
      | exact LeO.none _
      | refine LeO.ite ?_ ?_
      | refine LeO.bind ?_ (fun _ => ?_)
def impl_ModWord.f (k : Nat) (a0_0 : Bool) (l0_1 : List Int) (a1 : Int) : Option (Int) := (impl_GoodWhole.f a0_0 l0_1).bind fun t144 => (if t144 = true then ((impl_isModulus.f a1).bind fun t145 => (if t145 = true then ((impl_modW.f k a0_0 l0_1 a1).bind fun t146 => (some t146)) else (some 0))) else (some 0))
theorem impl_ModWord.mono : ∀ a0 a1 a2 k, LeO (impl_ModWord.f k a0 a1 a2) (impl_ModWord.f (k + 1) a0 a1 a2) := by
  intro a0 a1 a2 k
  unfold impl_ModWord.f
  repeat' first
      | (with_reducible exact impl_modW.mono _ _ _ _)
      | (with_reducible exact LeO.refl _)
      | (with_reducible exact LeO.none _)
      | (with_reducible refine LeO.ite ?_ ?_)
      | (with_reducible refine LeO.bind ?_ (fun _ => ?_))
      | exact impl_modW.mono _ _ _ _
      | exact LeO.none _
      | refine LeO.ite ?_ ?_
      | refine LeO.bind ?_ (fun _ => ?_)
def laws_FnExactModWord.f (k : Nat) (a0_0 : Bool) (l0_1 : List Int) (a1 : Int) : Option (Bool) := (laws_szWhole.f a0_0 l0_1 1048576).bind fun t148 => (if t148 < 0 then (some true) else ((laws_toWhole.f k a0_0 l0_1).bind fun bt149 => ((spec_ModWord.f k bt149.1 bt149.2 a1).bind fun t153 => ((laws_toWhole.f k a0_0 l0_1).bind fun bt154 => ((impl_ModWord.f k bt154.1 bt154.2 a1).bind fun t159 => (if t159 = t153 then ((laws_toWhole.f k a0_0 l0_1).bind fun bt160 => ((laws_eqWhole.f k bt154.1 bt154.2 bt160.1 bt160.2).bind fun t164 => (if t164 = true then (some true) else (some false)))) else (some false)))))))
theorem laws_FnExactModWord.mono : ∀ a0 a1 a2 k, LeO (laws_FnExactModWord.f k a0 a1 a2) (laws_FnExactModWord.f (k + 1) a0 a1 a2) := by
  intro a0 a1 a2 k
  unfold laws_FnExactModWord.f
  repeat' first
      | (with_reducible exact impl_ModWord.mono _ _ _ _)
      | (with_reducible exact laws_eqWhole.mono _ _ _ _ _)
      | (with_reducible exact laws_toWhole.mono _ _ _)
      | (with_reducible exact spec_ModWord.mono _ _ _ _)
      | (with_reducible exact LeO.refl _)
      | (with_reducible exact LeO.none _)
      | (with_reducible refine LeO.ite ?_ ?_)
      | (with_reducible refine LeO.bind ?_ (fun _ => ?_))
      | exact impl_ModWord.mono _ _ _ _
      | exact laws_eqWhole.mono _ _ _ _ _
      | exact laws_toWhole.mono _ _ _
      | exact spec_ModWord.mono _ _ _ _
      | exact LeO.none _
      | refine LeO.ite ?_ ?_
      | refine LeO.bind ?_ (fun _ => ?_)
def spec_l2Out.f (a0_0 : Bool) (l0_1 : List Int) : Option (Bool × List Int × Bool) := if (l0_1.length : Int) > 40 then (some (false, ([] : List Int), false)) else ((some (([] : List Int) : List Int)).bind fun y108 => (if y108.length + l0_1.length < 17592186044416 then (some (a0_0, (y108 ++ l0_1), true)) else (none)))
def spec_l2Of.l0 : Nat → Int → List Int → Option (List Int)
  | 0, _, _ => none
  | k + 1, x0, x3 => if x0 > 0 then (if x3.length < 17592186044416 then (spec_l2Of.l0 k (wrap64 (Int.tdiv x0 268435456)) (x3 ++ [Int.tmod x0 268435456])) else (none)) else (some x3)
def spec_l2Of.f (k : Nat) (a0 : Int) : Option (List Int) := spec_l2Of.l0 k a0 ([] : List Int)
theorem spec_l2Of.mono_l : ∀ k, (∀ y0 y1, LeO (spec_l2Of.l0 k y0 y1) (spec_l2Of.l0 (k + 1) y0 y1))
  | 0 => fun _ _ r h => by simp [spec_l2Of.l0] at h
  | k + 1 => by
    have ih0 := spec_l2Of.mono_l k
    · intro y0 y1
      unfold spec_l2Of.l0
      repeat' first
      | (with_reducible exact ih0 _ _)
      | (with_reducible exact LeO.refl _)
      | (with_reducible exact LeO.none _)
      | (with_reducible refine LeO.ite ?_ ?_)
      | (with_reducible refine LeO.bind ?_ (fun _ => ?_))
      | exact ih0 _ _
      | exact LeO.none _
      | refine LeO.ite ?_ ?_
      | refine LeO.bind ?_ (fun _ => ?_)
theorem spec_l2Of.mono : ∀ a0 k, LeO (spec_l2Of.f k a0) (spec_l2Of.f (k + 1) a0) := by
  intro a0 k
  have ih0 := spec_l2Of.mono_l k
  unfold spec_l2Of.f
  repeat' first
      | (with_reducible exact ih0 _ _)
      | (with_reducible exact LeO.refl _)
      | (with_reducible exact LeO.none _)
      | (with_reducible refine LeO.ite ?_ ?_)
      | (with_reducible refine LeO.bind ?_ (fun _ => ?_))
      | exact ih0 _ _
      | exact LeO.none _
      | refine LeO.ite ?_ ?_
      | refine LeO.bind ?_ (fun _ => ?_)
def spec_l2Trim.l0 : Nat → List Int → Option (List Int)
  | 0, _ => none
  | k + 1, x0 => if (x0.length : Int) > 0 then (if 0 ≤ (wrap64 ((x0.length : Int) - 1)) then (if (wrap64 ((x0.length : Int) - 1)) < (x0.length : Int) then (if (rd x0 (wrap64 ((x0.length : Int) - 1))) = 0 then (if (wrap64 ((x0.length : Int) - 1)) ≤ (x0.length : Int) then (spec_l2Trim.l0 k (x0.take ((wrap64 ((x0.length : Int) - 1)) : Int).toNat)) else (none)) else (some x0)) else (none)) else (none)) else (some x0)
def spec_l2Trim.f (k : Nat) (l0 : List Int) : Option (List Int) := spec_l2Trim.l0 k l0
theorem spec_l2Trim.mono_l : ∀ k, (∀ y0, LeO (spec_l2Trim.l0 k y0) (spec_l2Trim.l0 (k + 1) y0))
  | 0 => fun _ r h => by simp [spec_l2Trim.l0] at h
  | k + 1 => by
    have ih0 := spec_l2Trim.mono_l k
    · intro y0
      unfold spec_l2Trim.l0
      repeat' first
      | (with_reducible exact ih0 _)
      | (with_reducible exact LeO.refl _)
      | (with_reducible exact LeO.none _)
      | (with_reducible refine LeO.ite ?_ ?_)
      | (with_reducible refine LeO.bind ?_ (fun _ => ?_))
      | exact ih0 _
      | exact LeO.none _
      | refine LeO.ite ?_ ?_
      | refine LeO.bind ?_ (fun _ => ?_)
theorem spec_l2Trim.mono : ∀ a0 k, LeO (spec_l2Trim.f k a0) (spec_l2Trim.f (k + 1) a0) := by
  intro a0 k
  have ih0 := spec_l2Trim.mono_l k
  unfold spec_l2Trim.f
  repeat' first
      | (with_reducible exact ih0 _)
      | (with_reducible exact LeO.refl _)
      | (with_reducible exact LeO.none _)
      | (with_reducible refine LeO.ite ?_ ?_)
      | (with_reducible refine LeO.bind ?_ (fun _ => ?_))
      | exact ih0 _
      | exact LeO.none _
      | refine LeO.ite ?_ ?_
      | refine LeO.bind ?_ (fun _ => ?_)
mutual
def spec_l2Add.l0 : Nat → List Int → List Int → List Int → Int → Int → Option (List Int)
  | 0, _, _, _, _, _ => none
  | k + 1, x0, x1, x5, x6, x7 => if x7 < (x0.length : Int) then (spec_l2Add.j1 k x0 x1 x5 x6 x7 true) else (if x7 < (x1.length : Int) then (spec_l2Add.j1 k x0 x1 x5 x6 x7 true) else (spec_l2Add.j1 k x0 x1 x5 x6 x7 (decide (x6 > 0))))
def spec_l2Add.j1 : Nat → List Int → List Int → List Int → Int → Int → Bool → Option (List Int)
  | 0, _, _, _, _, _, _ => none
  | k + 1, x0, x1, x5, x6, x7, x21 => if x21 = true then (if x7 < (x0.length : Int) then (if 0 ≤ x7 then (if x7 < (x1.length : Int) then (if x5.length < 17592186044416 then (spec_l2Add.l0 k x0 x1 (x5 ++ [Int.tmod (wrap64 ((wrap64 (x6 + (rd x0 x7))) + (rd x1 x7))) 268435456]) (wrap64 (Int.tdiv (wrap64 ((wrap64 (x6 + (rd x0 x7))) + (rd x1 x7))) 268435456)) (wrap64 (x7 + 1))) else (none)) else (if x5.length < 17592186044416 then (spec_l2Add.l0 k x0 x1 (x5 ++ [Int.tmod (wrap64 (x6 + (rd x0 x7))) 268435456]) (wrap64 (Int.tdiv (wrap64 (x6 + (rd x0 x7))) 268435456)) (wrap64 (x7 + 1))) else (none))) else (none)) else (if x7 < (x1.length : Int) then (if 0 ≤ x7 then (if x5.length < 17592186044416 then (spec_l2Add.l0 k x0 x1 (x5 ++ [Int.tmod (wrap64 (x6 + (rd x1 x7))) 268435456]) (wrap64 (Int.tdiv (wrap64 (x6 + (rd x1 x7))) 268435456)) (wrap64 (x7 + 1))) else (none)) else (none)) else (if x5.length < 17592186044416 then (spec_l2Add.l0 k x0 x1 (x5 ++ [Int.tmod x6 268435456]) (wrap64 (Int.tdiv x6 268435456)) (wrap64 (x7 + 1))) else (none)))) else ((spec_l2Trim.f k x5).bind fun t123 => (some t123))
end
def spec_l2Add.f (k : Nat) (l0 : List Int) (l1 : List Int) : Option (List Int) := spec_l2Add.l0 k l0 l1 ([] : List Int) 0 0
theorem spec_l2Add.mono_l : ∀ k, (∀ y0 y1 y2 y3 y4, LeO (spec_l2Add.l0 k y0 y1 y2 y3 y4) (spec_l2Add.l0 (k + 1) y0 y1 y2 y3 y4)) ∧ (∀ y0 y1 y2 y3 y4 y5, LeO (spec_l2Add.j1 k y0 y1 y2 y3 y4 y5) (spec_l2Add.j1 (k + 1) y0 y1 y2 y3 y4 y5))
  | 0 => ⟨fun _ _ _ _ _ r h => by simp [spec_l2Add.l0] at h, fun _ _ _ _ _ _ r h => by simp [spec_l2Add.j1] at h⟩
  | k + 1 => by
    obtain ⟨ih0, ih1⟩ := spec_l2Add.mono_l k
    refine ⟨?_, ?_⟩
    · intro y0 y1 y2 y3 y4
      unfold spec_l2Add.l0
      repeat' first
      | (with_reducible exact ih0 _ _ _ _ _)
      | (with_reducible exact ih1 _ _ _ _ _ _)
      | (with_reducible exact spec_l2Trim.mono _ _)
      | (with_reducible exact LeO.refl _)
      | (with_reducible exact LeO.none _)
      | (with_reducible refine LeO.ite ?_ ?_)
      | (with_reducible refine LeO.bind ?_ (fun _ => ?_))
      | exact ih0 _ _ _ _ _
      | exact ih1 _ _ _ _ _ _
      | exact spec_l2Trim.mono _ _
      | exact LeO.none _
      | refine LeO.ite ?_ ?_
      | refine LeO.bind ?_ (fun _ => ?_)
    · intro y0 y1 y2 y3 y4 y5
      unfold spec_l2Add.j1
      repeat' first
      | (with_reducible exact ih0 _ _ _ _ _)
      | (with_reducible exact ih1 _ _ _ _ _ _)
      | (with_reducible exact spec_l2Trim.mono _ _)
      | (with_reducible exact LeO.refl _)
      | (with_reducible exact LeO.none _)
      | (with_reducible refine LeO.ite ?_ ?_)
      | (with_reducible refine LeO.bind ?_ (fun _ => ?_))
      | exact ih0 _ _ _ _ _
      | exact ih1 _ _ _ _ _ _
      | exact spec_l2Trim.mono _ _
      | exact LeO.none _
      | refine LeO.ite ?_ ?_
      | refine LeO.bind ?_ (fun _ => ?_)
theorem spec_l2Add.mono : ∀ a0 a1 k, LeO (spec_l2Add.f k a0 a1) (spec_l2Add.f (k + 1) a0 a1) := by
  intro a0 a1 k
  obtain ⟨ih0, ih1⟩ := spec_l2Add.mono_l k
  unfold spec_l2Add.f
  repeat' first
      | (with_reducible exact ih0 _ _ _ _ _)
      | (with_reducible exact ih1 _ _ _ _ _ _)
      | (with_reducible exact spec_l2Trim.mono _ _)
      | (with_reducible exact LeO.refl _)
      | (with_reducible exact LeO.none _)
      | (with_reducible refine LeO.ite ?_ ?_)
      | (with_reducible refine LeO.bind ?_ (fun _ => ?_))
      | exact ih0 _ _ _ _ _
      | exact ih1 _ _ _ _ _ _
      | exact spec_l2Trim.mono _ _
      | exact LeO.none _
      | refine LeO.ite ?_ ?_
      | refine LeO.bind ?_ (fun _ => ?_)
def spec_l2Int.f (k : Nat) (a0 : Int) : Option (Bool × List Int) := if a0 ≥ 0 then ((spec_l2Of.f k a0).bind fun t142 => (some (false, t142))) else ((spec_l2Of.f k (wrap64 (-(wrap64 (a0 + 1))))).bind fun t145 => ((spec_l2Add.f k t145 (([1] : List Int))).bind fun t151 => (some (true, t151))))
theorem spec_l2Int.mono : ∀ a0 k, LeO (spec_l2Int.f k a0) (spec_l2Int.f (k + 1) a0) := by
  intro a0 k
  unfold spec_l2Int.f
  repeat' first
      | (with_reducible exact spec_l2Add.mono _ _ _)
      | (with_reducible exact spec_l2Of.mono _ _)
      | (with_reducible exact LeO.refl _)
      | (with_reducible exact LeO.none _)
      | (with_reducible refine LeO.ite ?_ ?_)
      | (with_reducible refine LeO.bind ?_ (fun _ => ?_))
      | exact spec_l2Add.mono _ _ _
      | exact spec_l2Of.mono _ _
      | exact LeO.none _
      | refine LeO.ite ?_ ?_
      | refine LeO.bind ?_ (fun _ => ?_)
def spec_WholeOf.f (k : Nat) (a0 : Int) : Option (Bool × List Int) := (spec_l2Int.f k a0).bind fun bt155 => ((spec_l2Out.f bt155.1 bt155.2).bind fun bt159 => (some (bt159.1, bt159.2.1)))
theorem spec_WholeOf.mono : ∀ a0 k, LeO (spec_WholeOf.f k a0) (spec_WholeOf.f (k + 1) a0) := by
  intro a0 k
  unfold spec_WholeOf.f
  repeat' first
      | (with_reducible exact spec_l2Int.mono _ _)
      | (with_reducible exact LeO.refl _)
      | (with_reducible exact LeO.none _)
      | (with_reducible refine LeO.ite ?_ ?_)
      | (with_reducible refine LeO.bind ?_ (fun _ => ?_))
      | exact spec_l2Int.mono _ _
      | exact LeO.none _
      | refine LeO.ite ?_ ?_
      | refine LeO.bind ?_ (fun _ => ?_)
mutual
def impl_wholeOf.j0 : Nat → Int → List Int → Int → Option (Bool × List Int)
  | 0, _, _, _ => none
  | k + 1, x0, x3, x4 => impl_wholeOf.l0 k x0 x3 x4
def impl_wholeOf.l0 : Nat → Int → List Int → Int → Option (Bool × List Int)
  | 0, _, _, _ => none
  | k + 1, x0, x3, x4 => if x4 > 0 then (if x3.length < 17592186044416 then (impl_wholeOf.l0 k x0 (x3 ++ [wrap64 (Go.bits .and .u64 x4 268435455)]) (x4 / 268435456)) else (none)) else (some (decide (x0 < 0), x3))
end
def impl_wholeOf.f (k : Nat) (a0 : Int) : Option (Bool × List Int) := (some (([] : List Int) : List Int)).bind fun y166 => (if a0 < 0 then (impl_wholeOf.j0 k a0 y166 (IntKind.u64.wrap (-(IntKind.u64.wrap (a0))))) else (impl_wholeOf.j0 k a0 y166 (IntKind.u64.wrap (a0))))
theorem impl_wholeOf.mono_l : ∀ k, (∀ y0 y1 y2, LeO (impl_wholeOf.j0 k y0 y1 y2) (impl_wholeOf.j0 (k + 1) y0 y1 y2)) ∧ (∀ y0 y1 y2, LeO (impl_wholeOf.l0 k y0 y1 y2) (impl_wholeOf.l0 (k + 1) y0 y1 y2))
  | 0 => ⟨fun _ _ _ r h => by simp [impl_wholeOf.j0] at h, fun _ _ _ r h => by simp [impl_wholeOf.l0] at h⟩
  | k + 1 => by
    obtain ⟨ih0, ih1⟩ := impl_wholeOf.mono_l k
    refine ⟨?_, ?_⟩
    · intro y0 y1 y2
      unfold impl_wholeOf.j0
      repeat' first
      | (with_reducible exact ih0 _ _ _)
      | (with_reducible exact ih1 _ _ _)
      | (with_reducible exact LeO.refl _)
      | (with_reducible exact LeO.none _)
      | (with_reducible refine LeO.ite ?_ ?_)
      | (with_reducible refine LeO.bind ?_ (fun _ => ?_))
      | exact ih0 _ _ _
      | exact ih1 _ _ _
      | exact LeO.none _
      | refine LeO.ite ?_ ?_
      | refine LeO.bind ?_ (fun _ => ?_)
    · intro y0 y1 y2
      unfold impl_wholeOf.l0
      repeat' first
      | (with_reducible exact ih0 _ _ _)
      | (with_reducible exact ih1 _ _ _)
      | (with_reducible exact LeO.refl _)
      | (with_reducible exact LeO.none _)
      | (with_reducible refine LeO.ite ?_ ?_)
      | (with_reducible refine LeO.bind ?_ (fun _ => ?_))
      | exact ih0 _ _ _
      | exact ih1 _ _ _
      | exact LeO.none _
      | refine LeO.ite ?_ ?_
      | refine LeO.bind ?_ (fun _ => ?_)
theorem impl_wholeOf.mono : ∀ a0 k, LeO (impl_wholeOf.f k a0) (impl_wholeOf.f (k + 1) a0) := by
  intro a0 k
  obtain ⟨ih0, ih1⟩ := impl_wholeOf.mono_l k
  unfold impl_wholeOf.f
  repeat' first
      | (with_reducible exact ih0 _ _ _)
      | (with_reducible exact ih1 _ _ _)
      | (with_reducible exact LeO.refl _)
      | (with_reducible exact LeO.none _)
      | (with_reducible refine LeO.ite ?_ ?_)
      | (with_reducible refine LeO.bind ?_ (fun _ => ?_))
      | exact ih0 _ _ _
      | exact ih1 _ _ _
      | exact LeO.none _
      | refine LeO.ite ?_ ?_
      | refine LeO.bind ?_ (fun _ => ?_)
def impl_WholeOf.f (k : Nat) (a0 : Int) : Option (Bool × List Int) := (impl_wholeOf.f k a0).bind fun bt173 => (some (bt173.1, bt173.2))
theorem impl_WholeOf.mono : ∀ a0 k, LeO (impl_WholeOf.f k a0) (impl_WholeOf.f (k + 1) a0) := by
  intro a0 k
  unfold impl_WholeOf.f
  repeat' first
      | (with_reducible exact impl_wholeOf.mono _ _)
      | (with_reducible exact LeO.refl _)
      | (with_reducible exact LeO.none _)
      | (with_reducible refine LeO.ite ?_ ?_)
      | (with_reducible refine LeO.bind ?_ (fun _ => ?_))
      | exact impl_wholeOf.mono _ _
      | exact LeO.none _
      | refine LeO.ite ?_ ?_
      | refine LeO.bind ?_ (fun _ => ?_)
def laws_markIntS.l0 : Nat → List Int → Int → Int → Option (Int × List Int)
  | 0, _, _, _ => none
  | k + 1, x0, x1, x5 => if x5 < (x0.length : Int) then (if 0 ≤ x5 then (laws_markIntS.l0 k (x0.set (x5 : Int).toNat x1) (wrap64 (x1 + 1)) (wrap64 (x5 + 1))) else (none)) else (some (x1, x0))
def laws_markIntS.f (k : Nat) (l0 : List Int) (a1 : Int) : Option (Int × List Int) := laws_markIntS.l0 k l0 a1 0
theorem laws_markIntS.mono_l : ∀ k, (∀ y0 y1 y2, LeO (laws_markIntS.l0 k y0 y1 y2) (laws_markIntS.l0 (k + 1) y0 y1 y2))
  | 0 => fun _ _ _ r h => by simp [laws_markIntS.l0] at h
  | k + 1 => by
    have ih0 := laws_markIntS.mono_l k
    · intro y0 y1 y2
      unfold laws_markIntS.l0
      repeat' first
      | (with_reducible exact ih0 _ _ _)
      | (with_reducible exact LeO.refl _)
      | (with_reducible exact LeO.none _)
      | (with_reducible refine LeO.ite ?_ ?_)
      | (with_reducible refine LeO.bind ?_ (fun _ => ?_))
      | exact ih0 _ _ _
      | exact LeO.none _
      | refine LeO.ite ?_ ?_
      | refine LeO.bind ?_ (fun _ => ?_)
theorem laws_markIntS.mono : ∀ a0 a1 k, LeO (laws_markIntS.f k a0 a1) (laws_markIntS.f (k + 1) a0 a1) := by
  intro a0 a1 k
  have ih0 := laws_markIntS.mono_l k
  unfold laws_markIntS.f
  repeat' first
      | (with_reducible exact ih0 _ _ _)
      | (with_reducible exact LeO.refl _)
      | (with_reducible exact LeO.none _)
      | (with_reducible refine LeO.ite ?_ ?_)
      | (with_reducible refine LeO.bind ?_ (fun _ => ?_))
      | exact ih0 _ _ _
      | exact LeO.none _
      | refine LeO.ite ?_ ?_
      | refine LeO.bind ?_ (fun _ => ?_)
def laws_markWhole.f (k : Nat) (a0_0 : Bool) (l0_1 : List Int) (a1 : Int) : Option (Int × List Int) := (laws_markIntS.f k l0_1 a1).bind fun bt179 => (some (bt179.1, bt179.2))
theorem laws_markWhole.mono : ∀ a0 a1 a2 k, LeO (laws_markWhole.f k a0 a1 a2) (laws_markWhole.f (k + 1) a0 a1 a2) := by
  intro a0 a1 a2 k
  unfold laws_markWhole.f
  repeat' first
      | (with_reducible exact laws_markIntS.mono _ _ _)
      | (with_reducible exact LeO.refl _)
      | (with_reducible exact LeO.none _)
      | (with_reducible refine LeO.ite ?_ ?_)
      | (with_reducible refine LeO.bind ?_ (fun _ => ?_))
      | exact laws_markIntS.mono _ _ _
      | exact LeO.none _
      | refine LeO.ite ?_ ?_
      | refine LeO.bind ?_ (fun _ => ?_)
def laws_heldIntS.l0 : Nat → List Int → Int → Int → Option (Int)
  | 0, _, _, _ => none
  | k + 1, x0, x1, x5 => if x5 < (x0.length : Int) then (if 0 ≤ x5 then (if (rd x0 x5) = x1 then (laws_heldIntS.l0 k x0 (wrap64 (x1 + 1)) (wrap64 (x5 + 1))) else (some (-1))) else (none)) else (some x1)
def laws_heldIntS.f (k : Nat) (l0 : List Int) (a1 : Int) : Option (Int) := laws_heldIntS.l0 k l0 a1 0
theorem laws_heldIntS.mono_l : ∀ k, (∀ y0 y1 y2, LeO (laws_heldIntS.l0 k y0 y1 y2) (laws_heldIntS.l0 (k + 1) y0 y1 y2))
  | 0 => fun _ _ _ r h => by simp [laws_heldIntS.l0] at h
  | k + 1 => by
    have ih0 := laws_heldIntS.mono_l k
    · intro y0 y1 y2
      unfold laws_heldIntS.l0
      repeat' first
      | (with_reducible exact ih0 _ _ _)
      | (with_reducible exact LeO.refl _)
      | (with_reducible exact LeO.none _)
      | (with_reducible refine LeO.ite ?_ ?_)
      | (with_reducible refine LeO.bind ?_ (fun _ => ?_))
      | exact ih0 _ _ _
      | exact LeO.none _
      | refine LeO.ite ?_ ?_
      | refine LeO.bind ?_ (fun _ => ?_)
theorem laws_heldIntS.mono : ∀ a0 a1 k, LeO (laws_heldIntS.f k a0 a1) (laws_heldIntS.f (k + 1) a0 a1) := by
  intro a0 a1 k
  have ih0 := laws_heldIntS.mono_l k
  unfold laws_heldIntS.f
  repeat' first
      | (with_reducible exact ih0 _ _ _)
      | (with_reducible exact LeO.refl _)
      | (with_reducible exact LeO.none _)
      | (with_reducible refine LeO.ite ?_ ?_)
      | (with_reducible refine LeO.bind ?_ (fun _ => ?_))
      | exact ih0 _ _ _
      | exact LeO.none _
      | refine LeO.ite ?_ ?_
      | refine LeO.bind ?_ (fun _ => ?_)
def laws_heldWhole.f (k : Nat) (a0_0 : Bool) (l0_1 : List Int) (a1 : Int) : Option (Int) := (laws_heldIntS.f k l0_1 a1).bind fun t183 => (if t183 < 0 then (some (-1)) else (some t183))
theorem laws_heldWhole.mono : ∀ a0 a1 a2 k, LeO (laws_heldWhole.f k a0 a1 a2) (laws_heldWhole.f (k + 1) a0 a1 a2) := by
  intro a0 a1 a2 k
  unfold laws_heldWhole.f
  repeat' first
      | (with_reducible exact laws_heldIntS.mono _ _ _)
      | (with_reducible exact LeO.refl _)
      | (with_reducible exact LeO.none _)
      | (with_reducible refine LeO.ite ?_ ?_)
      | (with_reducible refine LeO.bind ?_ (fun _ => ?_))
      | exact laws_heldIntS.mono _ _ _
      | exact LeO.none _
      | refine LeO.ite ?_ ?_
      | refine LeO.bind ?_ (fun _ => ?_)
def laws_FnExactWholeOf.f (k : Nat) (a0 : Int) : Option (Bool) := (spec_WholeOf.f k a0).bind fun bt184 => ((impl_WholeOf.f k a0).bind fun bt189 => ((laws_eqWhole.f k bt189.1 bt189.2 bt184.1 bt184.2).bind fun t194 => (if t194 = true then ((laws_markWhole.f k bt189.1 bt189.2 1).bind fun bt195 => ((laws_heldWhole.f k bt189.1 bt195.2 1).bind fun t197 => (if t197 < 0 then (some false) else (if t197 = bt195.1 then ((impl_WholeOf.f k a0).bind fun bt198 => ((laws_eqWhole.f k bt198.1 bt198.2 bt184.1 bt184.2).bind fun t203 => (if t203 = true then ((laws_heldWhole.f k bt189.1 bt195.2 1).bind fun t204 => (if t204 < 0 then (some false) else (if t204 = bt195.1 then (some true) else (some false)))) else (some false)))) else (some false))))) else (some false))))
theorem laws_FnExactWholeOf.mono : ∀ a0 k, LeO (laws_FnExactWholeOf.f k a0) (laws_FnExactWholeOf.f (k + 1) a0) := by
  intro a0 k
  unfold laws_FnExactWholeOf.f
  repeat' first
      | (with_reducible exact impl_WholeOf.mono _ _)
      | (with_reducible exact laws_eqWhole.mono _ _ _ _ _)
      | (with_reducible exact laws_heldWhole.mono _ _ _ _)
      | (with_reducible exact laws_markWhole.mono _ _ _ _)
      | (with_reducible exact spec_WholeOf.mono _ _)
      | (with_reducible exact LeO.refl _)
      | (with_reducible exact LeO.none _)
      | (with_reducible refine LeO.ite ?_ ?_)
      | (with_reducible refine LeO.bind ?_ (fun _ => ?_))
      | exact impl_WholeOf.mono _ _
      | exact laws_eqWhole.mono _ _ _ _ _
      | exact laws_heldWhole.mono _ _ _ _
      | exact laws_markWhole.mono _ _ _ _
      | exact spec_WholeOf.mono _ _
      | exact LeO.none _
      | refine LeO.ite ?_ ?_
      | refine LeO.bind ?_ (fun _ => ?_)
def laws_FnExactWholeOf.Pure : Prop := ∀ (a0 : Int), (Lit.int .i64 a0).wf = true → ∃ k, laws_FnExactWholeOf.f k a0 = some true
end Go.Proofs.Ytajlgfjmocgoead.M

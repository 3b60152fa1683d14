/- The functions of the program and of the reference as the print spells them, once each: what the plain laws speak of. -/
import Derived.Test.YtajlgfjmocgoeadModel
import Derived.Test.YtajlgfjmocgoeadModel2
import Derived.Test.YtajlgfjmocgoeadModel3
import Derived.Test.YtajlgfjmocgoeadModel4
namespace Go.Proofs.Ytajlgfjmocgoead.M
open Go.RowKit Go.Proofs.YtajlgfjmocgoeadW.PrintWords Go.Proofs.YtajlgfjmocgoeadW.PrintLast Go.Proofs.YtajlgfjmocgoeadW.PrintMore
set_option linter.unusedVariables false
def spec_l1Word.f (a0 : Int) (a1 : Int) : Option (Int) := some ((((a0) % 4294967296) * ((a1) % 4294967296)) % 4294967296)
mutual
def spec_MontOf.j0 : Nat → Int → Bool → Option (Int × Int × Int × Bool)
  | 0, _, _ => none
  | k + 1, x0, x14 => if x14 = true then (some (0, 0, 0, false)) else (spec_MontOf.l0 k x0 1 0)
def spec_MontOf.l0 : Nat → Int → Int → Int → Option (Int × Int × Int × Bool)
  | 0, _, _, _ => none
  | k + 1, x0, x4, x5 => if x5 < 5 then ((spec_l1Word.f x0 x4).bind fun t104 => ((spec_l1Mod.f (wrap64 (2 - t104)) 4294967296).bind fun t105 => ((spec_l1Word.f x4 t105).bind fun t106 => (spec_MontOf.l0 k x0 t106 (wrap64 (x5 + 1)))))) else (if x0 = 0 then (none) else ((spec_l1Mod.f (wrap64 (-x4)) 4294967296).bind fun t107 => (some (x0, t107, Int.tmod (wrap64 (((4294967296 : Int) % x0) * ((4294967296 : Int) % x0))) x0, true))))
end
def spec_MontOf.f (k : Nat) (a0 : Int) : Option (Int × Int × Int × Bool) := (spec_l1Modulus.f a0).bind fun t103 => (if t103 = true then (spec_MontOf.j0 k a0 ((Int.tmod a0 2) == 0)) else (spec_MontOf.j0 k a0 true))
theorem spec_MontOf.mono_l : ∀ k, (∀ y0 y1, LeO (spec_MontOf.j0 k y0 y1) (spec_MontOf.j0 (k + 1) y0 y1)) ∧ (∀ y0 y1 y2, LeO (spec_MontOf.l0 k y0 y1 y2) (spec_MontOf.l0 (k + 1) y0 y1 y2))
  | 0 => ⟨fun _ _ r h => by simp [spec_MontOf.j0] at h, fun _ _ _ r h => by simp [spec_MontOf.l0] at h⟩
  | k + 1 => by
    obtain ⟨ih0, ih1⟩ := spec_MontOf.mono_l k
    refine ⟨?_, ?_⟩
    · intro y0 y1
      unfold spec_MontOf.j0
      repeat' first
      | (with_reducible exact ih0 _ _)
      | (with_reducible exact ih1 _ _ _)
      | (with_reducible exact LeO.refl _)
      | (with_reducible exact LeO.none _)
      | (with_reducible refine LeO.ite ?_ ?_)
      | (with_reducible refine LeO.bind ?_ (fun _ => ?_))
      | exact ih0 _ _
      | exact ih1 _ _ _
      | exact LeO.none _
      | refine LeO.ite ?_ ?_
      | refine LeO.bind ?_ (fun _ => ?_)
    · intro y0 y1 y2
      unfold spec_MontOf.l0
      repeat' first
      | (with_reducible exact ih0 _ _)
      | (with_reducible exact ih1 _ _ _)
      | (with_reducible exact LeO.refl _)
      | (with_reducible exact LeO.none _)
      | (with_reducible refine LeO.ite ?_ ?_)
      | (with_reducible refine LeO.bind ?_ (fun _ => ?_))
      | exact ih0 _ _
      | exact ih1 _ _ _
      | exact LeO.none _
      | refine LeO.ite ?_ ?_
      | refine LeO.bind ?_ (fun _ => ?_)
theorem spec_MontOf.mono : ∀ a0 k, LeO (spec_MontOf.f k a0) (spec_MontOf.f (k + 1) a0) := by
  intro a0 k
  obtain ⟨ih0, ih1⟩ := spec_MontOf.mono_l k
  unfold spec_MontOf.f
  repeat' first
      | (with_reducible exact ih0 _ _)
      | (with_reducible exact ih1 _ _ _)
      | (with_reducible exact LeO.refl _)
      | (with_reducible exact LeO.none _)
      | (with_reducible refine LeO.ite ?_ ?_)
      | (with_reducible refine LeO.bind ?_ (fun _ => ?_))
      | exact ih0 _ _
      | exact ih1 _ _ _
      | exact LeO.none _
      | refine LeO.ite ?_ ?_
      | refine LeO.bind ?_ (fun _ => ?_)
def impl_MontOf.j0 : Nat → Int → Bool → Option (Int × Int × Int × Bool)
  | 0, _, _ => none
  | k + 1, x0, x13 => if x13 = true then (some (0, 0, 0, false)) else ((impl_inverse.f k x0 4294967296).bind fun bt125 => ((impl_pow.f k 2 64 x0).bind fun t127 => (some (x0, wrap64 (4294967296 - bt125.1), t127, true))))
def impl_MontOf.f (k : Nat) (a0 : Int) : Option (Int × Int × Int × Bool) := (impl_isModulus.f a0).bind fun t124 => (if t124 = true then (impl_MontOf.j0 k a0 ((Int.tmod a0 2) == 0)) else (impl_MontOf.j0 k a0 true))
theorem impl_MontOf.mono_l : ∀ k, (∀ y0 y1, LeO (impl_MontOf.j0 k y0 y1) (impl_MontOf.j0 (k + 1) y0 y1))
  | 0 => fun _ _ r h => by simp [impl_MontOf.j0] at h
  | k + 1 => by
    have ih0 := impl_MontOf.mono_l k
    · intro y0 y1
      unfold impl_MontOf.j0
      repeat' first
      | (with_reducible exact ih0 _ _)
      | (with_reducible exact impl_inverse.mono _ _ _)
      | (with_reducible exact impl_pow.mono _ _ _ _)
      | (with_reducible exact LeO.refl _)
      | (with_reducible exact LeO.none _)
      | (with_reducible refine LeO.ite ?_ ?_)
      | (with_reducible refine LeO.bind ?_ (fun _ => ?_))
      | exact ih0 _ _
      | exact impl_inverse.mono _ _ _
      | exact impl_pow.mono _ _ _ _
      | exact LeO.none _
      | refine LeO.ite ?_ ?_
      | refine LeO.bind ?_ (fun _ => ?_)
theorem impl_MontOf.mono : ∀ a0 k, LeO (impl_MontOf.f k a0) (impl_MontOf.f (k + 1) a0) := by
  intro a0 k
  have ih0 := impl_MontOf.mono_l k
  unfold impl_MontOf.f
  repeat' first
      | (with_reducible exact ih0 _ _)
      | (with_reducible exact impl_inverse.mono _ _ _)
      | (with_reducible exact impl_pow.mono _ _ _ _)
      | (with_reducible exact LeO.refl _)
      | (with_reducible exact LeO.none _)
      | (with_reducible refine LeO.ite ?_ ?_)
      | (with_reducible refine LeO.bind ?_ (fun _ => ?_))
      | exact ih0 _ _
      | exact impl_inverse.mono _ _ _
      | exact impl_pow.mono _ _ _ _
      | exact LeO.none _
      | refine LeO.ite ?_ ?_
      | refine LeO.bind ?_ (fun _ => ?_)
def laws_eqMont.f (a0_0 : Int) (a0_1 : Int) (a0_2 : Int) (a1_0 : Int) (a1_1 : Int) (a1_2 : Int) : Option (Bool) := if a0_0 = a1_0 then (if a0_1 = a1_1 then (if a0_2 = a1_2 then (some true) else (some false)) else (some false)) else (some false)
def laws_FnExactMontOf.f (k : Nat) (a0 : Int) : Option (Bool) := (spec_MontOf.f k a0).bind fun bt130 => ((impl_MontOf.f k a0).bind fun bt135 => ((laws_eqMont.f bt135.1 bt135.2.1 bt135.2.2.1 bt130.1 bt130.2.1 bt130.2.2.1).bind fun t140 => (if t140 = true then (if (bt135.2.2.2 != bt130.2.2.2) = true then (some false) else (some true)) else (some false))))
theorem laws_FnExactMontOf.mono : ∀ a0 k, LeO (laws_FnExactMontOf.f k a0) (laws_FnExactMontOf.f (k + 1) a0) := by
  intro a0 k
  unfold laws_FnExactMontOf.f
  repeat' first
      | (with_reducible exact impl_MontOf.mono _ _)
      | (with_reducible exact spec_MontOf.mono _ _)
      | (with_reducible exact LeO.refl _)
      | (with_reducible exact LeO.none _)
      | (with_reducible refine LeO.ite ?_ ?_)
      | (with_reducible refine LeO.bind ?_ (fun _ => ?_))
      | exact impl_MontOf.mono _ _
      | exact spec_MontOf.mono _ _
      | exact LeO.none _
      | refine LeO.ite ?_ ?_
      | refine LeO.bind ?_ (fun _ => ?_)
def laws_FnExactMontOf.Pure : Prop := ∀ (a0 : Int), (Lit.int .i64 a0).wf = true → ∃ k, laws_FnExactMontOf.f k a0 = some true
def spec_MontMul.j0 : Nat → Int → Int → Bool → Int → Int → Int → Option (Int × Bool)
  | 0, _, _, _, _, _, _ => none
  | k + 1, x1, x2, x39, x111000, x111001, x111002 => if x39 = true then (some (0, false)) else (if x111000 = 0 then (none) else ((spec_l1Inv.f k ((4294967296 : Int) % x111000) x111000).bind fun t118 => (if x111000 = 1 then (some (Int.tmod (wrap64 ((Int.tmod (wrap64 (x1 * x2)) x111000) * 0)) x111000, true)) else (some (Int.tmod (wrap64 ((Int.tmod (wrap64 (x1 * x2)) x111000) * t118)) x111000, true)))))
def spec_MontMul.f (k : Nat) (a0_0 : Int) (a0_1 : Int) (a0_2 : Int) (a1 : Int) (a2 : Int) : Option (Int × Bool) := (spec_MontOf.f k a0_0).bind fun bt111 => (if bt111.2.2.2 = true then (if (!(bt111.1 == a0_0) || (!(bt111.2.1 == a0_1) || (!(bt111.2.2.1 == a0_2)))) = true then (spec_MontMul.j0 k a1 a2 true a0_0 a0_1 a0_2) else ((spec_l1In.f a1 0 (wrap64 (a0_0 - 1))).bind fun t116 => (if t116 = true then ((spec_l1In.f a2 0 (wrap64 (a0_0 - 1))).bind fun t117 => (spec_MontMul.j0 k a1 a2 (!t117) a0_0 a0_1 a0_2)) else (spec_MontMul.j0 k a1 a2 true a0_0 a0_1 a0_2)))) else (spec_MontMul.j0 k a1 a2 true a0_0 a0_1 a0_2))
theorem spec_MontMul.mono_l : ∀ k, (∀ y0 y1 y2 y3 y4 y5, LeO (spec_MontMul.j0 k y0 y1 y2 y3 y4 y5) (spec_MontMul.j0 (k + 1) y0 y1 y2 y3 y4 y5))
  | 0 => fun _ _ _ _ _ _ r h => by simp [spec_MontMul.j0] at h
  | k + 1 => by
    have ih0 := spec_MontMul.mono_l k
    · intro y0 y1 y2 y3 y4 y5
      unfold spec_MontMul.j0
      repeat' first
      | (with_reducible exact ih0 _ _ _ _ _ _)
      | (with_reducible exact spec_MontOf.mono _ _)
      | (with_reducible exact spec_l1Inv.mono _ _ _)
      | (with_reducible exact LeO.refl _)
      | (with_reducible exact LeO.none _)
      | (with_reducible refine LeO.ite ?_ ?_)
      | (with_reducible refine LeO.bind ?_ (fun _ => ?_))
      | exact ih0 _ _ _ _ _ _
      | exact spec_MontOf.mono _ _
      | exact spec_l1Inv.mono _ _ _
      | exact LeO.none _
      | refine LeO.ite ?_ ?_
      | refine LeO.bind ?_ (fun _ => ?_)
theorem spec_MontMul.mono : ∀ a0 a1 a2 a3 a4 k, LeO (spec_MontMul.f k a0 a1 a2 a3 a4) (spec_MontMul.f (k + 1) a0 a1 a2 a3 a4) := by
  intro a0 a1 a2 a3 a4 k
  have ih0 := spec_MontMul.mono_l k
  unfold spec_MontMul.f
  repeat' first
      | (with_reducible exact ih0 _ _ _ _ _ _)
      | (with_reducible exact spec_MontOf.mono _ _)
      | (with_reducible exact spec_l1Inv.mono _ _ _)
      | (with_reducible exact LeO.refl _)
      | (with_reducible exact LeO.none _)
      | (with_reducible refine LeO.ite ?_ ?_)
      | (with_reducible refine LeO.bind ?_ (fun _ => ?_))
      | exact ih0 _ _ _ _ _ _
      | exact spec_MontOf.mono _ _
      | exact spec_l1Inv.mono _ _ _
      | exact LeO.none _
      | refine LeO.ite ?_ ?_
      | refine LeO.bind ?_ (fun _ => ?_)
def laws_toMont.f (a0_0 : Int) (a0_1 : Int) (a0_2 : Int) : Option (Int × Int × Int) := some (a0_0, a0_1, a0_2)
def impl_MontMul.j0 : Nat → Int → Int → Bool → Int → Int → Int → Option (Int × Bool)
  | 0, _, _, _, _, _, _ => none
  | k + 1, x1, x2, x40, x143000, x143001, x143002 => if x40 = true then (some (0, false)) else ((impl_pow.f k 2 32 x143000).bind fun t150 => ((impl_inverse.f k t150 x143000).bind fun bt151 => (if x143000 = 0 then (none) else (some (Int.tmod (wrap64 ((Int.tmod (wrap64 (x1 * x2)) x143000) * bt151.1)) x143000, true)))))
def impl_MontMul.f (k : Nat) (a0_0 : Int) (a0_1 : Int) (a0_2 : Int) (a1 : Int) (a2 : Int) : Option (Int × Bool) := (impl_MontOf.f k a0_0).bind fun bt143 => (if bt143.2.2.2 = true then (if (!(bt143.1 == a0_0) || (!(bt143.2.1 == a0_1) || (!(bt143.2.2.1 == a0_2)))) = true then (impl_MontMul.j0 k a1 a2 true a0_0 a0_1 a0_2) else ((impl_in.f a1 0 (wrap64 (a0_0 - 1))).bind fun t148 => (if t148 = true then ((impl_in.f a2 0 (wrap64 (a0_0 - 1))).bind fun t149 => (impl_MontMul.j0 k a1 a2 (!t149) a0_0 a0_1 a0_2)) else (impl_MontMul.j0 k a1 a2 true a0_0 a0_1 a0_2)))) else (impl_MontMul.j0 k a1 a2 true a0_0 a0_1 a0_2))
theorem impl_MontMul.mono_l : ∀ k, (∀ y0 y1 y2 y3 y4 y5, LeO (impl_MontMul.j0 k y0 y1 y2 y3 y4 y5) (impl_MontMul.j0 (k + 1) y0 y1 y2 y3 y4 y5))
  | 0 => fun _ _ _ _ _ _ r h => by simp [impl_MontMul.j0] at h
  | k + 1 => by
    have ih0 := impl_MontMul.mono_l k
    · intro y0 y1 y2 y3 y4 y5
      unfold impl_MontMul.j0
      repeat' first
      | (with_reducible exact ih0 _ _ _ _ _ _)
      | (with_reducible exact impl_MontOf.mono _ _)
      | (with_reducible exact impl_inverse.mono _ _ _)
      | (with_reducible exact impl_pow.mono _ _ _ _)
      | (with_reducible exact LeO.refl _)
      | (with_reducible exact LeO.none _)
      | (with_reducible refine LeO.ite ?_ ?_)
      | (with_reducible refine LeO.bind ?_ (fun _ => ?_))
      | exact ih0 _ _ _ _ _ _
      | exact impl_MontOf.mono _ _
      | exact impl_inverse.mono _ _ _
      | exact impl_pow.mono _ _ _ _
      | exact LeO.none _
      | refine LeO.ite ?_ ?_
      | refine LeO.bind ?_ (fun _ => ?_)
theorem impl_MontMul.mono : ∀ a0 a1 a2 a3 a4 k, LeO (impl_MontMul.f k a0 a1 a2 a3 a4) (impl_MontMul.f (k + 1) a0 a1 a2 a3 a4) := by
  intro a0 a1 a2 a3 a4 k
  have ih0 := impl_MontMul.mono_l k
  unfold impl_MontMul.f
  repeat' first
      | (with_reducible exact ih0 _ _ _ _ _ _)
      | (with_reducible exact impl_MontOf.mono _ _)
      | (with_reducible exact impl_inverse.mono _ _ _)
      | (with_reducible exact impl_pow.mono _ _ _ _)
      | (with_reducible exact LeO.refl _)
      | (with_reducible exact LeO.none _)
      | (with_reducible refine LeO.ite ?_ ?_)
      | (with_reducible refine LeO.bind ?_ (fun _ => ?_))
      | exact ih0 _ _ _ _ _ _
      | exact impl_MontOf.mono _ _
      | exact impl_inverse.mono _ _ _
      | exact impl_pow.mono _ _ _ _
      | exact LeO.none _
      | refine LeO.ite ?_ ?_
      | refine LeO.bind ?_ (fun _ => ?_)
def laws_FnExactMontMul.f (k : Nat) (a0_0 : Int) (a0_1 : Int) (a0_2 : Int) (a1 : Int) (a2 : Int) : Option (Bool) := (laws_toMont.f a0_0 a0_1 a0_2).bind fun bt154 => ((spec_MontMul.f k bt154.1 bt154.2.1 bt154.2.2 a1 a2).bind fun bt157 => ((laws_toMont.f a0_0 a0_1 a0_2).bind fun bt159 => ((impl_MontMul.f k bt159.1 bt159.2.1 bt159.2.2 a1 a2).bind fun bt162 => (if bt162.1 = bt157.1 then (if (bt162.2 != bt157.2) = true then (some false) else (some true)) else (some false)))))
theorem laws_FnExactMontMul.mono : ∀ a0 a1 a2 a3 a4 k, LeO (laws_FnExactMontMul.f k a0 a1 a2 a3 a4) (laws_FnExactMontMul.f (k + 1) a0 a1 a2 a3 a4) := by
  intro a0 a1 a2 a3 a4 k
  unfold laws_FnExactMontMul.f
  repeat' first
      | (with_reducible exact impl_MontMul.mono _ _ _ _ _ _)
      | (with_reducible exact spec_MontMul.mono _ _ _ _ _ _)
      | (with_reducible exact LeO.refl _)
      | (with_reducible exact LeO.none _)
      | (with_reducible refine LeO.ite ?_ ?_)
      | (with_reducible refine LeO.bind ?_ (fun _ => ?_))
      | exact impl_MontMul.mono _ _ _ _ _ _
      | exact spec_MontMul.mono _ _ _ _ _ _
      | exact LeO.none _
      | refine LeO.ite ?_ ?_
      | refine LeO.bind ?_ (fun _ => ?_)
end Go.Proofs.Ytajlgfjmocgoead.M

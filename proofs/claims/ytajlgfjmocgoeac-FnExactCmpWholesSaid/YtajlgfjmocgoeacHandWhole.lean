/- impl.isWhole: a whole number of however many limbs: the sign and the limbs tell it. -/
import Derived.Test.YtajlgfjmocgoeacHandIndex
import Derived.Test.YtajlgfjmocgoeacPlain
namespace Go.Proofs.Ytajlgfjmocgoeac.Hand
open Go.Proofs.Ytajlgfjmocgoeac.Plain Go.RowKit Go.Proofs.YtajlgfjmocgoeacW.PrintWords Go.Proofs.YtajlgfjmocgoeacW.PrintLast Go.Proofs.YtajlgfjmocgoeacW.PrintMore
set_option linter.unusedVariables false
set_option linter.unusedSimpArgs false

theorem in_calls (a0 a1 a2 : Int) (w : World) :
    Calls Try.prog 50 #[.int .i64 a0, .int .i64 a1, .int .i64 a2] w fun e w' => e = .returned (.bool (decide (a1 ≤ a0 ∧ a0 ≤ a2))) ∧ Drawn0 w w' := by
  by_cases c1 : a1 ≤ a0
  · have c1b : decide (a1 ≤ a0) = true := decide_eq_true c1
    have e : decide (a1 ≤ a0 ∧ a0 ≤ a2) = decide (a0 ≤ a2) := by simp [c1]
    rw [e]
    clear c1 e
    go_enter Try.func50, Try.ntmps50
    go_wp2
    go_ret
    exact ⟨by first | rfl | (simp; done) | (simp [*]; done), Drawn0.refl _⟩
  · have c1b : decide (a1 ≤ a0) = false := decide_eq_false c1
    have e : decide (a1 ≤ a0 ∧ a0 ≤ a2) = false := by simp [c1]
    rw [e]
    clear c1 e
    go_enter Try.func50, Try.ntmps50
    go_wp2
    go_ret
    exact ⟨by first | rfl | (simp; done) | (simp [*]; done), Drawn0.refl _⟩

theorem isWhole1_tells (w : World) : Tells 76 #[] badLimb w := by
  intro x W _
  have hin := in_calls x 0 268435455 W
  show Calls Try.prog 76 #[.int .i64 x] W fun e W' => e = .returned (.bool (!(decide (0 ≤ x ∧ x ≤ 268435455)))) ∧ Drawn0 W W'
  generalize decide (0 ≤ x ∧ x ≤ 268435455) = b at hin ⊢
  go_enter Try.func76, Try.ntmps76
  go_wp2_with (go_at_call 50; refine hin.mono ?_; rintro e w' ⟨rfl, ⟨q, rfl⟩⟩)
  go_ret
  exact ⟨by first | rfl | (simp; done) | (simp [*]; done), ⟨⟨q, rfl⟩⟩⟩

set_option maxHeartbeats 4000000 in
set_option maxRecDepth 100000 in
theorem isWhole_calls (a0_0 : Bool) (A0_1 : Option Addr) (c0_1 : Nat) (l0_1 : List Int) (w : World) (hr0_1 : Kd.C (Kd.int .i64) w A0_1 l0_1.length l0_1) (hc0_1 : l0_1.length ≤ c0_1) :
    Calls Try.prog 62 #[.agg #[.bool a0_0, .slice A0_1 l0_1.length c0_1]] w fun e w' => e = .returned (.bool (isWholeB a0_0 l0_1)) ∧ Below w.heap.size w w' := by
  have hu := Try.underlying33
  have hmax : l0_1.length ≤ 9223372036854775807 := hr0_1.2.1
  by_cases hn : l0_1 = []
  · subst hn
    have e : isWholeB a0_0 [] = !a0_0 := by simp [isWholeB]
    rw [e]
    clear e hr0_1 hc0_1
    go_enter Try.func62, Try.ntmps62
    go_wp2
    go_ret
    exact ⟨by first | rfl | (simp; done) | (simp [*]; done), by repeat (first | exact Below.refl _ _ | apply below_alloc | apply pw_below_drewN | apply below_drew1)⟩
  · have hpos : 0 < l0_1.length := by cases l0_1 with
      | nil => exact absurd rfl hn
      | cons => simp
    have hw : (isWholeB a0_0 l0_1) = (rd l0_1 ((l0_1.length : Int) - 1) != 0 && !(l0_1.any badLimb)) := by unfold isWholeB; rw [if_neg hn]; unfold rd; congr 3; omega
    rw [hw]
    clear hw hn
    have c0 : ((l0_1.length : Int) == 0) = false := beq_eq_false_iff_ne.mpr (by omega)
    generalize hb0 : l0_1.any badLimb = b
    have B0 := Aside0.mk hb0
    clear hb0
    generalize hyy : rd l0_1 ((l0_1.length : Int) - 1) = y
    have Y0 := Aside0.mk hyy
    clear hyy
    have hy : ((y == 0) = true ∧ (y != 0) = false) ∨ ((y == 0) = false ∧ (y != 0) = true) := by
      by_cases hy : y = 0
      · exact Or.inl ⟨beq_iff_eq.mpr hy, bne_eq_false_iff_eq.mpr hy⟩
      · exact Or.inr ⟨beq_eq_false_iff_ne.mpr hy, bne_iff_ne.mpr hy⟩
    rcases hy with ⟨hy0, hy1⟩ | ⟨hy0, hy1⟩
    all_goals
      rw [hy1]
      have HR := Aside0.mk hr0_1
      have HC := Aside0.mk hc0_1
      clear hr0_1 hc0_1
      have HB := Aside0.mk (Below.refl w.heap.size w)
      go_enter Try.func62, Try.ntmps62
      go_upto_region 1 with (first | ((with_reducible refine gate_dst (N := 1) rfl ?_); (try (refine gate_guard (by rfl) ?_; dsimp only)); refine box_event ?hg (N := 1) ?hd (cs := #[.bool a0_0, .slice A0_1 l0_1.length c0_1]) (t := 33) ?hr ?_; (case hd => rfl); (case hg => rfl); (case hr => first | (go_simp; done) | (go_simp; rfl)); intro gb hg w3 hbox hb; have n0_ := Aside0.mk (below_step (by repeat (first | (with_reducible first | exact HB.out | apply below_alloc | apply pw_below_drewN | apply below_drew1) | exact HB.out)) hb); have n1_ := Aside0.mk (hbox); clear HB; have HB := n0_; have BK := n1_; clear n0_ n1_; clear hb hbox hg))
      (try simp only [Act.put, List.setIfInBounds_toArray, List.set_cons_zero, List.set_cons_succ])
      obtain ⟨ad, e120, hcell⟩ := Kd.at_int (Kd.C_below HR.out HB.out) ((l0_1.length : Int) - 1) (by omega) (by omega)
      cases e120
      rw [Y0.out] at hcell
      have e1 : ((l0_1.length : Int) - 1).toNat = l0_1.length - 1 := by omega
      rw [e1] at hcell
      have hcon : ∀ (W : World), Below w.heap.size w W → Calls Try.prog 75 #[.slice (some ad) l0_1.length c0_1, .func (.func 76) #[] #[]] W fun e w' => e = .returned (.bool b) ∧ Drawn0 W w' := fun W hW => B0.out ▸
        containsFunc_calls _ #[] badLimb (enters_of Try.func76 (by kernel_rfl) rfl) _ _ _ W (isWhole1_tells _) (Kd.C_below HR.out hW) HC.out
      have hcz0 : w3.cell? ⟨gb, 0, none⟩ = some (.bool a0_0) := (blk_cell BK.out 0).trans rfl
      have hcz1 : w3.cell? ⟨gb, 1, none⟩ = some (.slice (some ad) l0_1.length c0_1) := (blk_cell BK.out 1).trans rfl
      clear HR HC BK e1 B0 Y0
      go_wp2_with (go_at_call 75; refine (hcon _ (by first | exact HB.out | exact pw_below_drewN HB.out _)).mono ?_; rintro e w' ⟨rfl, ⟨q, rfl⟩⟩)
      go_ret
      exact ⟨by first | rfl | (simp; done) | (simp [*]; done), by repeat (first | exact HB.out | apply below_alloc | apply pw_below_drewN | apply below_drew1)⟩
end Go.Proofs.Ytajlgfjmocgoeac.Hand

/- Code: what the interpreter tells is what the machine does. -/
import Derived.Test.YtnlgciomdghfiaaFwZ
namespace Go.Proofs.Ytnlgciomdghfiaa.Fw
open Go Go.RowKit
set_option linter.unusedVariables false
set_option linter.unusedSimpArgs false

def exOf : Ex → Exit
  | .normal => .normal
  | .exit id => .exit id
  | .ret => .ret
section
variable {P : Program} {T : Tb} {α : Type} {base : Nat} {r : α} {Ca : Ca T} {fid : FuncId} {C0 : Cx} {nf : Nat}
/-- What is to be shown behind code. -/
def KontC (base : Nat) (C0 : Cx) (Q : Exit → Act → World → Prop) (k : Ex → St → Option α) (r : α) : Prop :=
  ∀ e ρ a C, k e ρ = some r → Sim base C ρ a → To base C0 C → Q (exOf e) a C.w
theorem exec_sound (hT : TbOk P T) (hC : CaOk P T Ca) {r0 : Nat} (hr : ∀ o, r0 ≤ o → C0.H o = .hole) : ∀ (c : Code) {σ : St} {a : Act} {C : Cx} {k : Ex → St → Option α} {Q : Exit → Act → World → Prop},
    Sim base C σ a → To base C0 C → KontC base C0 Q k r → exec T Ca fid r0 nf c σ k = some r → c.wp P Q a C.w := by
  intro c
  induction c with
  | skip =>
    intro σ a C k Q hs ht hk h
    simp only [exec] at h
    exact wp_skip (hk .normal _ _ _ h hs ht)
  | region id ops draw =>
    intro σ a C k Q hs ht hk h
    cases draw with
    | false =>
      simp only [exec] at h
      refine wp_region ?_
      rw [List.range_eq_range']
      have := execOps_sound (Q := Q) hT hC ops.toList 0 (by simp) hs (fun ρ a' C' h1 h2 h3 => hk .normal ρ a' C' h1 h2 (ht.trans h3)) h
      simpa using this
    | true =>
      simp only [exec] at h
      exact execDraw_sound hT hC hs (fun ρ a' C' h1 h2 h3 => hk .normal ρ a' C' h1 h2 (ht.trans h3)) h
  | seq x y ihx ihy =>
    intro σ a C k Q hs ht hk h
    simp only [exec] at h
    refine wp_seq (ihx hs ht ?_ h)
    intro e ρ a' C' h1 h2 h3
    cases e with
    | normal => exact ihy h2 h3 hk h1
    | exit id => exact hk _ _ _ _ h1 h2 h3
    | ret => exact hk _ _ _ _ h1 h2 h3
  | cond c x y ihx ihy =>
    intro σ a C k Q hs ht hk h
    simp only [exec] at h
    obtain ⟨b, hb, h⟩ := testK_some (opnd_rel hs.tm c) h
    refine wp_cond hb ?_
    cases b with
    | true => simp only [if_true] at h ⊢; exact ihx hs ht hk h
    | false => simp only [Bool.false_eq_true, if_false] at h ⊢; exact ihy hs ht hk h
  | block id c ih =>
    intro σ a C k Q hs ht hk h
    simp only [exec] at h
    refine wp_block (ih hs ht ?_ h)
    intro e ρ a' C' h1 h2 h3
    cases e with
    | normal => exact hk _ _ _ _ h1 h2 h3
    | ret => exact hk _ _ _ _ h1 h2 h3
    | exit j =>
      simp only at h1
      simp only [exOf, Exit.inBlock]
      split at h1
      · rename_i e; rw [if_pos e]; exact hk _ _ _ _ h1 h2 h3
      · rename_i e; rw [if_neg e]; exact hk _ _ _ _ h1 h2 h3
  | loop c ih =>
    intro σ a C k Q hs ht hk h
    simp only [exec] at h
    obtain ⟨C1, w1, t1, s1⟩ := Sim.promote (T.keep fid (firstReg c)).2 hs
    generalize promote (T.keep fid (firstReg c)).2 σ = σ0 at h s1
    rw [← w1]
    have ht1 := ht.trans t1
    have hh : ∀ o, σ0.H.length ≤ o → C0.H o = .hole := by
      intro o ho
      have hob := ht1.ext.obj o
      have : C1.H o = .hole := by rw [s1.H]; exact look_hole ho
      simp only [ObjExt, this] at hob
      cases h0 : C0.H o <;> rw [h0] at hob <;> first | rfl | exact hob.elim
    generalize σ0.H.length = h0 at h hh
    let nm := trim r0 (T.keep fid (firstReg c)).1 h0
    let J : Nat → Act → World → Prop := fun m a w => ∃ σ C, loopIt (exec T Ca fid r0 nf c) nm k m σ = some r ∧ Sim base C σ a ∧ To base C0 C ∧ C.w = w
    obtain ⟨C2, w2, t2, s2⟩ := s1.trim ht1 hh (r0 := r0) hr (T.keep fid (firstReg c)).1
    have hJ : J nf a C1.w := ⟨_, C2, h, s2, t2, w2⟩
    open Classical in
    let μ : Act → World → Nat := fun a w => if hx : ∃ m, J m a w then Classical.choose (show ∃ m, J m a w ∧ ∀ m', J m' a w → m ≤ m' from by
      obtain ⟨m, hm⟩ := hx
      induction m using Nat.strongRecOn with
      | _ m ihm =>
        by_cases hlt : ∃ m', m' < m ∧ J m' a w
        · obtain ⟨m', h1, h2⟩ := hlt; exact ihm m' h1 h2
        · exact ⟨m, hm, fun m' h' => by
            rcases Nat.lt_or_ge m' m with hl | hl
            · exact absurd ⟨m', hl, h'⟩ hlt
            · exact hl⟩) else 0
    have hμ : ∀ {a w}, (∃ m, J m a w) → J (μ a w) a w ∧ ∀ m', J m' a w → μ a w ≤ m' := by
      intro a w hx
      have : μ a w = _ := dif_pos hx
      rw [this]
      exact Classical.choose_spec (p := fun m => J m a w ∧ ∀ m', J m' a w → m ≤ m') _
    refine wp_loop (fun a w => ∃ m, J m a w) μ ⟨nf, hJ⟩ fun a w hx => ?_
    obtain ⟨⟨σ, C, h1, h2, h3, h4⟩, hmin⟩ := hμ hx
    generalize μ a w = m at h1 hmin
    subst h4
    cases m with
    | zero => simp [loopIt] at h1
    | succ m =>
      simp only [loopIt] at h1
      refine ih h2 h3 ?_ h1
      intro e ρ a' C' g1 g2 g3
      cases e with
      | normal =>
        obtain ⟨C3, w3, t3, s3⟩ := g2.trim g3 hh (r0 := r0) hr (T.keep fid (firstReg c)).1
        have hx' : J m a' C'.w := ⟨nm ρ, C3, g1, s3, t3, w3⟩
        exact ⟨⟨m, hx'⟩, Nat.lt_succ_of_le ((hμ ⟨m, hx'⟩).2 m hx')⟩
      | exit id => exact hk _ _ _ _ g1 g2 g3
      | ret => exact hk _ _ _ _ g1 g2 g3
  | exit id =>
    intro σ a C k Q hs ht hk h
    simp only [exec] at h
    exact wp_exit (hk _ _ _ _ h hs ht)
  | ret =>
    intro σ a C k Q hs ht hk h
    simp only [exec] at h
    exact wp_ret (hk _ _ _ _ h hs ht)
  | _ =>
    intro σ a C k Q hs ht hk h
    simp [exec] at h
end
end Go.Proofs.Ytnlgciomdghfiaa.Fw

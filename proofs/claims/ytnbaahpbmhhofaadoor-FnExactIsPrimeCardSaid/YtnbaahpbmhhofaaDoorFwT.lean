/- One operation tells one outcome, and the same when more is seen: all of them. -/
import Derived.Test.YtnbaahpbmhhofaaDoorFwS
namespace Go.Proofs.YtnbaahpbmhhofaaDoor.Fw
open Go Go.RowKit
set_option linter.unusedVariables false
set_option linter.unusedSimpArgs false

section
variable {T : Tb} {α : Type} {r : α} {tv : Nat → AV} {nid : Nat} {k : AV → List (Nat × AO) → Option α}
theorem appendC_spec {Hm : Nat → AO} {st : TypeId} {s x : AV} (h : appendC T tv Hm nid st s x k = some r) : ∃ v u, k v u = some r ∧ ∀ {H : Nat → AO}, Msk Hm H → ∀ {β : Type} (k' : AV → List (Nat × AO) → Option β), appendC T tv H nid st s x k' = k' v u := by
  unfold appendC at h
  split at h <;> try (cases h; done)
  rename_i e1
  split at h <;> try (cases h; done)
  rename_i e2
  split at h <;> try (cases h; done)
  · rename_i t' l' own dies e4
    split at h <;> try (cases h; done)
    rename_i e5
    subst e5
    split at h <;> try (cases h; done)
    rename_i e6
    refine ⟨_, _, h, fun {H} hm {β} k' => ?_⟩
    simp only [appendC, e1, e2, srcOf_mono hm e4, dif_pos, if_pos e6]
  · rename_i o ver t' l' own dies e4
    split at h <;> try (cases h; done)
    rename_i t3 l cur dp hH
    split at h <;> try (cases h; done)
    rename_i e5
    split at h <;> try (cases h; done)
    rename_i e6
    subst e6
    split at h <;> try (cases h; done)
    rename_i e7
    subst e7
    split at h <;> try (cases h; done)
    rename_i e8
    split at h <;> try (cases h; done)
    rename_i e9
    split at h <;> try (cases h; done)
    rename_i e10
    refine ⟨_, _, h, fun {H} hm {β} k' => ?_⟩
    simp only [appendC, e1, e2, srcOf_mono hm e4, hm.arr hH, dif_pos, if_pos e5, if_pos e8, if_neg e9, if_pos e10, if_true]
theorem pureC_spec {Ca : Ca T} {fid : FuncId} {Hm : Nat → AO} {dst : Option Tmp} {g : FuncId} {args : List AV} (h : pureC T Ca fid Hm nid dst g args k = some r) : ∃ v u, k v u = some r ∧ ∀ {H : Nat → AO}, Msk Hm H → ∀ {β : Type} (k' : AV → List (Nat × AO) → Option β), pureC T Ca fid H nid dst g args k' = k' v u := by
  unfold pureC at h
  split at h <;> try (cases h; done)
  rename_i h1
  split at h <;> try (cases h; done)
  rename_i as h2
  obtain ⟨d, h3, h⟩ := Option.bind_eq_some_iff.1 h
  refine ⟨_, _, h, fun {H} hm {β} k' => ?_⟩
  have h2' : allM (snap H depth) args = some as := allM_mono (fun _ _ _ h => snap_mono hm depth h) h2
  have h1' : (apartR T g || (args.flatMap (idsA H depth)).isEmpty) = true := by
    rw [Bool.or_eq_true] at h1 ⊢
    refine h1.imp id fun h1 => ?_
    rw [List.isEmpty_iff, List.flatMap_eq_nil_iff] at h1 ⊢
    intro x hx
    obtain ⟨y, hy⟩ := allM_mem h2 x hx
    exact (idsA_mono hm depth hy).2 (h1 x hx)
  simp only [pureC, if_pos h1', h2', h3, Option.bind_some]

theorem cutC_spec {Hm : Nat → AO} {se : TypeId} {o ver : Nat} {lo hi mxo : Option Operand} (h : cutC T tv Hm se o ver lo hi mxo k = some r) : ∃ v u, k v u = some r ∧ ∀ {H : Nat → AO}, Msk Hm H → ∀ {β : Type} (k' : AV → List (Nat × AO) → Option β), cutC T tv H se o ver lo hi mxo k' = k' v u := by
  unfold cutC at h
  split at h <;> try (cases h; done)
  split at h <;> try (cases h; done)
  rename_i e1 e2
  split at h <;> try (cases h; done)
  rename_i e3
  split at h <;> try (cases h; done)
  rename_i e4
  split at h <;> try (cases h; done)
  rename_i e5
  split at h <;> try (cases h; done)
  rename_i e6
  split at h <;> try (cases h; done)
  rename_i e7
  split at h <;> try (cases h; done)
  rename_i e8
  split at h <;> try (cases h; done)
  rename_i e9
  exact ⟨_, _, h, fun hm _ k' => by simp only [cutC, e1, e2, hm.arr e3, if_pos e4, if_pos e5, if_pos e6, if_pos e7, if_pos e8, if_pos e9]⟩
theorem letC_spec {se : TypeId} {o ver : Nat} {lo hi : Option Operand} {Hm : Nat → AO} (h : letC T tv Hm se o ver lo hi k = some r) : ∃ v u, k v u = some r ∧ ∀ {H : Nat → AO}, Msk Hm H → ∀ {β : Type} (k' : AV → List (Nat × AO) → Option β), letC T tv H se o ver lo hi k' = k' v u := by
  unfold letC at h
  split at h <;> try (cases h; done)
  rename_i e3
  split at h <;> try (cases h; done)
  rename_i e4
  split at h <;> try (cases h; done)
  rename_i e5
  split at h <;> try (cases h; done)
  rename_i e1 e2
  split at h <;> try (cases h; done)
  rename_i e6
  split at h <;> try (cases h; done)
  rename_i e7
  split at h <;> try (cases h; done)
  rename_i e8
  exact ⟨_, _, h, fun hm _ k' => by simp only [letC, hm.arr e3, if_pos e4, if_pos e5, e1, e2, if_pos e6, if_pos e7, if_pos e8]⟩
theorem step_spec {Ca : Ca T} {fid : FuncId} {o : Oper} {Hm : Nat → AO} (h : stepE T Ca fid tv Hm nid o k = some r) : ∃ v u, k v u = some r ∧ ∀ {H : Nat → AO}, Msk Hm H → ∀ {β : Type} (k' : AV → List (Nat × AO) → Option β), stepE T Ca fid tv H nid o k' = k' v u := by
  obtain ⟨dst, op, type, pos, after, guard⟩ := o
  cases op <;> try (simp [stepE] at h; done)
  case move x => exact ⟨_, _, h, fun hm _ k' => rfl⟩
  case assign x => exact ⟨_, _, h, fun hm _ k' => rfl⟩
  case pick c x y =>
    simp only [stepE] at h
    obtain ⟨b, h1, h2, h3⟩ := testC_spec h
    cases b with
    | true => exact ⟨_, _, h2, fun hm _ k' => by simp only [stepE]; rw [h3]; rfl⟩
    | false => exact ⟨_, _, h2, fun hm _ k' => by simp only [stepE]; rw [h3]; rfl⟩
  case alloc t =>
    simp only [stepE] at h
    split at h <;> try (cases h; done)
    rename_i e1
    exact ⟨_, _, h, fun hm _ k' => by simp only [stepE, e1]⟩
  case box t x =>
    simp only [stepE] at h
    split at h <;> try (cases h; done)
    rename_i e1
    exact ⟨_, _, h, fun hm _ k' => by simp only [stepE, e1]⟩
  case build t ps =>
    simp only [stepE] at h
    split at h <;> try (cases h; done)
    · rename_i e1
      split at h <;> try (cases h; done)
      rename_i e2
      split at h <;> try (cases h; done)
      rename_i e3
      exact ⟨_, _, h, fun hm _ k' => by simp only [stepE, e1, e2, e3]⟩
    · rename_i e1
      split at h <;> try (cases h; done)
      rename_i e2
      split at h <;> try (cases h; done)
      rename_i e3
      exact ⟨_, _, h, fun hm _ k' => by simp only [stepE, e1, e2, e3]⟩
  case buildSlice t len ps =>
    simp only [stepE] at h
    split at h <;> try (cases h; done)
    rename_i e1
    split at h
    · rename_i e2
      split at h <;> try (cases h; done)
      rename_i e3 e4
      exact ⟨_, _, h, fun hm _ k' => by simp only [stepE, e1, if_pos e2, e3, e4]⟩
    · rename_i e2
      split at h <;> try (cases h; done)
      rename_i e3 e4
      split at h <;> try (cases h; done)
      rename_i e5
      split at h <;> try (cases h; done)
      rename_i e6
      split at h <;> try (cases h; done)
      rename_i e7
      exact ⟨_, _, h, fun hm _ k' => by simp only [stepE, e1, if_neg e2, e3, e4, if_pos e5, if_pos e6, newArr_mono hm e7]⟩
  case load t x =>
    simp only [stepE] at h
    split at h <;> try (cases h; done)
    rename_i e1 e2
    split at h <;> try (cases h; done)
    rename_i e3
    exact ⟨_, _, h, fun hm _ k' => by simp only [stepE, e1, cellsAt_mono hm e2, if_pos e3]⟩
  case store t x y =>
    simp only [stepE] at h
    split at h <;> try (cases h; done)
    rename_i e1 e2
    split at h <;> try (cases h; done)
    rename_i e3
    split at h <;> try (cases h; done)
    · rename_i e4
      split at h <;> try (cases h; done)
      rename_i e5
      split at h <;> try (cases h; done)
      rename_i e6
      exact ⟨_, _, h, fun hm _ k' => by simp only [stepE, e1, e2, if_pos e3, e4, hm.box e5, if_pos e6]⟩
    · rename_i e4
      split at h <;> try (cases h; done)
      rename_i e5
      split at h <;> try (cases h; done)
      rename_i e6
      split at h <;> try (cases h; done)
      rename_i e7
      split at h <;> try (cases h; done)
      rename_i e8
      split at h
      · rename_i e9
        split at h <;> try (cases h; done)
        rename_i e10
        exact ⟨_, _, h, fun hm _ k' => by simp only [stepE, e1, e2, if_pos e3, e4, hm.arr e5, if_pos e6, if_pos e7, if_pos e8, if_pos e9, e10]⟩
      · rename_i e9
        obtain ⟨v, u, h1, h2⟩ := wputC_spec h
        exact ⟨_, _, h1, fun hm _ k' => by simp only [stepE, e1, e2, if_pos e3, e4, hm.arr e5, if_pos e6, if_pos e7, if_pos e8, if_neg e9]; exact h2 hm k'⟩
    · rename_i e4
      obtain ⟨v, u, h1, h2⟩ := iputC_spec h
      exact ⟨_, _, h1, fun hm _ k' => by simp only [stepE, e1, e2, if_pos e3, e4]; exact h2 hm k'⟩
  case nilCheck x =>
    simp only [stepE] at h
    split at h <;> try (cases h; done)
    · rename_i e1
      split at h <;> try (cases h; done)
      rename_i e2
      exact ⟨_, _, h, fun hm _ k' => by simp only [stepE, e1, hm.box e2]⟩
    · rename_i e1
      exact ⟨_, _, h, fun hm _ k' => by simp only [stepE, e1]⟩
    · rename_i e1
      exact ⟨_, _, h, fun hm _ k' => by simp only [stepE, e1]⟩
  case binOp op t x y t2 =>
    simp only [stepE] at h
    split at h
    · rename_i e1 e2
      obtain ⟨v, h1, h2⟩ := binC_spec h
      exact ⟨_, _, h1, fun hm _ k' => by simp only [stepE, e1, e2]; exact h2 _⟩
    · rename_i e1 e2
      split at h <;> try (cases h; done)
      rename_i e3
      split at h <;> try (cases h; done)
      rename_i e4
      obtain ⟨v, h1, h2⟩ := binC_spec h
      exact ⟨_, _, h1, fun hm _ k' => by simp only [stepE, e1, e2, e3, if_pos e4]; exact h2 _⟩
    · rename_i n1 n2
      split at h <;> try (cases h; done)
      rotate_left
      · rename_i e3
        obtain ⟨v, h1, h2⟩ := nilC_spec h
        refine ⟨_, _, h1, fun hm _ k' => ?_⟩
        have h2' := h2 hm (fun v => k' v [])
        revert n1 n2 h2'
        simp only [stepE]
        generalize opnd tv x = X
        generalize opnd tv y = Y
        intro n1 n2 h2'
        cases X <;> cases Y <;> first | exact absurd rfl (n1 _ _ _ _ rfl) | exact absurd rfl (n2 _ _ rfl) | (simp only [e3]; exact h2')
      rename_i e3
      obtain ⟨v, h1, h2⟩ := binB_spec h
      refine ⟨_, _, h1, fun hm _ k' => ?_⟩
      have h2' := h2 (fun v => k' v [])
      revert n1 n2 h2'
      simp only [stepE]
      generalize opnd tv x = X
      generalize opnd tv y = Y
      intro n1 n2 h2'
      cases X <;> cases Y <;> first | exact absurd rfl (n1 _ _ _ _ rfl) | exact absurd rfl (n2 _ _ rfl) | (simp only [e3]; exact h2')
  case unOp op t x =>
    simp only [stepE] at h
    split at h <;> try (cases h; done)
    all_goals
      rename_i e1
      exact ⟨_, _, h, fun hm _ k' => by simp only [stepE, e1]⟩
  case convert s t x =>
    simp only [stepE] at h
    split at h <;> try (cases h; done)
    rename_i e1 e2 e3
    exact ⟨_, _, h, fun hm _ k' => by simp only [stepE, e1, e2, e3]⟩
  case makeFunc f first caps =>
    cases f <;> try (simp [stepE] at h; done)
    simp only [stepE] at h
    split at h
    · rename_i e1
      exact ⟨_, _, h, fun hm _ k' => by simp only [stepE, if_pos e1]⟩
    · rename_i e1
      split at h <;> try (cases h; done)
      rename_i x e2 e3
      split at h <;> try (cases h; done)
      rename_i e4
      exact ⟨_, _, h, fun hm _ k' => by simp only [stepE, if_neg e1, e2, e3, e4]⟩
  case makeSlice t x y =>
    simp only [stepE] at h
    split at h <;> try (cases h; done)
    rename_i e1 e2 e3
    split at h <;> try (cases h; done)
    rename_i e4
    split at h <;> try (cases h; done)
    rename_i e5
    split at h <;> try (cases h; done)
    rename_i e6
    split at h <;> try (cases h; done)
    rename_i e7
    exact ⟨_, _, h, fun hm _ k' => by simp only [stepE, e1, e2, e3, if_pos e4, e5, if_pos e6, if_pos e7]⟩
  case slice t x lo hi m =>
    simp only [stepE] at h
    split at h <;> try (cases h; done)
    rotate_left
    · rename_i e1 e2
      split at h
      · obtain ⟨v, u, h1, h2⟩ := cutC_spec h
        exact ⟨_, _, h1, fun hm _ k' => by simp only [stepE, e1, e2]; exact h2 hm k'⟩
      · obtain ⟨v, u, h1, h2⟩ := letC_spec h
        exact ⟨_, _, h1, fun hm _ k' => by simp only [stepE, e1, e2]; exact h2 hm k'⟩
    rename_i e1 e2
    split at h <;> try (cases h; done)
    rename_i e3
    split at h <;> try (cases h; done)
    rename_i e4 e5 e6
    split at h <;> try (cases h; done)
    rename_i e7
    split at h <;> try (cases h; done)
    rename_i e8
    split at h <;> try (cases h; done)
    rename_i e9
    split at h <;> try (cases h; done)
    rename_i e10
    exact ⟨_, _, h, fun hm _ k' => by simp only [stepE, e1, e2, if_pos e3, e4, e5, e6, if_pos e7, if_pos e8, if_pos e9, if_pos e10]⟩
  case fieldAddr t x f =>
    simp only [stepE] at h
    split at h <;> try (cases h; done)
    rename_i e1
    split at h <;> try (cases h; done)
    rename_i e2
    split at h <;> try (cases h; done)
    rename_i e3
    split at h <;> try (cases h; done)
    rename_i e4
    split at h <;> try (cases h; done)
    · rename_i e5
      split at h <;> try (cases h; done)
      rename_i e6
      exact ⟨_, _, h, fun hm _ k' => by simp only [stepE, e1, e2, e3, if_pos e4, e5, hm.box e6]⟩
    · rename_i e5
      split at h <;> try (cases h; done)
      rename_i e6
      split at h <;> try (cases h; done)
      rename_i e7
      exact ⟨_, _, h, fun hm _ k' => by simp only [stepE, e1, e2, e3, if_pos e4, e5, hm.arr e6, if_pos e7]⟩
    · rename_i e5
      exact ⟨_, _, h, fun hm _ k' => by simp only [stepE, e1, e2, e3, if_pos e4, e5]⟩
  case field t x f =>
    simp only [stepE] at h
    split at h <;> try (cases h; done)
    rename_i e1 e2
    split at h <;> try (cases h; done)
    rename_i e3
    split at h <;> try (cases h; done)
    rename_i e4
    split at h <;> try (cases h; done)
    rename_i e5
    exact ⟨_, _, h, fun hm _ k' => by simp only [stepE, e1, e2, e3, e4, if_pos e5]⟩
  case indexAddr t x ix =>
    simp only [stepE] at h
    split at h <;> try (cases h; done)
    rotate_left
    · rename_i e1 e2
      split at h <;> try (cases h; done)
      rename_i e3
      obtain ⟨v, u, h1, h2⟩ := glbC_spec h
      exact ⟨_, _, h1, fun hm _ k' => by simp only [stepE, e1, e2, e3]; exact h2 k'⟩
    rename_i e1 e2
    split at h <;> try (cases h; done)
    rename_i e3
    split at h <;> try (cases h; done)
    · rename_i e4
      split at h <;> try (cases h; done)
      rename_i e5
      obtain ⟨h1, h2, h⟩ := inC_some h
      exact ⟨_, _, h, fun hm _ k' => by simp only [stepE, e1, e2, e3, e4, if_pos e5, inC, if_pos h1, if_pos h2]⟩
    · rename_i e4
      split at h <;> try (cases h; done)
      rename_i e5
      split at h <;> try (cases h; done)
      rename_i e6
      split at h <;> try (cases h; done)
      rename_i e7
      obtain ⟨h1, h2, h⟩ := inC_some h
      exact ⟨_, _, h, fun hm _ k' => by simp only [stepE, e1, e2, e3, e4, hm.arr e5, if_pos e6, if_pos e7, inC, if_pos h1, if_pos h2]⟩
    · rename_i e4
      obtain ⟨v, u, h1, h2⟩ := islC_spec h
      exact ⟨_, _, h1, fun hm _ k' => by simp only [stepE, e1, e2, e3, e4]; exact h2 hm k'⟩
  case index t x ix =>
    simp only [stepE] at h
    split at h <;> try (cases h; done)
    rotate_left
    · rename_i e1 e2 e3
      obtain ⟨h1, h2, h⟩ := inC_some h
      exact ⟨_, _, h, fun hm _ k' => by simp only [stepE, e1, e2, e3, inC, if_pos h1, if_pos h2]⟩
    rename_i e1 e2 e3
    split at h <;> try (cases h; done)
    rename_i e4
    split at h <;> try (cases h; done)
    rename_i e5
    split at h <;> try (cases h; done)
    rename_i e6
    obtain ⟨h1, h2, h⟩ := inC_some h
    exact ⟨_, _, h, fun hm _ k' => by simp only [stepE, e1, e2, e3, e4, e5, if_pos e6, inC, if_pos h1, if_pos h2]⟩
  case extract x i =>
    simp only [stepE] at h
    split at h <;> try (cases h; done)
    rename_i e1
    split at h <;> try (cases h; done)
    rename_i e2
    exact ⟨_, _, h, fun hm _ k' => by simp only [stepE, e1, e2]⟩
  case call c =>
    simp only [stepE] at h
    split at h <;> try (cases h; done)
    · rename_i hc
      split at h <;> try (cases h; done)
      rename_i e1 e2
      split at h <;> try (cases h; done)
      rename_i e3
      obtain ⟨v, h1, h2⟩ := lenC_spec h
      exact ⟨_, _, h1, fun hm _ k' => by simp only [stepE, hc, e1, e2, e3]; exact h2 hm _⟩
    · rename_i hc
      split at h <;> try (cases h; done)
      rename_i e1 e2
      split at h <;> try (cases h; done)
      rename_i e3
      obtain ⟨v, u, h1, h2⟩ := appendC_spec h
      exact ⟨_, _, h1, fun hm _ k' => by simp only [stepE, hc, e1, e2, e3]; exact h2 hm k'⟩
    · rename_i hc
      split at h <;> try (cases h; done)
      rename_i e1
      exact ⟨_, _, h, fun hm _ k' => by simp only [stepE, hc, e1]⟩
    · rename_i hc
      split at h <;> try (cases h; done)
      rename_i e1
      exact ⟨_, _, h, fun hm _ k' => by simp only [stepE, hc, e1]⟩
    · rename_i f hc
      split at h <;> try (cases h; done)
      rename_i e1
      split at h <;> try (cases h; done)
      rename_i e2
      split at h <;> try (cases h; done)
      rename_i e3
      obtain ⟨v, u, h1, h2⟩ := pureC_spec h
      exact ⟨_, _, h1, fun hm _ k' => by simp only [stepE, hc, e1]; rw [if_neg e2, if_neg e3]; exact h2 hm k'⟩
end
end Go.Proofs.YtnbaahpbmhhofaaDoor.Fw

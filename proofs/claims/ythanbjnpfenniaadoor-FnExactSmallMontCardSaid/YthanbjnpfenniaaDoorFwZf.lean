/- Words for a function's equations: a loop as an iteration, a loop's place in its function. -/
import Derived.Test.YthanbjnpfenniaaDoorFwR
import Derived.Orders
import Derived.Laws.Sem
import Derived.ChangeArms
import Derived.WalkKit
import Derived.WideShapes
namespace Go.Proofs.YthanbjnpfenniaaDoor.Fw
open Go Go.RowKit
set_option linter.unusedVariables false
set_option linter.unusedSimpArgs false

/-- The first is the second, but that some objects are let go. -/
def Msk (Hm H : Nat → AO) : Prop := ∀ p, Hm p = H p ∨ Hm p = .dead
theorem Msk.arr {Hm H : Nat → AO} (hm : Msk Hm H) {p : Nat} {t : Ty} {l : List t.D} {ver : Nat} {dp : Bool} (h : Hm p = .arr t l ver dp) : H p = .arr t l ver dp := by
  rcases hm p with e | e
  · rw [← e, h]
  · rw [e] at h; cases h
theorem Msk.box {Hm H : Nat → AO} (hm : Msk Hm H) {p : Nat} {l : List AV} (h : Hm p = .box l) : H p = .box l := by
  rcases hm p with e | e
  · rw [← e, h]
  · rw [e] at h; cases h
theorem Msk.refl (H : Nat → AO) : Msk H H := fun _ => .inl rfl

theorem cellsAt_mono {Hm H : Nat → AO} (hm : Msk Hm H) {x : AV} {cs : List AV} (h : cellsAt Hm x = some cs) : cellsAt H x = some cs := by
  unfold cellsAt at h ⊢
  split at h <;> try (cases h; done)
  · split at h <;> try (cases h; done)
    rename_i hb
    simp only [hm.box hb]; exact h
  · split at h <;> try (cases h; done)
    rename_i hb
    simp only [hm.arr hb]; exact h
  · exact h
theorem allM_mono {f g : AV → Option AV} : ∀ {xs ys : List AV}, (∀ x y, x ∈ xs → f x = some y → g x = some y) → allM f xs = some ys → allM g xs = some ys
  | [], ys, _, h => by simpa [allM] using h
  | x :: r, ys, hfg, h => by
    simp only [allM] at h ⊢
    split at h <;> try (cases h; done)
    rename_i y s h1 h2
    cases h
    rw [hfg x y (by simp) h1, allM_mono (fun a b ha => hfg a b (List.mem_cons_of_mem _ ha)) h2]
theorem allM_mem {f : AV → Option AV} : ∀ {xs ys : List AV}, allM f xs = some ys → ∀ x ∈ xs, ∃ y, f x = some y
  | [], ys, h => by simp
  | x :: r, ys, h => by
    simp only [allM] at h
    split at h <;> try (cases h; done)
    rename_i y s h1 h2
    intro z hz
    rcases List.mem_cons.1 hz with rfl | hz
    · exact ⟨y, h1⟩
    · exact allM_mem h2 z hz
theorem flatMap_congr' {β γ : Type} {f g : β → List γ} : ∀ {xs : List β}, (∀ x ∈ xs, f x = g x) → xs.flatMap f = xs.flatMap g
  | [], _ => rfl
  | x :: r, h => by simp only [List.flatMap_cons]; rw [h x (by simp), flatMap_congr' fun y hy => h y (List.mem_cons_of_mem _ hy)]
theorem snap_mono {Hm H : Nat → AO} (hm : Msk Hm H) : ∀ (d : Nat) {x y : AV}, snap Hm d x = some y → snap H d x = some y := by
  intro d
  induction d with
  | zero => intro x y h; cases x <;> simp [snap] at h
  | succ d ih =>
    intro x y h
    have sub : ∀ {l ys : List AV}, allM (snap Hm d) l = some ys → allM (snap H d) l = some ys := fun h => allM_mono (fun _ _ _ h => ih h) h
    cases x <;> simp only [snap] at h ⊢ <;> try exact h
    · split at h <;> try (cases h; done)
      rename_i hb
      simp only [hm.arr hb]; exact h
    · split at h <;> try (cases h; done)
      rename_i hb
      simp only [hm.box hb]
      obtain ⟨ys, h1, rfl⟩ := Option.map_eq_some_iff.1 h
      rw [sub h1]; rfl
    all_goals
      obtain ⟨ys, h1, rfl⟩ := Option.map_eq_some_iff.1 h
      rw [sub h1]; rfl
theorem idsA_mono {Hm H : Nat → AO} (hm : Msk Hm H) : ∀ (d : Nat) {x y : AV}, snap Hm d x = some y → (idsA H d x = [] ↔ idsA Hm d x = []) := by
  intro d
  induction d with
  | zero => intro x y h; cases x <;> simp [snap] at h
  | succ d ih =>
    intro x y h
    have sub : ∀ {l ys : List AV}, allM (snap Hm d) l = some ys → (l.flatMap (idsA H d) = [] ↔ l.flatMap (idsA Hm d) = []) := fun {l ys} h => by
      simp only [List.flatMap_eq_nil_iff]
      constructor
      · intro k x hx; obtain ⟨y, hy⟩ := allM_mem h x hx; exact (ih hy).1 (k x hx)
      · intro k x hx; obtain ⟨y, hy⟩ := allM_mem h x hx; exact (ih hy).2 (k x hx)
    cases x <;> simp only [snap] at h <;> simp only [idsA]
    · split at h <;> try (cases h; done)
      rename_i hb
      simp only [hm.box hb, hb]
      obtain ⟨ys, h1, rfl⟩ := Option.map_eq_some_iff.1 h
      exact sub h1
    all_goals
      obtain ⟨ys, h1, rfl⟩ := Option.map_eq_some_iff.1 h
      exact sub h1
theorem toX_mono {Hm H : Nat → AO} (hm : Msk Hm H) : ∀ {t : Ty} {l : List AV} {y : t.D × List Nat}, toX Hm t l = some y → toX H t l = some y := by
  intro t
  induction t with
  | sl e _ =>
    intro l y h
    rcases l with _ | ⟨x, _ | ⟨z, s⟩⟩
    · simp [toX] at h
    · cases x <;> try (simp [toX] at h; done)
      · simpa only [toX] using h
      · simp only [toX] at h ⊢
        split at h <;> try (cases h; done)
        rename_i hb
        simp only [hm.arr hb]; exact h
    · simp [toX] at h
  | pr a b iha ihb =>
    intro l y h
    simp only [toX] at h ⊢
    split at h <;> try (cases h; done)
    rename_i x i z j h1 h2
    rw [iha h1, ihb h2]; exact h
  | _ =>
    intro l y h
    rcases l with _ | ⟨x, _ | ⟨z, s⟩⟩
    · simp [toX] at h
    · cases x <;> first | (simp [toX, boolOf] at h; done) | simpa only [toX] using h
    · simp [toX] at h
theorem toX_back {Hm H : Nat → AO} : ∀ {t : Ty} {l : List AV} {x : t.D} {y : t.D × List Nat}, toD t l = some x → toX H t l = some y → toX Hm t l = some y := by
  intro t
  induction t with
  | sl e _ =>
    intro l x y h1 h2
    rcases l with _ | ⟨v, _ | ⟨z, s⟩⟩
    · simp [toX] at h2
    · cases v <;> try (simp [toX] at h2; done)
      · simpa only [toX] using h2
      · simp [toD] at h1
    · simp [toX] at h2
  | pr a b iha ihb =>
    intro l x y h1 h2
    simp only [toX] at h2 ⊢
    simp only [toD] at h1
    split at h2 <;> try (cases h2; done)
    rename_i x1 i z j k1 k2
    split at h1 <;> try (cases h1; done)
    rename_i k3 k4
    rw [iha k3 k1, ihb k4 k2]; exact h2
  | _ =>
    intro l x y h1 h2
    rcases l with _ | ⟨v, _ | ⟨z, s⟩⟩
    · simp [toX] at h2
    · cases v <;> first | (simp [toX, boolOf] at h2; done) | simpa only [toX] using h2
    · simp [toX] at h2
theorem dataAllX_mono {Hm H : Nat → AO} (hm : Msk Hm H) {t : Ty} : ∀ {vs : List AV} {y : List t.D × List Nat}, dataAllX Hm t vs = some y → dataAllX H t vs = some y
  | [], y, h => by simpa [dataAllX] using h
  | v :: r, y, h => by
    simp only [dataAllX] at h ⊢
    split at h <;> try (cases h; done)
    rename_i x i s j h1 h2
    obtain ⟨cs, h3, h4⟩ := Option.bind_eq_some_iff.1 h1
    rw [h3, dataAllX_mono hm h2]
    simp only [Option.bind_some, toX_mono hm h4]
    exact h
theorem dataAllX_back {Hm H : Nat → AO} {t : Ty} : ∀ {vs : List AV} {l : List t.D} {y : List t.D × List Nat}, dataAll t vs = some l → dataAllX H t vs = some y → dataAllX Hm t vs = some y
  | [], l, y, _, h => by simpa [dataAllX] using h
  | v :: r, l, y, h', h => by
    simp only [dataAllX] at h ⊢
    simp only [dataAll] at h'
    split at h <;> try (cases h; done)
    rename_i x i s j h1 h2
    split at h' <;> try (cases h'; done)
    rename_i x' s' h5 h6
    obtain ⟨cs, h3, h4⟩ := Option.bind_eq_some_iff.1 h1
    rw [h3] at h5 ⊢
    simp only [Option.bind_some] at h5 ⊢
    rw [toX_back h5 h4, dataAllX_back h6 h2]
    exact h
theorem newArr_mono {Hm H : Nat → AO} (hm : Msk Hm H) {t : Ty} {vs : List AV} {nid : Nat} {u : List (Nat × AO)} (h : newArr Hm t vs nid = some u) : newArr H t vs nid = some u := by
  unfold newArr at h ⊢
  split at h
  · rename_i l ids h1
    rw [dataAllX_mono hm h1]; exact h
  · rename_i h1
    split at h <;> try (cases h; done)
    rename_i l h2
    cases h3 : dataAllX H t vs with
    | some y => rw [dataAllX_back h2 h3] at h1; cases h1
    | none => simp only [h2]; exact h
theorem srcOf_mono {Hm H : Nat → AO} (hm : Msk Hm H) {x : AV} {t : Ty} {l : List t.D} {own : Bool} {dies : List Nat} (h : srcOf Hm x = .some t l own dies) : srcOf H x = .some t l own dies := by
  unfold srcOf at h ⊢
  split at h <;> try (cases h; done)
  · exact h
  · split at h <;> try (cases h; done)
    rename_i hb
    simp only [hm.arr hb]; exact h

section
variable {α : Type} {r : α}
theorem testC_spec {c : AV} {x y : Option α} (h : testC c x y = some r) : ∃ b, boolOf c = some b ∧ (if b = true then x else y) = some r ∧ ∀ {β : Type} (x' y' : Option β), testC c x' y' = if b = true then x' else y' := by
  unfold testC at h
  split at h <;> try (cases h; done)
  · rename_i b; exact ⟨b, rfl, h, fun x y => rfl⟩
  · rename_i p hp
    refine ⟨decide p, rfl, ?_, fun x y => ?_⟩
    · by_cases hc : p <;> simpa [hc] using h
    · by_cases hc : p <;> simp [hc, testC]
  · rename_i p hp
    refine ⟨!decide p, rfl, ?_, fun x y => ?_⟩
    · by_cases hc : p <;> simpa [hc] using h
    · by_cases hc : p <;> simp [hc, testC]
theorem arithC_spec {op : BinOp} {kd : IntKind} {a b : Int} {kk : AV → Option α} (h : arithC op kd a b kk = some r) : ∃ v, kk v = some r ∧ ∀ {β : Type} (k' : AV → Option β), arithC op kd a b k' = k' v := by
  cases op <;> simp only [arithC] at h <;> try (cases h; done)
  all_goals first
    | exact ⟨_, h, fun k' => rfl⟩
    | (split at h <;> try (cases h; done)
       rename_i hb
       exact ⟨_, h, fun k' => by simp only [arithC]; rw [if_neg hb]⟩)
theorem binC_spec {op : BinOp} {x y : AV} {kk : AV → Option α} (h : binC op x y kk = some r) : ∃ v, kk v = some r ∧ ∀ {β : Type} (k' : AV → Option β), binC op x y k' = k' v := by
  unfold binC at h
  split at h <;> try (cases h; done)
  · rename_i k1 a k2 b
    split at h
    · split at h <;> try (cases h; done)
      rename_i hb
      exact ⟨_, h, fun k' => by simp only [binC]; rw [if_neg hb]⟩
    · split at h <;> try (cases h; done)
      rename_i hb
      exact ⟨_, h, fun k' => by simp only [binC]; rw [if_neg hb]⟩
    · rename_i h1 h2
      split at h <;> try (cases h; done)
      rename_i hk
      obtain ⟨v, h3, h4⟩ := arithC_spec h
      refine ⟨v, h3, fun k' => ?_⟩
      rw [← h4 k']
      cases op <;> first | exact absurd rfl h1 | exact absurd rfl h2 | simp only [binC, hk, if_pos]
  · rename_i l m
    split at h <;> try (cases h; done)
    · rename_i e he
      exact ⟨_, h, fun k' => by simp only [binC, he]⟩
    · rename_i e he
      exact ⟨_, h, fun k' => by simp only [binC, he]⟩
theorem binB_spec {op : BinOp} {x y : AV} {kk : AV → Option α} (h : binB op x y kk = some r) : ∃ v, kk v = some r ∧ ∀ {β : Type} (k' : AV → Option β), binB op x y k' = k' v := by
  unfold binB at h
  split at h <;> try (cases h; done)
  · rename_i h1 h2
    exact ⟨_, h, fun k' => by simp only [binB, h1, h2]⟩
  · rename_i h1 h2
    exact ⟨_, h, fun k' => by simp only [binB, h1, h2]⟩
theorem emptyC_spec {Hm : Nat → AO} {x : AV} {e n : Option α} (h : emptyC Hm x e n = some r) : ∃ b, (if b = true then e else n) = some r ∧ ∀ {H : Nat → AO}, Msk Hm H → ∀ {β : Type} (e' n' : Option β), emptyC H x e' n' = if b = true then e' else n' := by
  unfold emptyC at h
  split at h
  · exact ⟨true, h, fun _ _ _ _ => rfl⟩
  · rename_i t l
    exact ⟨l.isEmpty, h, fun _ _ _ _ => rfl⟩
  · split at h <;> try (cases h; done)
    rename_i hb
    split at h <;> try (cases h; done)
    rename_i hv
    exact ⟨_, h, fun hm _ e' n' => by simp only [emptyC, hm.arr hb, if_pos hv]⟩
  · cases h
theorem nilC_spec {op : BinOp} {y : Operand} {Hm : Nat → AO} {x : AV} {kk : AV → Option α} (h : nilC op Hm x y kk = some r) : ∃ v, kk v = some r ∧ ∀ {H : Nat → AO}, Msk Hm H → ∀ {β : Type} (k' : AV → Option β), nilC op H x y k' = k' v := by
  unfold nilC at h
  split at h <;> try (cases h; done)
  all_goals
    split at h <;> try (cases h; done)
    rename_i hn
    obtain ⟨b, h1, h2⟩ := emptyC_spec h
    cases b with
    | true => exact ⟨_, h1, fun hm _ k' => by simp only [nilC, if_pos hn]; rw [h2 hm]; rfl⟩
    | false => exact ⟨_, h1, fun hm _ k' => by simp only [nilC, if_pos hn]; rw [h2 hm]; rfl⟩
theorem lenC_spec {Hm : Nat → AO} {x : AV} {kk : AV → Option α} (h : lenC Hm x kk = some r) : ∃ v, kk v = some r ∧ ∀ {H : Nat → AO}, Msk Hm H → ∀ {β : Type} (k' : AV → Option β), lenC H x k' = k' v := by
  unfold lenC at h
  split at h <;> try (cases h; done)
  · exact ⟨_, h, fun _ _ k' => rfl⟩
  · exact ⟨_, h, fun _ _ k' => rfl⟩
  · split at h <;> try (cases h; done)
    rename_i hb
    split at h <;> try (cases h; done)
    rename_i hv
    exact ⟨_, h, fun hm _ k' => by simp only [lenC, hm.arr hb, if_pos hv]⟩
  · split at h <;> try (cases h; done)
    rename_i hb
    split at h <;> try (cases h; done)
    rename_i hv
    split at h <;> try (cases h; done)
    rename_i hd
    split at h <;> try (cases h; done)
    rename_i hs
    exact ⟨_, h, fun hm _ k' => by simp only [lenC, hm.arr hb, if_pos hv, if_pos hd, hs]⟩
section
variable {T : Tb} {k : AV → List (Nat × AO) → Option α}
theorem glbC_spec {g n : Nat} {e : TypeId} {i : Int} (h : glbC T g n e i k = some r) : ∃ v u, k v u = some r ∧ ∀ {β : Type} (k' : AV → List (Nat × AO) → Option β), glbC T g n e i k' = k' v u := by
  unfold glbC at h
  split at h <;> try (cases h; done)
  rename_i e1 e2
  split at h <;> try (cases h; done)
  rename_i e3
  split at h <;> try (cases h; done)
  rename_i e4
  obtain ⟨h1, h2, h⟩ := inC_some h
  exact ⟨_, _, h, fun k' => by simp only [glbC, e1, e2, if_pos e3, if_pos e4, inC, if_pos h1, if_pos h2]⟩
theorem islC_spec {Hm : Nat → AO} {size o ver i c : Nat} {j : Int} (h : islC Hm size o ver i c j k = some r) : ∃ v u, k v u = some r ∧ ∀ {H : Nat → AO}, Msk Hm H → ∀ {β : Type} (k' : AV → List (Nat × AO) → Option β), islC H size o ver i c j k' = k' v u := by
  unfold islC at h
  split at h <;> try (cases h; done)
  rename_i hb
  split at h <;> try (cases h; done)
  rename_i e1
  split at h <;> try (cases h; done)
  rename_i e2
  split at h <;> try (cases h; done)
  rename_i e3
  split at h <;> try (cases h; done)
  rename_i e4
  obtain ⟨h1, h2, h⟩ := inC_some h
  exact ⟨_, _, h, fun hm _ k' => by simp only [islC, hm.arr hb, if_pos e1, if_pos e2, if_pos e3, e4, inC, if_pos h1, if_pos h2]⟩
theorem iputC_spec {Hm : Nat → AO} {o ver i c j : Nat} {ys : List AV} (h : iputC Hm o ver i c j ys k = some r) : ∃ v u, k v u = some r ∧ ∀ {H : Nat → AO}, Msk Hm H → ∀ {β : Type} (k' : AV → List (Nat × AO) → Option β), iputC H o ver i c j ys k' = k' v u := by
  unfold iputC at h
  split at h <;> try (cases h; done)
  rename_i hb
  split at h <;> try (cases h; done)
  rename_i e1
  split at h <;> try (cases h; done)
  rename_i e2
  split at h <;> try (cases h; done)
  rename_i e3
  split at h <;> try (cases h; done)
  rename_i e4
  exact ⟨_, _, h, fun hm _ k' => by simp only [iputC, hm.arr hb, if_pos e1, if_pos e2, e3, if_pos e4]⟩
theorem fputC_spec {p j off : Nat} {d : Ty} {l : List d.D} {cur : Nat} {dp : Bool} {ys : List AV} (h : fputC p j off d l cur dp ys k = some r) : ∃ v u, k v u = some r ∧ ∀ {β : Type} (k' : AV → List (Nat × AO) → Option β), fputC p j off d l cur dp ys k' = k' v u := by
  unfold fputC at h
  split at h <;> try (cases h; done)
  rename_i e1
  split at h <;> try (cases h; done)
  split at h <;> try (cases h; done)
  rename_i e3
  exact ⟨_, _, h, fun k' => by simp only [fputC, if_pos e1, e3]⟩
theorem wputC_spec {Hm : Nat → AO} {p j : Nat} {d : Ty} {l : List d.D} {cur : Nat} {dp : Bool} {ys : List AV} (h : wputC Hm p j d l cur dp ys k = some r) : ∃ v u, k v u = some r ∧ ∀ {H : Nat → AO}, Msk Hm H → ∀ {β : Type} (k' : AV → List (Nat × AO) → Option β), wputC H p j d l cur dp ys k' = k' v u := by
  unfold wputC at h
  split at h <;> try (cases h; done)
  rename_i e1
  split at h <;> try (cases h; done)
  rename_i e2
  split at h <;> try (cases h; done)
  rename_i e3
  split at h <;> try (cases h; done)
  rename_i e4
  split at h <;> try (cases h; done)
  rename_i e5
  exact ⟨_, _, h, fun hm _ k' => by simp only [wputC, if_pos e1, if_pos e2, toX_mono hm e3, if_pos e4, if_neg e5]⟩
end
end
end Go.Proofs.YthanbjnpfenniaaDoor.Fw

namespace Go.Proofs.YthanbjnpfenniaaDoor.Fw
open Go Go.RowKit
set_option linter.unusedVariables false
set_option linter.unusedSimpArgs false

section
variable {T : Tb} {α : Type} {r : α} {tv : Nat → AV} {nid : Nat} {k : AV → List (Nat × AO) → Option α}
theorem appendC_spec {Hm : Nat → AO} {st : TypeId} {s x : AV} (h : appendC T tv Hm nid st s x k = some r) : ∃ v u, k v u = some r ∧ ∀ {H : Nat → AO}, Msk Hm H → ∀ {β : Type} (k' : AV → List (Nat × AO) → Option β), appendC T tv H nid st s x k' = k' v u := by
  unfold appendC at h
  split at h <;> try (cases h; done)
  rename_i e1
  split at h <;> try (cases h; done)
  rename_i e2
  split at h <;> try (cases h; done)
  · rename_i t' l' own dies e4
    split at h <;> try (cases h; done)
    rename_i e5
    subst e5
    split at h <;> try (cases h; done)
    rename_i e6
    refine ⟨_, _, h, fun {H} hm {β} k' => ?_⟩
    simp only [appendC, e1, e2, srcOf_mono hm e4, dif_pos, if_pos e6]
  · rename_i o ver t' l' own dies e4
    split at h <;> try (cases h; done)
    rename_i t3 l cur dp hH
    split at h <;> try (cases h; done)
    rename_i e5
    split at h <;> try (cases h; done)
    rename_i e6
    subst e6
    split at h <;> try (cases h; done)
    rename_i e7
    subst e7
    split at h <;> try (cases h; done)
    rename_i e8
    split at h <;> try (cases h; done)
    rename_i e9
    split at h <;> try (cases h; done)
    rename_i e10
    refine ⟨_, _, h, fun {H} hm {β} k' => ?_⟩
    simp only [appendC, e1, e2, srcOf_mono hm e4, hm.arr hH, dif_pos, if_pos e5, if_pos e8, if_neg e9, if_pos e10, if_true]
theorem pureC_spec {Ca : Ca T} {fid : FuncId} {Hm : Nat → AO} {dst : Option Tmp} {g : FuncId} {args : List AV} (h : pureC T Ca fid Hm nid dst g args k = some r) : ∃ v u, k v u = some r ∧ ∀ {H : Nat → AO}, Msk Hm H → ∀ {β : Type} (k' : AV → List (Nat × AO) → Option β), pureC T Ca fid H nid dst g args k' = k' v u := by
  unfold pureC at h
  split at h <;> try (cases h; done)
  rename_i h1
  split at h <;> try (cases h; done)
  rename_i as h2
  obtain ⟨d, h3, h⟩ := Option.bind_eq_some_iff.1 h
  refine ⟨_, _, h, fun {H} hm {β} k' => ?_⟩
  have h2' : allM (snap H depth) args = some as := allM_mono (fun _ _ _ h => snap_mono hm depth h) h2
  have h1' : (apartR T g || (args.flatMap (idsA H depth)).isEmpty) = true := by
    rw [Bool.or_eq_true] at h1 ⊢
    refine h1.imp id fun h1 => ?_
    rw [List.isEmpty_iff, List.flatMap_eq_nil_iff] at h1 ⊢
    intro x hx
    obtain ⟨y, hy⟩ := allM_mem h2 x hx
    exact (idsA_mono hm depth hy).2 (h1 x hx)
  simp only [pureC, if_pos h1', h2', h3, Option.bind_some]

theorem cutC_spec {Hm : Nat → AO} {se : TypeId} {o ver : Nat} {lo hi mxo : Option Operand} (h : cutC T tv Hm se o ver lo hi mxo k = some r) : ∃ v u, k v u = some r ∧ ∀ {H : Nat → AO}, Msk Hm H → ∀ {β : Type} (k' : AV → List (Nat × AO) → Option β), cutC T tv H se o ver lo hi mxo k' = k' v u := by
  unfold cutC at h
  split at h <;> try (cases h; done)
  split at h <;> try (cases h; done)
  rename_i e1 e2
  split at h <;> try (cases h; done)
  rename_i e3
  split at h <;> try (cases h; done)
  rename_i e4
  split at h <;> try (cases h; done)
  rename_i e5
  split at h <;> try (cases h; done)
  rename_i e6
  split at h <;> try (cases h; done)
  rename_i e7
  split at h <;> try (cases h; done)
  rename_i e8
  split at h <;> try (cases h; done)
  rename_i e9
  exact ⟨_, _, h, fun hm _ k' => by simp only [cutC, e1, e2, hm.arr e3, if_pos e4, if_pos e5, if_pos e6, if_pos e7, if_pos e8, if_pos e9]⟩
theorem letC_spec {se : TypeId} {o ver : Nat} {lo hi : Option Operand} {Hm : Nat → AO} (h : letC T tv Hm se o ver lo hi k = some r) : ∃ v u, k v u = some r ∧ ∀ {H : Nat → AO}, Msk Hm H → ∀ {β : Type} (k' : AV → List (Nat × AO) → Option β), letC T tv H se o ver lo hi k' = k' v u := by
  unfold letC at h
  split at h <;> try (cases h; done)
  rename_i e3
  split at h <;> try (cases h; done)
  rename_i e4
  split at h <;> try (cases h; done)
  rename_i e5
  split at h <;> try (cases h; done)
  rename_i e1 e2
  split at h <;> try (cases h; done)
  rename_i e6
  split at h <;> try (cases h; done)
  rename_i e7
  split at h <;> try (cases h; done)
  rename_i e8
  exact ⟨_, _, h, fun hm _ k' => by simp only [letC, hm.arr e3, if_pos e4, if_pos e5, e1, e2, if_pos e6, if_pos e7, if_pos e8]⟩
theorem step_spec {Ca : Ca T} {fid : FuncId} {o : Oper} {Hm : Nat → AO} (h : stepE T Ca fid tv Hm nid o k = some r) : ∃ v u, k v u = some r ∧ ∀ {H : Nat → AO}, Msk Hm H → ∀ {β : Type} (k' : AV → List (Nat × AO) → Option β), stepE T Ca fid tv H nid o k' = k' v u := by
  obtain ⟨dst, op, type, pos, after, guard⟩ := o
  cases op <;> try (simp [stepE] at h; done)
  case move x => exact ⟨_, _, h, fun hm _ k' => rfl⟩
  case assign x => exact ⟨_, _, h, fun hm _ k' => rfl⟩
  case pick c x y =>
    simp only [stepE] at h
    obtain ⟨b, h1, h2, h3⟩ := testC_spec h
    cases b with
    | true => exact ⟨_, _, h2, fun hm _ k' => by simp only [stepE]; rw [h3]; rfl⟩
    | false => exact ⟨_, _, h2, fun hm _ k' => by simp only [stepE]; rw [h3]; rfl⟩
  case alloc t =>
    simp only [stepE] at h
    split at h <;> try (cases h; done)
    rename_i e1
    exact ⟨_, _, h, fun hm _ k' => by simp only [stepE, e1]⟩
  case box t x =>
    simp only [stepE] at h
    split at h <;> try (cases h; done)
    rename_i e1
    exact ⟨_, _, h, fun hm _ k' => by simp only [stepE, e1]⟩
  case build t ps =>
    simp only [stepE] at h
    split at h <;> try (cases h; done)
    · rename_i e1
      split at h <;> try (cases h; done)
      rename_i e2
      split at h <;> try (cases h; done)
      rename_i e3
      exact ⟨_, _, h, fun hm _ k' => by simp only [stepE, e1, e2, e3]⟩
    · rename_i e1
      split at h <;> try (cases h; done)
      rename_i e2
      split at h <;> try (cases h; done)
      rename_i e3
      exact ⟨_, _, h, fun hm _ k' => by simp only [stepE, e1, e2, e3]⟩
  case buildSlice t len ps =>
    simp only [stepE] at h
    split at h <;> try (cases h; done)
    rename_i e1
    split at h
    · rename_i e2
      split at h <;> try (cases h; done)
      rename_i e3 e4
      exact ⟨_, _, h, fun hm _ k' => by simp only [stepE, e1, if_pos e2, e3, e4]⟩
    · rename_i e2
      split at h <;> try (cases h; done)
      rename_i e3 e4
      split at h <;> try (cases h; done)
      rename_i e5
      split at h <;> try (cases h; done)
      rename_i e6
      split at h <;> try (cases h; done)
      rename_i e7
      exact ⟨_, _, h, fun hm _ k' => by simp only [stepE, e1, if_neg e2, e3, e4, if_pos e5, if_pos e6, newArr_mono hm e7]⟩
  case load t x =>
    simp only [stepE] at h
    split at h <;> try (cases h; done)
    rename_i e1 e2
    split at h <;> try (cases h; done)
    rename_i e3
    exact ⟨_, _, h, fun hm _ k' => by simp only [stepE, e1, cellsAt_mono hm e2, if_pos e3]⟩
  case store t x y =>
    simp only [stepE] at h
    split at h <;> try (cases h; done)
    rename_i e1 e2
    split at h <;> try (cases h; done)
    rename_i e3
    split at h <;> try (cases h; done)
    · rename_i e4
      split at h <;> try (cases h; done)
      rename_i e5
      split at h <;> try (cases h; done)
      rename_i e6
      exact ⟨_, _, h, fun hm _ k' => by simp only [stepE, e1, e2, if_pos e3, e4, hm.box e5, if_pos e6]⟩
    · rename_i e4
      split at h <;> try (cases h; done)
      rename_i e5
      split at h <;> try (cases h; done)
      rename_i e6
      split at h
      case isFalse =>
        rename_i e7
        obtain ⟨v, u, h1, h2⟩ := fputC_spec h
        exact ⟨_, _, h1, fun hm _ k' => by simp only [stepE, e1, e2, if_pos e3, e4, hm.arr e5, if_pos e6, if_neg e7]; exact h2 k'⟩
      rename_i e7
      split at h
      case isFalse =>
        rename_i e8
        obtain ⟨v, u, h1, h2⟩ := fputC_spec h
        exact ⟨_, _, h1, fun hm _ k' => by simp only [stepE, e1, e2, if_pos e3, e4, hm.arr e5, if_pos e6, if_pos e7, if_neg e8]; exact h2 k'⟩
      rename_i e8
      split at h
      · rename_i e9
        split at h <;> try (cases h; done)
        rename_i e10
        exact ⟨_, _, h, fun hm _ k' => by simp only [stepE, e1, e2, if_pos e3, e4, hm.arr e5, if_pos e6, if_pos e7, if_pos e8, if_pos e9, e10]⟩
      · rename_i e9
        obtain ⟨v, u, h1, h2⟩ := wputC_spec h
        exact ⟨_, _, h1, fun hm _ k' => by simp only [stepE, e1, e2, if_pos e3, e4, hm.arr e5, if_pos e6, if_pos e7, if_pos e8, if_neg e9]; exact h2 hm k'⟩
    · rename_i e4
      obtain ⟨v, u, h1, h2⟩ := iputC_spec h
      exact ⟨_, _, h1, fun hm _ k' => by simp only [stepE, e1, e2, if_pos e3, e4]; exact h2 hm k'⟩
  case nilCheck x =>
    simp only [stepE] at h
    split at h <;> try (cases h; done)
    · rename_i e1
      split at h <;> try (cases h; done)
      rename_i e2
      exact ⟨_, _, h, fun hm _ k' => by simp only [stepE, e1, hm.box e2]⟩
    · rename_i e1
      exact ⟨_, _, h, fun hm _ k' => by simp only [stepE, e1]⟩
    · rename_i e1
      exact ⟨_, _, h, fun hm _ k' => by simp only [stepE, e1]⟩
  case binOp op t x y t2 =>
    simp only [stepE] at h
    split at h
    · rename_i e1 e2
      obtain ⟨v, h1, h2⟩ := binC_spec h
      exact ⟨_, _, h1, fun hm _ k' => by simp only [stepE, e1, e2]; exact h2 _⟩
    · rename_i e1 e2
      split at h <;> try (cases h; done)
      rename_i e3
      split at h <;> try (cases h; done)
      rename_i e4
      obtain ⟨v, h1, h2⟩ := binC_spec h
      exact ⟨_, _, h1, fun hm _ k' => by simp only [stepE, e1, e2, e3, if_pos e4]; exact h2 _⟩
    · rename_i n1 n2
      split at h <;> try (cases h; done)
      rotate_left
      · rename_i e3
        obtain ⟨v, h1, h2⟩ := nilC_spec h
        refine ⟨_, _, h1, fun hm _ k' => ?_⟩
        have h2' := h2 hm (fun v => k' v [])
        revert n1 n2 h2'
        simp only [stepE]
        generalize opnd tv x = X
        generalize opnd tv y = Y
        intro n1 n2 h2'
        cases X <;> cases Y <;> first | exact absurd rfl (n1 _ _ _ _ rfl) | exact absurd rfl (n2 _ _ rfl) | (simp only [e3]; exact h2')
      rename_i e3
      obtain ⟨v, h1, h2⟩ := binB_spec h
      refine ⟨_, _, h1, fun hm _ k' => ?_⟩
      have h2' := h2 (fun v => k' v [])
      revert n1 n2 h2'
      simp only [stepE]
      generalize opnd tv x = X
      generalize opnd tv y = Y
      intro n1 n2 h2'
      cases X <;> cases Y <;> first | exact absurd rfl (n1 _ _ _ _ rfl) | exact absurd rfl (n2 _ _ rfl) | (simp only [e3]; exact h2')
  case unOp op t x =>
    simp only [stepE] at h
    split at h <;> try (cases h; done)
    all_goals
      rename_i e1
      exact ⟨_, _, h, fun hm _ k' => by simp only [stepE, e1]⟩
  case convert s t x =>
    simp only [stepE] at h
    split at h <;> try (cases h; done)
    rename_i e1 e2 e3
    exact ⟨_, _, h, fun hm _ k' => by simp only [stepE, e1, e2, e3]⟩
  case makeFunc f first caps =>
    cases f <;> try (simp [stepE] at h; done)
    simp only [stepE] at h
    split at h
    · rename_i e1
      exact ⟨_, _, h, fun hm _ k' => by simp only [stepE, if_pos e1]⟩
    · rename_i e1
      split at h <;> try (cases h; done)
      rename_i x e2 e3
      split at h <;> try (cases h; done)
      rename_i e4
      exact ⟨_, _, h, fun hm _ k' => by simp only [stepE, if_neg e1, e2, e3, e4]⟩
  case makeSlice t x y =>
    simp only [stepE] at h
    split at h <;> try (cases h; done)
    rename_i e1 e2 e3
    split at h <;> try (cases h; done)
    rename_i e4
    split at h <;> try (cases h; done)
    rename_i e5
    split at h <;> try (cases h; done)
    rename_i e6
    split at h <;> try (cases h; done)
    rename_i e7
    exact ⟨_, _, h, fun hm _ k' => by simp only [stepE, e1, e2, e3, if_pos e4, e5, if_pos e6, if_pos e7]⟩
  case slice t x lo hi m =>
    simp only [stepE] at h
    split at h <;> try (cases h; done)
    rotate_left
    · rename_i e1 e2
      split at h
      · obtain ⟨v, u, h1, h2⟩ := cutC_spec h
        exact ⟨_, _, h1, fun hm _ k' => by simp only [stepE, e1, e2]; exact h2 hm k'⟩
      · obtain ⟨v, u, h1, h2⟩ := letC_spec h
        exact ⟨_, _, h1, fun hm _ k' => by simp only [stepE, e1, e2]; exact h2 hm k'⟩
    rename_i e1 e2
    split at h <;> try (cases h; done)
    rename_i e3
    split at h <;> try (cases h; done)
    rename_i e4 e5 e6
    split at h <;> try (cases h; done)
    rename_i e7
    split at h <;> try (cases h; done)
    rename_i e8
    split at h <;> try (cases h; done)
    rename_i e9
    split at h <;> try (cases h; done)
    rename_i e10
    exact ⟨_, _, h, fun hm _ k' => by simp only [stepE, e1, e2, if_pos e3, e4, e5, e6, if_pos e7, if_pos e8, if_pos e9, if_pos e10]⟩
  case fieldAddr t x f =>
    simp only [stepE] at h
    split at h <;> try (cases h; done)
    rename_i e1
    split at h <;> try (cases h; done)
    rename_i e2
    split at h <;> try (cases h; done)
    rename_i e3
    split at h <;> try (cases h; done)
    rename_i e4
    split at h <;> try (cases h; done)
    · rename_i e5
      split at h <;> try (cases h; done)
      rename_i e6
      exact ⟨_, _, h, fun hm _ k' => by simp only [stepE, e1, e2, e3, if_pos e4, e5, hm.box e6]⟩
    · rename_i e5
      split at h <;> try (cases h; done)
      rename_i e6
      split at h <;> try (cases h; done)
      rename_i e7
      exact ⟨_, _, h, fun hm _ k' => by simp only [stepE, e1, e2, e3, if_pos e4, e5, hm.arr e6, if_pos e7]⟩
    · rename_i e5
      exact ⟨_, _, h, fun hm _ k' => by simp only [stepE, e1, e2, e3, if_pos e4, e5]⟩
  case field t x f =>
    simp only [stepE] at h
    split at h <;> try (cases h; done)
    rename_i e1 e2
    split at h <;> try (cases h; done)
    rename_i e3
    split at h <;> try (cases h; done)
    rename_i e4
    split at h <;> try (cases h; done)
    rename_i e5
    exact ⟨_, _, h, fun hm _ k' => by simp only [stepE, e1, e2, e3, e4, if_pos e5]⟩
  case indexAddr t x ix =>
    simp only [stepE] at h
    split at h <;> try (cases h; done)
    rotate_left
    · rename_i e1 e2
      split at h <;> try (cases h; done)
      rename_i e3
      obtain ⟨v, u, h1, h2⟩ := glbC_spec h
      exact ⟨_, _, h1, fun hm _ k' => by simp only [stepE, e1, e2, e3]; exact h2 k'⟩
    rename_i e1 e2
    split at h <;> try (cases h; done)
    rename_i e3
    split at h <;> try (cases h; done)
    · rename_i e4
      split at h <;> try (cases h; done)
      rename_i e5
      obtain ⟨h1, h2, h⟩ := inC_some h
      exact ⟨_, _, h, fun hm _ k' => by simp only [stepE, e1, e2, e3, e4, if_pos e5, inC, if_pos h1, if_pos h2]⟩
    · rename_i e4
      split at h <;> try (cases h; done)
      rename_i e5
      split at h <;> try (cases h; done)
      rename_i e6
      split at h <;> try (cases h; done)
      rename_i e7
      obtain ⟨h1, h2, h⟩ := inC_some h
      exact ⟨_, _, h, fun hm _ k' => by simp only [stepE, e1, e2, e3, e4, hm.arr e5, if_pos e6, if_pos e7, inC, if_pos h1, if_pos h2]⟩
    · rename_i e4
      obtain ⟨v, u, h1, h2⟩ := islC_spec h
      exact ⟨_, _, h1, fun hm _ k' => by simp only [stepE, e1, e2, e3, e4]; exact h2 hm k'⟩
  case index t x ix =>
    simp only [stepE] at h
    split at h <;> try (cases h; done)
    rotate_left
    · rename_i e1 e2 e3
      obtain ⟨h1, h2, h⟩ := inC_some h
      exact ⟨_, _, h, fun hm _ k' => by simp only [stepE, e1, e2, e3, inC, if_pos h1, if_pos h2]⟩
    rename_i e1 e2 e3
    split at h <;> try (cases h; done)
    rename_i e4
    split at h <;> try (cases h; done)
    rename_i e5
    split at h <;> try (cases h; done)
    rename_i e6
    obtain ⟨h1, h2, h⟩ := inC_some h
    exact ⟨_, _, h, fun hm _ k' => by simp only [stepE, e1, e2, e3, e4, e5, if_pos e6, inC, if_pos h1, if_pos h2]⟩
  case extract x i =>
    simp only [stepE] at h
    split at h <;> try (cases h; done)
    rename_i e1
    split at h <;> try (cases h; done)
    rename_i e2
    exact ⟨_, _, h, fun hm _ k' => by simp only [stepE, e1, e2]⟩
  case call c =>
    simp only [stepE] at h
    split at h <;> try (cases h; done)
    · rename_i hc
      split at h <;> try (cases h; done)
      rename_i e1 e2
      split at h <;> try (cases h; done)
      rename_i e3
      obtain ⟨v, h1, h2⟩ := lenC_spec h
      exact ⟨_, _, h1, fun hm _ k' => by simp only [stepE, hc, e1, e2, e3]; exact h2 hm _⟩
    · rename_i hc
      split at h <;> try (cases h; done)
      rename_i e1 e2
      split at h <;> try (cases h; done)
      rename_i e3
      obtain ⟨v, u, h1, h2⟩ := appendC_spec h
      exact ⟨_, _, h1, fun hm _ k' => by simp only [stepE, hc, e1, e2, e3]; exact h2 hm k'⟩
    · rename_i hc
      split at h <;> try (cases h; done)
      rename_i e1
      exact ⟨_, _, h, fun hm _ k' => by simp only [stepE, hc, e1]⟩
    · rename_i hc
      split at h <;> try (cases h; done)
      rename_i e1
      exact ⟨_, _, h, fun hm _ k' => by simp only [stepE, hc, e1]⟩
    · rename_i f hc
      split at h <;> try (cases h; done)
      rename_i e1
      split at h <;> try (cases h; done)
      rename_i e2
      split at h <;> try (cases h; done)
      rename_i e3
      obtain ⟨v, u, h1, h2⟩ := pureC_spec h
      exact ⟨_, _, h1, fun hm _ k' => by simp only [stepE, hc, e1]; rw [if_neg e2, if_neg e3]; exact h2 hm k'⟩
end
end Go.Proofs.YthanbjnpfenniaaDoor.Fw

namespace Go.Proofs.YthanbjnpfenniaaDoor.Fw
open Go Go.RowKit
set_option linter.unusedVariables false
set_option linter.unusedSimpArgs false

/-! ### states -/
structure Sim (base : Nat) (C : Cx) (σ : St) (a : Act) : Prop where
  good : Good base C
  low : base ≤ C.w.heap.size
  H : C.H = look σ.H
  len : σ.t.length = a.tmps.size
  tm : Tmps C (tvOf σ) a
  df : a.defers = []
theorem look_setAt : ∀ (H : List AO) (o : Nat) (x : AO), look (setAt H o x) = upd (look H) o x := by
  intro H
  induction H with
  | nil =>
    intro o
    induction o with
    | zero => intro x; funext p; cases p <;> simp [setAt, look, upd]
    | succ o ih =>
      intro x; funext p
      have := congrFun (ih x)
      cases p with
      | zero => simp [setAt, look, upd]
      | succ p => have h := this p; simp [setAt, look, upd] at h ⊢; exact h
  | cons y r ih =>
    intro o x
    cases o with
    | zero => funext p; cases p <;> simp [setAt, look, upd]
    | succ o =>
      funext p
      have := congrFun (ih o x)
      cases p with
      | zero => simp [setAt, look, upd]
      | succ p => have h := this p; simp [setAt, look, upd] at h ⊢; exact h
theorem look_applyU : ∀ (u : List (Nat × AO)) (H : List AO), look (applyU u H) = updU u (look H)
  | [], H => rfl
  | (o, x) :: u, H => by simp only [applyU, updU]; rw [look_applyU u, look_setAt]
theorem look_hole {H : List AO} {o : Nat} (h : H.length ≤ o) : look H o = .hole := by
  simp only [look, List.getD_eq_getElem?_getD, List.getElem?_eq_none h, Option.getD_none]
theorem tvOf_put {t : List AV} {dst : Option Tmp} {v : AV} {H H' : List AO} {a : Act} {val : Value} {C' : Cx} (hl : t.length = a.tmps.size) (hm : ∀ i, RelA C' (tvOf ⟨t, H⟩ i) (a.tmps.getD i undef)) (hv : RelA C' v val) : Tmps C' (tvOf ⟨putT t dst v, H'⟩) (a.put dst val) := by
  intro i
  cases dst with
  | none => exact hm i
  | some d =>
    simp only [tvOf, putT, Act.put]
    have h1 := setT_get t d v i
    by_cases hi : i = d ∧ d < t.length
    · rw [if_pos hi] at h1
      simp only [List.getD_eq_getElem?_getD, h1, Option.getD_some]
      obtain ⟨rfl, hi⟩ := hi
      have hlt : i < a.tmps.size := by rw [← hl]; exact hi
      simp only [Array.getD_eq_getD_getElem?, Array.getElem?_setIfInBounds, if_pos]
      rw [if_pos hlt]
      simpa using hv
    · rw [if_neg hi] at h1
      have := hm i
      simp only [tvOf, List.getD_eq_getElem?_getD] at this
      simp only [List.getD_eq_getElem?_getD, h1]
      simp only [Array.getD_eq_getD_getElem?, Array.getElem?_setIfInBounds] at this ⊢
      by_cases hd : d = i
      · rw [if_pos hd]
        subst hd
        have hn : ¬ d < a.tmps.size := by intro h; exact hi ⟨rfl, by rw [hl]; exact h⟩
        rw [if_neg hn]
        rw [Array.getElem?_eq_none (Nat.le_of_not_lt hn)] at this
        exact this
      · rw [if_neg hd]; exact this
theorem putT_len (t : List AV) (dst : Option Tmp) (v : AV) : (putT t dst v).length = t.length := by
  cases dst with
  | none => rfl
  | some d => exact setT_len t d v
theorem put_size (a : Act) (dst : Option Tmp) (v : Value) : (a.put dst v).tmps.size = a.tmps.size := by
  cases dst <;> simp [Act.put]
theorem put_defers (a : Act) (dst : Option Tmp) (v : Value) : (a.put dst v).defers = a.defers := by
  cases dst <;> rfl
/-- Behind an operation. -/
theorem Sim.step {base : Nat} {C C' : Cx} {σ : St} {a : Act} (h : Sim base C σ a) {u : List (Nat × AO)} {v : AV} {val : Value} {dst : Option Tmp} (hg : Good base C') (hto : To base C C') (hH : C'.H = updU u C.H) (hv : RelA C' v val) :
    Sim base C' ⟨putT σ.t dst v, applyU u σ.H⟩ (a.put dst val) where
  good := hg
  low := Nat.le_trans h.low hto.size
  H := by rw [look_applyU, hH, h.H]
  len := by rw [put_size, putT_len, h.len]
  tm := tvOf_put (H := σ.H) h.len (fun i => (h.tm i).mono hto.ext) hv
  df := by rw [put_defers]; exact h.df
/-- A temporary is told better. -/
theorem Sim.tell {base : Nat} {C : Cx} {σ : St} {a : Act} (h : Sim base C σ a) {i : Tmp} {v : AV} (hv : RelA C v (a.tmps.getD i undef)) : Sim base C ⟨setT σ.t i v, σ.H⟩ a where
  good := h.good
  low := h.low
  H := h.H
  len := by rw [setT_len]; exact h.len
  tm := by
    intro j
    have h1 := setT_get σ.t i v j
    by_cases hj : j = i ∧ i < σ.t.length
    · rw [if_pos hj] at h1
      simp only [tvOf, List.getD_eq_getElem?_getD, h1, Option.getD_some]
      obtain ⟨rfl, _⟩ := hj
      simpa [List.getD_eq_getElem?_getD] using hv
    · rw [if_neg hj] at h1
      have := h.tm j
      simp only [tvOf, List.getD_eq_getElem?_getD] at this ⊢
      rw [h1]; exact this
  df := h.df

/-! ### other words for what boxes hold -/
theorem redo_ext {C : Cx} {H2 : Nat → AO} (h : ∀ o, (∃ l l', C.H o = .box l ∧ H2 o = .box l') ∨ H2 o = C.H o) : Ext C { C with H := H2 } where
  F _ h := h
  G _ h := h
  heap _ _ := rfl
  obj o := by
    rcases h o with ⟨l, l', h1, h2⟩ | h1
    · simp only [ObjExt, h1, h2]
    · exact ObjExt.same h1 rfl fun _ _ => rfl
theorem redo_good {base : Nat} {C : Cx} (hg : Good base C) {H2 : Nat → AO} (h : ∀ o, (∃ l l', C.H o = .box l ∧ H2 o = .box l' ∧ ∀ (cs : Array Value) (tid : TypeId), C.w.heap[C.blk o]? = some (.cells cs tid (0, 0)) → RelL C l' cs.toList) ∨ H2 o = C.H o) : Good base { C with H := H2 } := by
  have hx : Ext C { C with H := H2 } := redo_ext fun o => (h o).imp (fun ⟨l, l', h1, h2, _⟩ => ⟨l, l', h1, h2⟩) id
  have hb : ∀ o, blks { C with H := H2 } o = blks C o := by
    intro o
    rcases h o with ⟨l, l', h1, h2, _⟩ | h1
    · simp only [blks, h1, h2]
    · simp only [blks, h1]
  refine ⟨fun o => ?_, fun o b hb' => ?_, fun o => ?_, fun o p b hop h1 h2 => ?_, hg.fz, hg.gz, hg.gl⟩
  · rcases h o with ⟨l, l', h1, h2, h3⟩ | h1
    · show ObjOk _ o (H2 o)
      rw [h2]
      have := hg.ob o
      rw [h1] at this
      simp only [ObjOk] at this ⊢
      obtain ⟨cs, tid, a1, a2, a3⟩ := this
      exact ⟨cs, tid, a1, a2, (h3 cs tid a1).mono hx⟩
    · show ObjOk _ o (H2 o)
      rw [h1]
      exact (hg.ob o).same hx rfl rfl rfl fun _ _ => rfl
  · rw [hb] at hb'; exact hg.low o b hb'
  · rw [hb]; exact hg.nd o
  · rw [hb] at h1 h2; exact hg.dj o p b hop h1 h2

/-! ### letting go ahead of a call -/
theorem mapA_rel {C C' : Cx} (hx : Ext C C') {f : AV → AV} (hf : ∀ x v, RelA C x v → RelA C' (f x) v) : ∀ (d : Nat) {x : AV} {v : Value}, RelA C x v → RelA C' (mapA f d x) v := by
  intro d
  induction d with
  | zero =>
    intro x v h
    cases x <;> simp only [mapA] <;> first | exact hf _ _ h | simp only [RelA]
  | succ d ih =>
    have sub : ∀ {l : List AV} {vs : List Value}, RelL C l vs → RelL C' (l.map (mapA f d)) vs := by
      intro l
      induction l with
      | nil => intro vs h; simpa [RelL] using h
      | cons x r ihr =>
        intro vs h
        simp only [RelL, List.map_cons] at h ⊢
        obtain ⟨v, vr, rfl, h1, h2⟩ := h
        exact ⟨v, vr, rfl, ih h1, ihr h2⟩
    intro x v h
    cases x <;> simp only [mapA] <;> try exact hf _ _ h
    · simp only [RelA] at h ⊢
      obtain ⟨vs, h1, h2, h3⟩ := h
      exact ⟨vs, h1, h2, sub h3⟩
    · simp only [RelA] at h ⊢
      obtain ⟨vs, h1, h3⟩ := h
      exact ⟨vs, h1, sub h3⟩
    · simp only [RelA] at h ⊢
      obtain ⟨vs, h1, h3⟩ := h
      exact ⟨vs, h1, sub h3⟩
theorem mapL_rel {C C' : Cx} {g : AV → AV} (hg : ∀ x v, RelA C x v → RelA C' (g x) v) : ∀ {l : List AV} {vs : List Value}, RelL C l vs → RelL C' (l.map g) vs
  | [], vs, h => by simpa [RelL] using h
  | x :: r, vs, h => by
    simp only [RelL, List.map_cons] at h ⊢
    obtain ⟨v, vr, rfl, h1, h2⟩ := h
    exact ⟨v, vr, rfl, hg _ _ h1, mapL_rel hg h2⟩
theorem frzO_get (H : Nat → AO) (ids : List Nat) : ∀ (l : List AO) (i k : Nat), (frzO H ids i l)[k]? = (l[k]?).map fun x => match x with
    | .arr t l ver dp => if ids.contains (i + k) = true then .dead else .arr t l ver dp
    | .box cells => .box (cells.map (mapA (frzA H ids) depth))
    | x => x
  | [], i, k => by simp [frzO]
  | x :: r, i, 0 => by simp only [frzO, List.getElem?_cons_zero, Option.map_some, Nat.add_zero]; cases x <;> rfl
  | x :: r, i, k + 1 => by
    simp only [frzO, List.getElem?_cons_succ]
    rw [frzO_get H ids r (i + 1) k, show i + 1 + k = i + (k + 1) by omega]
theorem Sim.freeze {base : Nat} {C : Cx} {σ : St} {a : Act} (h : Sim base C σ a) (ids : List Nat) : ∃ C', C'.w = C.w ∧ To base C C' ∧ Sim base C' (Fw.freeze ids σ) a ∧ C'.w.heap = C.w.heap := by
  have hg := h.good
  -- the arrays alone are let go
  let ids' := ids.filter fun o => match C.H o with | .arr _ _ _ _ => true | _ => false
  let C1 := C.give ids'
  have g1 : Good base C1 := Good.give hg ids'
  have e1 : Ext C C1 := Ext.give hg ids'
  have hin : ∀ o, ids'.contains o = true ↔ ids.contains o = true ∧ ∃ t l ver dp, C.H o = .arr t l ver dp := by
    intro o
    simp only [ids', List.contains_iff_mem, List.mem_filter]
    constructor
    · rintro ⟨h1, h2⟩
      refine ⟨h1, ?_⟩
      split at h2
      · rename_i t l ver dp hH; exact ⟨t, l, ver, dp, hH⟩
      · cases h2
    · rintro ⟨h1, t, l, ver, dp, h2⟩
      exact ⟨h1, by rw [h2]⟩
  have hf : ∀ x v, RelA C x v → RelA C1 (frzA C.H ids x) v := by
    intro x v hr
    cases x <;> simp only [frzA] <;> try exact hr.mono e1
    · rename_i o ver
      split
      · rename_i hc
        split <;> try (simp only [RelA]; done)
        rename_i t l cur dp hH
        split <;> try (simp only [RelA]; done)
        rename_i hv
        subst hv
        simp only [RelA] at hr ⊢
        refine arr_D hg hH hr (fun b hb => .inl hb) fun b hb => .inr ⟨o, ?_, hb⟩
        simpa using (hin o).2 ⟨hc, _, _, _, _, hH⟩
      · exact hr.mono e1
    all_goals
      split
      · simp only [RelA]
      · exact hr.mono e1
  have hm : ∀ x v, RelA C x v → RelA C1 (mapA (frzA C.H ids) depth x) v := fun x v => mapA_rel e1 hf depth
  have hH2 : ∀ o, look (frzO (look σ.H) ids 0 σ.H) o = match C.H o with
      | .arr t l ver dp => if ids.contains o = true then .dead else .arr t l ver dp
      | .box cells => .box (cells.map (mapA (frzA C.H ids) depth))
      | x => x := by
    intro o
    rw [h.H]
    simp only [look, List.getD_eq_getElem?_getD, frzO_get, Nat.zero_add]
    cases σ.H[o]? <;> rfl
  have hc1 : ∀ o, C1.H o = match C.H o with
      | .arr t l ver dp => if ids.contains o = true then .dead else .arr t l ver dp
      | x => x := by
    intro o
    show (C.drop ids').H o = _
    simp only [Cx.drop]
    by_cases hc : ids'.contains o = true
    · rw [if_pos hc]
      obtain ⟨h1, t, l, ver, dp, h2⟩ := (hin o).1 hc
      simp only [h2, if_pos h1]
    · rw [if_neg hc]
      cases h2 : C.H o <;> try rfl
      have : ¬ ids.contains o = true := fun h1 => hc ((hin o).2 ⟨h1, _, _, _, _, h2⟩)
      simp only [if_neg this]
  have hred : ∀ o, (∃ l l', C1.H o = .box l ∧ look (frzO (look σ.H) ids 0 σ.H) o = .box l' ∧ ∀ (cs : Array Value) (tid : TypeId), C1.w.heap[C1.blk o]? = some (.cells cs tid (0, 0)) → RelL C1 l' cs.toList) ∨ look (frzO (look σ.H) ids 0 σ.H) o = C1.H o := by
    intro o
    rw [hH2, hc1]
    cases hH : C.H o <;> try (exact .inr rfl)
    rename_i cells
    refine .inl ⟨_, _, rfl, rfl, fun cs tid hcs => ?_⟩
    have := hg.ob o
    rw [hH] at this
    simp only [ObjOk] at this
    obtain ⟨cs', tid', a1, a2, a3⟩ := this
    have hcs' : C.w.heap[C.blk o]? = some (.cells cs tid (0, 0)) := hcs
    rw [a1] at hcs'
    cases hcs'
    exact mapL_rel hm a3
  have e2 : Ext C1 { C1 with H := look (frzO (look σ.H) ids 0 σ.H) } := redo_ext fun o => (hred o).imp (fun ⟨l, l', h1, h2, _⟩ => ⟨l, l', h1, h2⟩) id
  refine ⟨{ C1 with H := look (frzO (look σ.H) ids 0 σ.H) }, rfl, ⟨Ext.trans (base := base) e1 e2, Nat.le_refl _, Below.refl _ _, fun b hb => ?_, fun _ h => h⟩, ⟨redo_good g1 hred, h.low, rfl, ?_, ?_, h.df⟩, rfl⟩
  · rcases hb with hb | ⟨o, _, hb⟩
    · exact .inl hb
    · exact .inr (hg.low o b hb).1
  · simp only [Fw.freeze, List.length_map]; exact h.len
  · intro i
    have := (hm _ _ (h.tm i)).mono e2
    have hti : tvOf (Fw.freeze ids σ) i = mapA (frzA C.H ids) depth (tvOf σ i) := by
      rw [h.H]
      simp only [Fw.freeze, tvOf, List.getD_eq_getElem?_getD, List.getElem?_map]
      cases σ.t[i]? <;> rfl
    rw [hti]; exact this
end Go.Proofs.YthanbjnpfenniaaDoor.Fw

namespace Go.Proofs.YthanbjnpfenniaaDoor.Fw
open Go Go.RowKit
set_option linter.unusedVariables false
set_option linter.unusedSimpArgs false

/-- What is asked of a function that works on its caller's objects. -/
def ThrOk (P : Program) (f : FuncId) (args : List AV) (H : List AO) {α : Type} (k : AV → List AO → Option α) (r : α) : Prop :=
  ∀ (base : Nat) (C : Cx) (vals : List Value), Good base C → base ≤ C.w.heap.size → C.H = look H → RelL C args vals →
    Entered P f vals.toArray C.w fun v w' => ∃ x H' C', k x H' = some r ∧ C'.w = w' ∧ Good base C' ∧ To base C C' ∧ C'.H = look H' ∧ RelA C' x v
structure CaOk (P : Program) (T : Tb) (C : Ca T) : Prop where
  pure : ∀ f args d, C.pure f args = some d → PureOk P T f args d
  thr : ∀ {α : Type} f args H (k : AV → List AO → Option α) r, C.thr f args H k = some r → ThrOk P f args H k r

section
variable {P : Program} {T : Tb} {α : Type} {base : Nat} {next : Act → World → Prop} {Q : Exit → Act → World → Prop} {r : α}
theorem Sim.holes {base : Nat} {C : Cx} {σ : St} {a : Act} (h : Sim base C σ a) (j : Nat) : C.H (σ.H.length + j) = .hole := by
  rw [h.H]; exact look_hole (by omega)
theorem preS_sim {C : Cx} {σ : St} {a : Act} (h : Sim base C σ a) (o : Oper) : ∃ C', C'.w = C.w ∧ To base C C' ∧ Sim base C' (preS T o σ) a := by
  have same : ∃ C', C'.w = C.w ∧ To base C C' ∧ Sim base C' σ a := ⟨C, rfl, To.refl base C, h⟩
  unfold preS
  repeat' (first | exact same | split)
  rename_i ids
  obtain ⟨C', h1, h2, h3, _⟩ := h.freeze _
  exact ⟨C', h1, h2, h3⟩
theorem stepC_sound (hT : TbOk P T) {Ca : Ca T} (hC : CaOk P T Ca) {fid : FuncId} {o : Oper} {σ : St} {a : Act} {C : Cx} {k : St → Option α} (hs : Sim base C σ a)
    (hk : ∀ ρ C' val, k ρ = some r → Sim base C' ρ (a.put o.dst val) → To base C C' → next (a.put o.dst val) C'.w) (h : stepC T Ca fid o σ k = some r) : o.wp P a C.w next Q := by
  unfold stepC at h
  split at h
  · rename_i g args ht
    unfold thrC at ht
    obtain ⟨dst, op, type, pos, after, guard⟩ := o
    split at ht <;> try (cases ht; done)
    rename_i c hop
    simp only at hop
    subst hop
    split at ht <;> try (cases ht; done)
    rename_i f hc
    split at ht <;> try (cases ht; done)
    · rename_i g' caps e
      split at ht <;> try (cases ht; done)
      cases ht
      have hf := opnd_rel hs.tm f
      rw [e] at hf
      simp only [RelA] at hf
      obtain ⟨vs, hv, hcaps⟩ := hf
      obtain ⟨h1, h2⟩ := hC.thr _ _ _ _ _ h base C _ hs.good hs.low hs.H ((opnds_rel hs.tm c.args.toList).append hcaps)
      unfold Oper.wp
      have hrun : (execOp a.eval (Oper.mk dst (.call c) type pos after guard)).run P C.w = .ok (.enter g ((c.args.toList.map a.eval) ++ vs).toArray) C.w := by
        have : (c.args.map a.eval ++ vs.toArray) = ((c.args.toList.map a.eval) ++ vs).toArray := by
          apply Array.toList_inj.1; simp
        simp only [execOp, resolve, hc, hv, Deferred.ofValue, invoke]
        simp [this, h1]
      rw [hrun, Oper.upon_enter]
      refine h2.mono fun e w' he => ?_
      obtain ⟨v, rfl, x, H', C', hkx, rfl, h3, h4, h5, h6⟩ := he
      refine hk _ C' v hkx ?_ h4
      exact { good := h3, low := Nat.le_trans hs.low h4.size, H := h5, len := by rw [put_size, putT_len]; exact hs.len,
              tm := tvOf_put (H := σ.H) hs.len (fun i => (hs.tm i).mono h4.ext) h6, df := by rw [put_defers]; exact hs.df }
    · rename_i g' p off e
      split at ht <;> try (cases ht; done)
      cases ht
      have hf := opnd_rel hs.tm f
      rw [e] at hf
      simp only [RelA] at hf
      obtain ⟨pv, hv, hp⟩ := hf
      have hl : RelL C (.bptr p off :: c.args.toList.map (opnd (tvOf σ))) (pv :: c.args.toList.map a.eval) := by
        simp only [RelL]
        exact ⟨_, _, rfl, by simpa only [RelA] using hp, opnds_rel hs.tm c.args.toList⟩
      obtain ⟨h1, h2⟩ := hC.thr _ _ _ _ _ h base C _ hs.good hs.low hs.H hl
      unfold Oper.wp
      have hrun : (execOp a.eval (Oper.mk dst (.call c) type pos after guard)).run P C.w = .ok (.enter g (pv :: c.args.toList.map a.eval).toArray) C.w := by
        have : (#[pv] ++ c.args.map a.eval) = (pv :: c.args.toList.map a.eval).toArray := by
          apply Array.toList_inj.1; simp
        simp only [execOp, resolve, hc, hv, Deferred.ofValue, invoke]
        simp [this, h1]
      rw [hrun, Oper.upon_enter]
      refine h2.mono fun e w' he => ?_
      obtain ⟨v, rfl, x, H', C', hkx, rfl, h3, h4, h5, h6⟩ := he
      refine hk _ C' v hkx ?_ h4
      exact { good := h3, low := Nat.le_trans hs.low h4.size, H := h5, len := by rw [put_size, putT_len]; exact hs.len,
              tm := tvOf_put (H := σ.H) hs.len (fun i => (hs.tm i).mono h4.ext) h6, df := by rw [put_defers]; exact hs.df }
  · obtain ⟨C1, h1, h2, h3⟩ := preS_sim (T := T) hs o
    rw [← h1]
    have hh := h3.H
    simp only at h
    rw [← hh] at h
    refine step_sound hT hC.pure h3.good h3.low (fun j _ => h3.holes j) h3.tm (fun v u hvu => ?_) h
    intro C' val g1 g2 g3 g4
    exact hk _ C' val hvu (h3.step g1 g2 g3 g4) (h2.trans g2)

theorem yielded_of {ops : Array Oper} {a : Act} {j : Nat} {g : Tmp} {b : Bool} (hd : dstOf ops.toList j = some g) (hv : a.tmps.getD g undef = .bool b) : yielded ops a.tmps j = some b := by
  unfold dstOf at hd
  rw [Array.getElem?_toList] at hd
  unfold yielded
  rw [hd, Option.bind_some]
  rw [Array.getD_eq_getD_getElem?] at hv
  cases h : a.tmps[g]? with
  | none => rw [h] at hv; simp [undef] at hv
  | some v => rw [h] at hv; simp at hv; subst hv; rfl
theorem wp_want {ops : Array Oper} {i : Nat} {o : Oper} {rest : List Nat} {a : Act} {w : World} (hi : ops[i]? = some o) (hw : Region.wanted o (yielded ops a.tmps) = true) (h : o.wp P a w (wpOps P ops Q rest) Q) : wpOps P ops Q (i :: rest) a w := by
  unfold wpOps; simp only [hi, hw, if_true]; exact .inl h
theorem wp_pass {ops : Array Oper} {i : Nat} {o : Oper} {rest : List Nat} {a : Act} {w : World} (hi : ops[i]? = some o) (hw : Region.wanted o (yielded ops a.tmps) = false) (h : wpOps P ops Q rest (a.put o.dst undef) w) : wpOps P ops Q (i :: rest) a w := by
  rw [wpOps]; simp only [hi, hw]; exact h
theorem Sim.pass {C : Cx} {σ : St} {a : Act} (h : Sim base C σ a) (dst : Option Tmp) : Sim base C ⟨putT σ.t dst (.tup []), σ.H⟩ (a.put dst undef) :=
  h.step (u := []) h.good (To.refl base C) rfl (by simp only [RelA]; exact ⟨[], rfl, by simp [RelL]⟩)
theorem yielded_undef {ops : Array Oper} {a : Act} {j : Nat} {g : Tmp} {C : Cx} {l : List AV} (hd : dstOf ops.toList j = some g) (hv : RelA C (.tup l) (a.tmps.getD g undef)) : yielded ops a.tmps j = none := by
  simp only [RelA] at hv
  obtain ⟨vs, hv, _⟩ := hv
  unfold dstOf at hd
  rw [Array.getElem?_toList] at hd
  unfold yielded
  rw [hd, Option.bind_some]
  rw [Array.getD_eq_getD_getElem?] at hv
  cases h : a.tmps[g]? with
  | none => rfl
  | some v => rw [h] at hv; simp at hv; subst hv; rfl
theorem testG_some {α : Type} {r : α} {c : AV} {w : Bool} {x y : Bool → Option α} {z : Option α} (h : testG c w x y z = some r) : (∃ l, c = .tup l ∧ z = some r) ∨ ∃ b, testC c (if w = true then x true else y true) (if w = true then y false else x false) = some r ∧ boolOf c = some b ∧ (if (b == w) = true then x b else y b) = some r := by
  unfold testG at h
  split at h
  · exact .inl ⟨_, rfl, h⟩
  · obtain ⟨b, h1, h2, _⟩ := testC_spec h
    refine .inr ⟨b, h, h1, ?_⟩
    cases b <;> cases w <;> simpa using h2

theorem execOps_sound (hT : TbOk P T) {Ca : Ca T} (hC : CaOk P T Ca) {fid : FuncId} {ops : Array Oper} {k : St → Option α} : ∀ (rest : List Oper) (i : Nat) {σ : St} {a : Act} {C : Cx}, ops.toList.drop i = rest → Sim base C σ a →
    (∀ ρ a' C', k ρ = some r → Sim base C' ρ a' → To base C C' → Q .normal a' C'.w) → execOps T Ca fid ops.toList rest σ k = some r → wpOps P ops Q (List.range' i rest.length) a C.w
  | [], i, σ, a, C, _, hs, hk, h => by
    simp only [execOps] at h
    exact hk _ _ _ h hs (To.refl base C)
  | o :: rest, i, σ, a, C, hd, hs, hk, h => by
    have hi : ops[i]? = some o := by
      have : (ops.toList.drop i)[0]? = some o := by rw [hd]; rfl
      rw [List.getElem?_drop] at this
      simpa using this
    have hd' : ops.toList.drop (i + 1) = rest := by
      rw [← List.drop_drop, hd]; rfl
    have go : ∀ {σ : St}, Sim base C σ a → Region.wanted o (yielded ops a.tmps) = true → stepC T Ca fid o σ (fun ρ => execOps T Ca fid ops.toList rest ρ k) = some r → wpOps P ops Q (List.range' i (o :: rest).length) a C.w := by
      intro σ hs hw h
      rw [List.length_cons, List.range'_succ]
      refine wp_want hi hw (stepC_sound hT hC hs (fun ρ C' val h1 h2 h3 => ?_) h)
      exact execOps_sound hT hC rest (i + 1) hd' h2 (fun ρ a' C'' g1 g2 g3 => hk ρ a' C'' g1 g2 (h3.trans g3)) h1
    have stay : ∀ {σ : St}, Sim base C σ a → Region.wanted o (yielded ops a.tmps) = false → execOps T Ca fid ops.toList rest ⟨putT σ.t o.dst (.tup []), σ.H⟩ k = some r → wpOps P ops Q (List.range' i (o :: rest).length) a C.w := by
      intro σ hs hw h
      rw [List.length_cons, List.range'_succ]
      refine wp_pass hi hw ?_
      exact execOps_sound hT hC rest (i + 1) hd' (hs.pass o.dst) hk h
    simp only [execOps] at h
    split at h
    · rename_i hgd
      exact go hs (by simp [Region.wanted, hgd]) h
    · rename_i j w hgd
      split at h <;> try (cases h; done)
      rename_i g hg
      rcases testG_some h with ⟨l, hl, h⟩ | ⟨b, _, hb, h⟩
      · have hv := hs.tm g
        rw [hl] at hv
        exact stay hs (by simp [Region.wanted, hgd, yielded_undef hg hv]) h
      · have hv := boolOf_rel (hs.tm g) hb
        have hy := yielded_of hg hv
        have hw : Region.wanted o (yielded ops a.tmps) = (b == w) := by simp [Region.wanted, hgd, hy]
        have hs' : Sim base C ⟨setT σ.t g (.bool b), σ.H⟩ a := hs.tell (by rw [hv]; simp only [RelA])
        cases hbw : (b == w) with
        | true => rw [hbw] at h hw; exact go hs' hw (by simpa using h)
        | false => rw [hbw] at h hw; exact stay hs' hw (by simpa using h)
end
end Go.Proofs.YthanbjnpfenniaaDoor.Fw

namespace Go.Proofs.YthanbjnpfenniaaDoor.Fw
open Go Go.RowKit
set_option linter.unusedVariables false
set_option linter.unusedSimpArgs false

/-- What was told of one operation. -/
structure Eff where
  σ : St
  rc : Rec
  v : AV
  u : List (Nat × AO)
  go : Bool
def effOf (e : Eff) (σ : St) : St := ⟨putT σ.t e.rc.dst e.v, applyU e.u σ.H⟩
/-- The state behind those that are done, in the order of the text. -/
def stD (D : Nat → Bool) : Nat → List Eff → St → St
  | _, [], σ => σ
  | k, e :: r, σ => stD D (k + 1) r (if D k = true then effOf e σ else σ)
structure EffOk (T : Tb) (Ca : Ca T) (fid : FuncId) (all : List Oper) (an : List (List Nat)) (N0 : Nat) (pre : List Rec) (o : Oper) (e : Eff) : Prop where
  dst : e.rc.dst = o.dst
  cnt : e.rc.cnt = newCnt T fid o
  wr : e.rc.wr = e.u.map (·.1)
  mu : e.rc.mu = muOf e.rc.nid e.rc.cnt e.u
  keys : keysOk N0 e.rc.nid e.rc.cnt (visIn (an.getD pre.length []) pre) e.u = true
  gd : (o.guard = none ∧ e.go = true) ∨ (∃ j w g b, o.guard = some (j, w) ∧ dstOf all j = some g ∧ e.rc.reads.contains g = true ∧ boolOf (tvOf e.σ g) = some b ∧ e.go = (b == w)) ∨ ∃ j w g l, o.guard = some (j, w) ∧ dstOf all j = some g ∧ e.rc.reads.contains g = true ∧ tvOf e.σ g = .tup l ∧ e.go = false
  run : e.go = true → ∀ {H : Nat → AO}, Msk (maskH (look e.σ.H) N0 e.rc.nid e.rc.cnt (visIn (an.getD pre.length []) pre) e.rc.tc) H → ∀ {β : Type} (k' : AV → List (Nat × AO) → Option β), stepE T Ca fid (tvM e.rc.reads (tvOf e.σ)) H e.rc.nid o k' = k' e.v e.u
  idle : e.go = false → e.v = .tup [] ∧ e.u = []

/-- What was told of a part of a region. -/
inductive Told (T : Tb) (Ca : Ca T) (fid : FuncId) (all : List Oper) (an : List (List Nat)) (N0 : Nat) : List Rec → Nat → St → List Oper → List Eff → St → List Rec → Prop
  | nil (rs : List Rec) (nid : Nat) (σ : St) : Told T Ca fid all an N0 rs nid σ [] [] σ rs
  | cons {rs : List Rec} {nid : Nat} {σ : St} {o : Oper} {r : List Oper} {e : Eff} {es : List Eff} {ρ : St} {rs' : List Rec} : e.σ = σ → e.rc.nid = nid → EffOk T Ca fid all an N0 rs o e →
      Told T Ca fid all an N0 (rs ++ [e.rc]) (nid + newCnt T fid o) (effOf e σ) r es ρ rs' → Told T Ca fid all an N0 rs nid σ (o :: r) (e :: es) ρ rs'

section
variable {P : Program} {T : Tb} {α : Type} {r : α}
theorem boolOf_beq (b w : Bool) : True := trivial
theorem drawStep_told {Ca : Ca T} {fid : FuncId} {all : List Oper} {an : List (List Nat)} {N0 : Nat} {o : Oper} {g : List Tmp} {σ : St} {nid : Nat} {rs : List Rec} {k : St → Rec → Option α} (h : drawStep T Ca fid an N0 o g σ nid rs k = some r)
    (hg : (o.guard = none ∧ g = []) ∨ ∃ j w t b, o.guard = some (j, w) ∧ dstOf all j = some t ∧ g = [t] ∧ boolOf (tvOf σ t) = some b ∧ (b == w) = true) :
    ∃ e, e.σ = σ ∧ e.rc.nid = nid ∧ EffOk T Ca fid all an N0 rs o e ∧ k (effOf e σ) e.rc = some r := by
  unfold drawStep at h
  obtain ⟨v, u, h1, h2⟩ := step_spec h
  split at h1 <;> try (cases h1; done)
  rename_i hk
  refine ⟨⟨σ, ⟨o.dst, readsOf o g, u.map (fun q : Nat × AO => q.1), muOf nid (newCnt T fid o) u, tchOf (tvM (readsOf o g) (tvOf σ)) o, nid, newCnt T fid o⟩, v, u, true⟩, rfl, rfl, ?_, h1⟩
  refine ⟨rfl, rfl, rfl, rfl, hk, ?_, fun _ {H} hm {β} k' => h2 hm k', fun h => by cases h⟩
  rcases hg with ⟨h3, h4⟩ | ⟨j, w, t, b, h3, h4, h5, h6, h7⟩
  · exact .inl ⟨h3, rfl⟩
  · exact .inr (.inl ⟨j, w, t, b, h3, h4, by simp [readsOf, h5], h6, h7.symm⟩)
def KnOk (σ : St) (kn : List (Tmp × Bool)) : Prop := ∀ q, q ∈ kn → boolOf (tvOf σ q.1) = some q.2
theorem knOf_ok {σ : St} : ∀ {kn : List (Tmp × Bool)} {g : Tmp} {b : Bool}, KnOk σ kn → knOf kn g = some b → boolOf (tvOf σ g) = some b
  | [], _, _, _, h => by cases h
  | q :: r, g, b, hk, h => by
    simp only [knOf] at h
    split at h
    · rename_i e
      have : q.1 = g := Nat.eq_of_beq_eq_true e
      have h1 := hk q (by simp)
      cases h
      rw [← this]; exact h1
    · exact knOf_ok (fun q hq => hk q (List.mem_cons_of_mem _ hq)) h
theorem knCut_mem : ∀ {d : Tmp} {kn : List (Tmp × Bool)} {q : Tmp × Bool}, q ∈ knCut (some d) kn → q ∈ kn ∧ q.1 ≠ d
  | d, [], q, h => by simp [knCut] at h
  | d, p :: r, q, h => by
    simp only [knCut] at h
    split at h
    · have := knCut_mem h
      exact ⟨List.mem_cons_of_mem _ this.1, this.2⟩
    · rename_i e
      rcases List.mem_cons.1 h with h | h
      · subst h
        refine ⟨by simp, fun e2 => ?_⟩
        rw [e2] at e
        rw [Nat.beq_refl] at e; cases e
      · have := knCut_mem h
        exact ⟨List.mem_cons_of_mem _ this.1, this.2⟩
theorem KnOk.put {σ : St} {kn : List (Tmp × Bool)} (h : KnOk σ kn) (dst : Option Tmp) (v : AV) (H' : List AO) : KnOk ⟨putT σ.t dst v, H'⟩ (knCut dst kn) := by
  cases dst with
  | none =>
    intro q hq
    exact h q (by cases kn <;> exact hq)
  | some d =>
    intro q hq
    obtain ⟨h1, h2⟩ := knCut_mem hq
    have h3 := h q h1
    have h4 := setT_get σ.t d v q.1
    have h5 : tvOf ⟨putT σ.t (some d) v, H'⟩ q.1 = tvOf σ q.1 := by
      simp only [tvOf, putT, List.getD_eq_getElem?_getD, h4]
      rw [if_neg (fun e => h2 e.1)]
    rw [h5]; exact h3
theorem execDraw_told {Ca : Ca T} {fid : FuncId} {all : List Oper} {an : List (List Nat)} {N0 : Nat} {k : St → Option α} : ∀ (rest : List Oper) {σ : St} {nid : Nat} {rs : List Rec} {kn : List (Tmp × Bool)}, KnOk σ kn → execDraw T Ca fid all an N0 rest σ nid rs kn k = some r →
    ∃ es ρ rs', Told T Ca fid all an N0 rs nid σ rest es ρ rs' ∧ k ρ = some r ∧ allPairs an rs' all.length = true ∧ backOk all 0 = true
  | [], σ, nid, rs, kn, hkn, h => by
    simp only [execDraw] at h
    split at h <;> try (cases h; done)
    rename_i h1
    rw [Bool.and_eq_true] at h1
    exact ⟨[], σ, rs, .nil _ _ _, h, h1.1, h1.2⟩
  | o :: rest, σ, nid, rs, kn, hkn, h => by
    have go : ∀ {g : List Tmp} {kn : List (Tmp × Bool)}, KnOk σ kn → ((o.guard = none ∧ g = []) ∨ ∃ j w t b, o.guard = some (j, w) ∧ dstOf all j = some t ∧ g = [t] ∧ boolOf (tvOf σ t) = some b ∧ (b == w) = true) →
        drawStep T Ca fid an N0 o g σ nid rs (fun ρ rc => execDraw T Ca fid all an N0 rest ρ (nid + newCnt T fid o) (rs ++ [rc]) (knCut o.dst kn) k) = some r →
        ∃ es ρ rs', Told T Ca fid all an N0 rs nid σ (o :: rest) es ρ rs' ∧ k ρ = some r ∧ allPairs an rs' all.length = true ∧ backOk all 0 = true := by
      intro g kn hkn hg h
      obtain ⟨e, h1, h2, h3, h4⟩ := drawStep_told h hg
      obtain ⟨es, ρ, rs', h5, h6⟩ := execDraw_told rest (by unfold effOf; rw [h3.dst]; exact hkn.put _ _ _) h4
      exact ⟨e :: es, ρ, rs', .cons h1 h2 h3 h5, h6⟩
    have stay : ∀ {j : Nat} {w : Bool} {t : Tmp} {kn : List (Tmp × Bool)}, KnOk σ kn → o.guard = some (j, w) → dstOf all j = some t → ((∃ b, boolOf (tvOf σ t) = some b ∧ (b == w) = false) ∨ ∃ l, tvOf σ t = .tup l) →
        execDraw T Ca fid all an N0 rest ⟨putT σ.t o.dst (.tup []), σ.H⟩ (nid + newCnt T fid o) (rs ++ [⟨o.dst, [t], [], false, .none, nid, newCnt T fid o⟩]) (knCut o.dst kn) k = some r →
        ∃ es ρ rs', Told T Ca fid all an N0 rs nid σ (o :: rest) es ρ rs' ∧ k ρ = some r ∧ allPairs an rs' all.length = true ∧ backOk all 0 = true := by
      intro j w t kn hkn h1 h2 h3 h
      obtain ⟨es, ρ, rs', h5, h6⟩ := execDraw_told rest (hkn.put _ _ _) h
      refine ⟨⟨σ, ⟨o.dst, [t], [], false, .none, nid, newCnt T fid o⟩, .tup [], [], false⟩ :: es, ρ, rs', .cons rfl rfl ?_ h5, h6⟩
      refine ⟨rfl, rfl, rfl, by simp [muOf], by simp [keysOk], .inr ?_, fun h => (by cases h), fun _ => ⟨rfl, rfl⟩⟩
      rcases h3 with ⟨b, h3, h4⟩ | ⟨l, h3⟩
      · exact .inl ⟨j, w, t, b, h1, h2, by simp, h3, h4.symm⟩
      · exact .inr ⟨j, w, t, l, h1, h2, by simp, h3, rfl⟩
    have cons : ∀ {t : Tmp} {b : Bool}, boolOf (tvOf σ t) = some b → KnOk σ ((t, b) :: kn) := by
      intro t b hb q hq
      rcases List.mem_cons.1 hq with hq | hq
      · subst hq; exact hb
      · exact hkn q hq
    simp only [execDraw] at h
    split at h
    · rename_i hgd
      exact go hkn (.inl ⟨hgd, rfl⟩) h
    · rename_i j w hgd
      split at h <;> try (cases h; done)
      rename_i t ht
      split at h
      · rename_i b hb
        have hb' := knOf_ok hkn hb
        split at h
        · rename_i hbw
          exact go hkn (.inr ⟨j, w, t, b, hgd, ht, rfl, hb', hbw⟩) h
        · rename_i hbw
          exact stay hkn hgd ht (.inl ⟨b, hb', hbw⟩) h
      · rcases testG_some h with ⟨l, hl, h⟩ | ⟨b, _, hb, h⟩
        · exact stay hkn hgd ht (.inr ⟨l, hl⟩) h
        · cases hbw : (b == w) with
          | true => rw [hbw] at h; exact go (cons hb) (.inr ⟨j, w, t, b, hgd, ht, rfl, hb, hbw⟩) (by simpa using h)
          | false => rw [hbw] at h; exact stay (cons hb) hgd ht (.inl ⟨b, hb, hbw⟩) (by simpa using h)
end

/-! ### the told list, place by place -/
theorem stD_append (D : Nat → Bool) : ∀ (xs : List Eff) (k : Nat) (ys : List Eff) (σ : St), stD D k (xs ++ ys) σ = stD D (k + xs.length) ys (stD D k xs σ)
  | [], k, ys, σ => rfl
  | x :: r, k, ys, σ => by
    simp only [List.cons_append, stD]
    rw [stD_append D r, List.length_cons, show k + 1 + r.length = k + (r.length + 1) by omega]
structure ToldAt (T : Tb) (Ca : Ca T) (fid : FuncId) (all : List Oper) (an : List (List Nat)) (N0 : Nat) (es : List Eff) (σ0 : St) (j : Nat) (o : Oper) (e : Eff) : Prop where
  ok : EffOk T Ca fid all an N0 ((es.take j).map (·.rc)) o e
  st : e.σ = stD (fun k => decide (k < j)) 0 es σ0
theorem stD_all {D : Nat → Bool} : ∀ {es : List Eff} {k : Nat} {σ : St}, (∀ i, i < es.length → D (k + i) = true) → stD D k es σ = es.foldl (fun σ e => effOf e σ) σ
  | [], k, σ, _ => rfl
  | e :: r, k, σ, h => by
    have h0 := h 0 (by simp)
    simp only [Nat.add_zero] at h0
    simp only [stD, List.foldl_cons, h0, if_true]
    exact stD_all fun i hi => by have := h (i + 1) (by simpa using hi); rwa [show k + (i + 1) = k + 1 + i by omega] at this
theorem stD_none {D : Nat → Bool} : ∀ {es : List Eff} {k : Nat} {σ : St}, (∀ i, i < es.length → D (k + i) = false) → stD D k es σ = σ
  | [], k, σ, _ => rfl
  | e :: r, k, σ, h => by
    have h0 := h 0 (by simp)
    simp only [Nat.add_zero] at h0
    simp only [stD, h0]
    exact stD_none fun i hi => by have := h (i + 1) (by simpa using hi); rwa [show k + (i + 1) = k + 1 + i by omega] at this
theorem stD_congr {D D' : Nat → Bool} : ∀ {es : List Eff} {k : Nat} {σ : St}, (∀ i, i < es.length → D (k + i) = D' (k + i)) → stD D k es σ = stD D' k es σ
  | [], k, σ, _ => rfl
  | e :: r, k, σ, h => by
    have h0 := h 0 (by simp)
    simp only [Nat.add_zero] at h0
    simp only [stD, h0]
    exact stD_congr fun i hi => by have := h (i + 1) (by simpa using hi); rwa [show k + (i + 1) = k + 1 + i by omega] at this
theorem stD_below {es : List Eff} {σ : St} {j : Nat} (hj : j ≤ es.length) : stD (fun k => decide (k < j)) 0 es σ = (es.take j).foldl (fun σ e => effOf e σ) σ := by
  conv => lhs; rw [← List.take_append_drop j es]
  rw [stD_append, stD_none, stD_all]
  · intro i hi; simp at hi ⊢; omega
  · intro i hi; simp; omega

section
variable {T : Tb} {Ca : Ca T} {fid : FuncId} {all : List Oper} {an : List (List Nat)} {N0 : Nat}
theorem Told.facts : ∀ {rs : List Rec} {nid : Nat} {σ : St} {ops : List Oper} {es : List Eff} {ρ : St} {rs' : List Rec}, Told T Ca fid all an N0 rs nid σ ops es ρ rs' →
    es.length = ops.length ∧ rs' = rs ++ es.map (·.rc) ∧ ρ = es.foldl (fun σ e => effOf e σ) σ ∧
    (∀ (j : Nat) (e : Eff), es[j]? = some e → ∃ o, ops[j]? = some o ∧ EffOk T Ca fid all an N0 (rs ++ (es.take j).map (·.rc)) o e ∧ e.σ = (es.take j).foldl (fun σ e => effOf e σ) σ ∧ nid ≤ e.rc.nid) ∧
    (∀ (i j : Nat) (e f : Eff), i < j → es[i]? = some e → es[j]? = some f → e.rc.nid + e.rc.cnt ≤ f.rc.nid) := by
  intro rs nid σ ops es ρ rs' h
  induction h with
  | nil rs nid σ => exact ⟨rfl, by simp, rfl, fun j e h => by simp at h, fun i j e f _ h => by simp at h⟩
  | @cons rs nid σ o r e es ρ rs' h1 h2 h3 h4 ih =>
    obtain ⟨i1, i2, i3, i4, i5⟩ := ih
    refine ⟨by simp [i1], by rw [i2]; simp, i3, fun j x hx => ?_, fun i j x y hij hx hy => ?_⟩
    · cases j with
      | zero =>
        simp at hx; subst hx
        exact ⟨o, rfl, by simpa using h3, by simpa using h1, by omega⟩
      | succ j =>
        simp only [List.getElem?_cons_succ] at hx
        obtain ⟨o', a1, a2, a3, a4⟩ := i4 j x hx
        exact ⟨o', by simpa using a1, by simpa using a2, by simpa using a3, by omega⟩
    · cases j with
      | zero => omega
      | succ j =>
        simp only [List.getElem?_cons_succ] at hy
        cases i with
        | zero =>
          simp at hx; subst hx
          obtain ⟨o', a1, a2, a3, a4⟩ := i4 j y hy
          rw [h3.cnt, h2]; exact a4
        | succ i => exact i5 i j x y (by omega) (by simpa using hx) hy
end
end Go.Proofs.YthanbjnpfenniaaDoor.Fw

namespace Go.Proofs.YthanbjnpfenniaaDoor.Fw
open Go Go.RowKit
set_option linter.unusedVariables false
set_option linter.unusedSimpArgs false

/-! ### a place alone -/
theorem tvOf_putT (σ : St) (H' : List AO) (dst : Option Tmp) (v : AV) (i : Nat) : tvOf ⟨putT σ.t dst v, H'⟩ i = if dst = some i ∧ i < σ.t.length then v else tvOf σ i := by
  cases dst with
  | none => simp [tvOf, putT]
  | some d =>
    have := setT_get σ.t d v i
    simp only [tvOf, putT, List.getD_eq_getElem?_getD, this, Option.some.injEq]
    by_cases h : i = d
    · subst h
      by_cases h2 : i < σ.t.length
      · simp [h2]
      · simp [h2]
    · rw [if_neg (fun e => h e.1), if_neg (fun e => h e.1.symm)]
theorem eff_t (e : Eff) (σ : St) (i : Nat) : tvOf (effOf e σ) i = if e.rc.dst = some i ∧ i < σ.t.length then e.v else tvOf σ i := tvOf_putT σ _ _ _ i
theorem eff_len (e : Eff) (σ : St) : (effOf e σ).t.length = σ.t.length := putT_len _ _ _
theorem updU_at : ∀ (u : List (Nat × AO)) (H H' : Nat → AO) (p : Nat), H p = H' p → updU u H p = updU u H' p
  | [], H, H', p, h => h
  | (o, x) :: u, H, H', p, h => updU_at u _ _ p (by simp only [upd]; split; rfl; exact h)
theorem updU_out : ∀ (u : List (Nat × AO)) (H : Nat → AO) (p : Nat), p ∉ u.map (·.1) → updU u H p = H p
  | [], H, p, _ => rfl
  | (o, x) :: u, H, p, h => by
    simp only [List.map_cons, List.mem_cons, not_or] at h
    rw [updU, updU_out u _ p h.2, upd_ne _ _ h.1]
theorem updU_in : ∀ (u : List (Nat × AO)) (H H' : Nat → AO) (p : Nat), p ∈ u.map (·.1) → updU u H p = updU u H' p
  | [], H, H', p, h => by simp at h
  | (o, x) :: u, H, H', p, h => by
    by_cases hp : p ∈ u.map (·.1)
    · exact updU_in u _ _ p hp
    · simp only [List.map_cons, List.mem_cons] at h
      rcases h with h | h
      · subst h
        exact updU_at u _ _ p (by simp)
      · exact absurd h hp
theorem eff_H (e : Eff) (σ : St) : look (effOf e σ).H = updU e.u (look σ.H) := look_applyU _ _
theorem stD_len {D : Nat → Bool} : ∀ (es : List Eff) (k : Nat) (σ : St), (stD D k es σ).t.length = σ.t.length
  | [], k, σ => rfl
  | e :: r, k, σ => by
    simp only [stD]
    rw [stD_len r]
    split
    · exact eff_len e σ
    · rfl
theorem stD_t {D D' : Nat → Bool} {i : Nat} : ∀ {es : List Eff} {k : Nat} {σ σ' : St}, (∀ j e, es[j]? = some e → e.rc.dst = some i → D (k + j) = D' (k + j)) → tvOf σ i = tvOf σ' i → σ.t.length = σ'.t.length → tvOf (stD D k es σ) i = tvOf (stD D' k es σ') i
  | [], k, σ, σ', _, h, _ => h
  | e :: r, k, σ, σ', h, hv, hl => by
    simp only [stD]
    refine stD_t (fun j f hj hf => ?_) ?_ ?_
    · have := h (j + 1) f (by simpa using hj) hf
      rwa [show k + (j + 1) = k + 1 + j by omega] at this
    · by_cases hd : e.rc.dst = some i
      · have h0 := h 0 e rfl hd
        simp only [Nat.add_zero] at h0
        rw [h0]
        split
        · rw [eff_t, eff_t, hl, hv]
        · exact hv
      · have key : ∀ (b : Bool) (τ : St), tvOf (if b = true then effOf e τ else τ) i = tvOf τ i := by
          intro b τ
          split
          · rw [eff_t, if_neg (fun x => hd x.1)]
          · rfl
        rw [key, key]; exact hv
    · have key : ∀ (b : Bool) (τ : St), (if b = true then effOf e τ else τ).t.length = τ.t.length := by
        intro b τ
        split
        · exact eff_len e τ
        · rfl
      rw [key, key]; exact hl
theorem stD_H {D D' : Nat → Bool} {p : Nat} : ∀ {es : List Eff} {k : Nat} {σ σ' : St}, (∀ j e, es[j]? = some e → p ∈ e.u.map (·.1) → D (k + j) = D' (k + j)) → look σ.H p = look σ'.H p → look (stD D k es σ).H p = look (stD D' k es σ').H p
  | [], k, σ, σ', _, h => h
  | e :: r, k, σ, σ', h, hv => by
    simp only [stD]
    refine stD_H (fun j f hj hf => ?_) ?_
    · have := h (j + 1) f (by simpa using hj) hf
      rwa [show k + (j + 1) = k + 1 + j by omega] at this
    · by_cases hd : p ∈ e.u.map (·.1)
      · have h0 := h 0 e rfl hd
        simp only [Nat.add_zero] at h0
        rw [h0]
        split
        · rw [eff_H, eff_H]; exact updU_at _ _ _ _ hv
        · exact hv
      · have key : ∀ (b : Bool) (τ : St), look (if b = true then effOf e τ else τ).H p = look τ.H p := by
          intro b τ
          split
          · rw [eff_H, updU_out _ _ _ hd]
          · rfl
        rw [key, key]; exact hv
/-- One more is done. -/
theorem stD_put {D : Nat → Bool} {es : List Eff} {j : Nat} {e : Eff} {σ : St} (hj : es[j]? = some e) (hD : D j = false)
    (ht : ∀ k f, j < k → D k = true → es[k]? = some f → ∀ i, e.rc.dst = some i → f.rc.dst ≠ some i)
    (hH : ∀ k f, j < k → D k = true → es[k]? = some f → ∀ p, p ∈ e.u.map (·.1) → p ∉ f.u.map (·.1)) :
    (∀ i, tvOf (stD (fun k => D k || k == j) 0 es σ) i = tvOf (effOf e (stD D 0 es σ)) i) ∧ (∀ p, look (stD (fun k => D k || k == j) 0 es σ).H p = look (effOf e (stD D 0 es σ)).H p) := by
  have hjl : j < es.length := (List.getElem?_eq_some_iff.1 hj).1
  have hsplit : es = es.take j ++ e :: es.drop (j + 1) := by
    conv => lhs; rw [← List.take_append_drop j es]
    rw [List.drop_eq_getElem_cons hjl, (List.getElem?_eq_some_iff.1 hj).2]
  have hlen : (es.take j).length = j := by simp; omega
  let A := stD D 0 (es.take j) σ
  have h1 : stD D 0 es σ = stD D (j + 1) (es.drop (j + 1)) A := by
    conv => lhs; rw [hsplit]
    rw [stD_append, hlen, Nat.zero_add]
    simp only [stD, hD]
    rfl
  have h2 : stD (fun k => D k || k == j) 0 es σ = stD (fun k => D k || k == j) (j + 1) (es.drop (j + 1)) (effOf e A) := by
    conv => lhs; rw [hsplit]
    rw [stD_append, hlen, Nat.zero_add]
    have ha : stD (fun k => D k || k == j) 0 (es.take j) σ = A := stD_congr fun i hi => by
      rw [hlen] at hi
      have : (0 + i == j) = false := by simp; omega
      rw [this, Bool.or_false]
    rw [ha]
    simp only [stD, hD, beq_self_eq_true, Bool.or_true, if_true]
  have hrest : ∀ (k : Nat) (f : Eff), (es.drop (j + 1))[k]? = some f → es[j + 1 + k]? = some f := fun k f h => by rw [List.getElem?_drop] at h; exact h
  have hDD : ∀ k, (D (j + 1 + k) || (j + 1 + k == j)) = D (j + 1 + k) := fun k => by
    have : (j + 1 + k == j) = false := by simp; omega
    rw [this, Bool.or_false]
  refine ⟨fun i => ?_, fun p => ?_⟩
  · rw [h1, h2, eff_t, stD_len]
    by_cases hd : e.rc.dst = some i ∧ i < A.t.length
    · rw [if_pos hd]
      have : tvOf (stD (fun k => D k || k == j) (j + 1) (es.drop (j + 1)) (effOf e A)) i = tvOf (stD (fun _ => false) (j + 1) (es.drop (j + 1)) (effOf e A)) i := by
        refine stD_t (fun k f hk hf => ?_) rfl rfl
        simp only [hDD]
        cases hDk : D (j + 1 + k) with
        | false => rfl
        | true => exact absurd hf (ht _ f (by omega) hDk (hrest k f hk) i hd.1)
      rw [this, stD_none (fun _ _ => rfl), eff_t, if_pos hd]
    · rw [if_neg hd]
      refine stD_t (fun k f hk hf => hDD k) ?_ (eff_len e A)
      rw [eff_t, if_neg hd]
  · rw [h1, h2, eff_H]
    by_cases hp : p ∈ e.u.map (·.1)
    · have : look (stD (fun k => D k || k == j) (j + 1) (es.drop (j + 1)) (effOf e A)).H p = look (stD (fun _ => false) (j + 1) (es.drop (j + 1)) (effOf e A)).H p := by
        refine stD_H (fun k f hk hf => ?_) rfl
        simp only [hDD]
        cases hDk : D (j + 1 + k) with
        | false => rfl
        | true => exact absurd hf (hH _ f (by omega) hDk (hrest k f hk) p hp)
      rw [this, stD_none (fun _ _ => rfl), eff_H]
      exact updU_in _ _ _ _ hp
    · rw [updU_out _ _ _ hp]
      refine stD_H (fun k f hk hf => hDD k) ?_
      rw [eff_H, updU_out _ _ _ hp]

/-! ### what waits for what -/
theorem ancs_len : ∀ (ops : List Oper) (acc : List (List Nat)), (ancs ops acc).length = acc.length + ops.length
  | [], acc => rfl
  | o :: r, acc => by rw [ancs, ancs_len r]; simp; omega
theorem ancs_pre : ∀ (ops : List Oper) (acc : List (List Nat)) (j : Nat), j < acc.length → (ancs ops acc).getD j [] = acc.getD j []
  | [], acc, j, _ => rfl
  | o :: r, acc, j, h => by
    rw [ancs, ancs_pre r _ j (by simp; omega)]
    simp only [List.getD_eq_getElem?_getD, List.getElem?_append_left h]
theorem ancs_get : ∀ (ops : List Oper) (acc : List (List Nat)) (j : Nat) (o : Oper), ops[j]? = some o → ∀ i ∈ (ancs ops acc).getD (acc.length + j) [], i ∈ edgesOf o ∨ ∃ e ∈ edgesOf o, e < acc.length + j ∧ i ∈ (ancs ops acc).getD e []
  | [], acc, j, o, h => by simp at h
  | o' :: r, acc, 0, o, h => by
    simp at h; subst h
    intro i hi
    rw [ancs] at hi ⊢
    rw [ancs_pre r _ _ (by simp)] at hi
    simp only [Nat.add_zero, List.getD_eq_getElem?_getD, List.getElem?_append_right (Nat.le_refl _), Nat.sub_self, List.getElem?_cons_zero, Option.getD_some, List.mem_append, List.mem_flatMap] at hi
    rcases hi with hi | ⟨e, he, hi⟩
    · exact .inl hi
    · have hel : e < acc.length := by
        rcases Nat.lt_or_ge e acc.length with h | h
        · exact h
        · rw [List.getElem?_eq_none h] at hi; simp at hi
      refine .inr ⟨e, he, by omega, ?_⟩
      rw [ancs_pre r _ _ (by simp; omega)]
      simp only [List.getD_eq_getElem?_getD, List.getElem?_append_left hel]
      exact hi
  | o' :: r, acc, j + 1, o, h => by
    intro i hi
    rw [ancs] at hi ⊢
    have := ancs_get r (acc ++ [edgesOf o' ++ (edgesOf o').flatMap fun e => acc.getD e []]) j o (by simpa using h) i
    simp only [List.length_append, List.length_cons, List.length_nil, Nat.zero_add] at this
    rw [show acc.length + 1 + j = acc.length + (j + 1) by omega] at this
    exact this hi
theorem backOk_get : ∀ {ops : List Oper} {n j : Nat} {o : Oper}, backOk ops n = true → ops[j]? = some o → ∀ e ∈ edgesOf o, e < n + j
  | [], n, j, o, _, h => by simp at h
  | o' :: r, n, 0, o, hb, h => by
    simp at h; subst h
    simp only [backOk, Bool.and_eq_true, List.all_eq_true] at hb
    intro e he
    have := hb.1 e he
    exact Nat.le_of_ble_eq_true this
  | o' :: r, n, j + 1, o, hb, h => by
    simp only [backOk, Bool.and_eq_true] at hb
    intro e he
    have := backOk_get hb.2 (j := j) (by simpa using h) e he
    omega
theorem ancs_lt {all : List Oper} (hb : backOk all 0 = true) : ∀ (j : Nat) (o : Oper), all[j]? = some o → ∀ i ∈ (ancs all []).getD j [], i < j := by
  intro j
  induction j using Nat.strongRecOn with
  | _ j ih =>
    intro o ho i hi
    have hi' := ancs_get all [] j o ho i (by simpa using hi)
    rcases hi' with h | ⟨e, he, hel, h⟩
    · have := backOk_get hb ho i h; omega
    · simp only [List.length_nil, Nat.zero_add] at hel
      obtain ⟨o', ho'⟩ : ∃ o', all[e]? = some o' := by
        have : j < all.length := (List.getElem?_eq_some_iff.1 ho).1
        exact ⟨_, List.getElem?_eq_getElem (by omega)⟩
      have := ih e hel o' ho' i h
      omega
theorem countF {p q : Nat → Bool} : ∀ {l : List Nat} {x : Nat}, (∀ y ∈ l, q y = true → p y = true) → x ∈ l → p x = true → q x = false → (l.filter q).length < (l.filter p).length
  | [], x, _, hx, _, _ => by cases hx
  | y :: l, x, h, hx, hp, hq => by
    have hle : ∀ {l : List Nat}, (∀ y ∈ l, q y = true → p y = true) → (l.filter q).length ≤ (l.filter p).length := by
      intro l
      induction l with
      | nil => intro _; exact Nat.le_refl _
      | cons z l ih =>
        intro h
        have hz := h z (by simp)
        have := ih fun y hy => h y (List.mem_cons_of_mem _ hy)
        simp only [List.filter_cons]
        cases hqz : q z <;> cases hpz : p z <;> simp <;> first | omega | (rw [hz hqz] at hpz; cases hpz)
    have hl := hle fun z hz => h z (List.mem_cons_of_mem _ hz)
    rcases List.mem_cons.1 hx with rfl | hx
    · simp only [List.filter_cons, hp, hq]
      simp; omega
    · have := countF (fun z hz => h z (List.mem_cons_of_mem _ hz)) hx hp hq
      have hy := h y (by simp)
      simp only [List.filter_cons]
      cases hqz : q y <;> cases hpz : p y <;> simp <;> first | omega | (rw [hy hqz] at hpz; cases hpz)
end Go.Proofs.YthanbjnpfenniaaDoor.Fw

namespace Go.Proofs.YthanbjnpfenniaaDoor.Fw
open Go Go.RowKit
set_option linter.unusedVariables false
set_option linter.unusedSimpArgs false

theorem inR_iff {n c p : Nat} : inR n c p = true ↔ n ≤ p ∧ p < n + c := by
  simp only [inR, Bool.and_eq_true, Nat.ble_eq, Nat.blt_eq]
section
variable {P : Program} {T : Tb} {α : Type} {base : Nat} {Q : Exit → Act → World → Prop} {r : α}
variable {Ca : Ca T} {fid : FuncId} {ops : Array Oper} {es : List Eff} {σ0 : St} {an : List (List Nat)}
/-- All that is known of a region. -/
structure Reg (T : Tb) (Ca : Fw.Ca T) (fid : FuncId) (ops : Array Oper) (es : List Eff) (σ0 : St) : Prop where
  len : es.length = ops.size
  at_ : ∀ (j : Nat) (e : Eff), es[j]? = some e → ∃ o, ops[j]? = some o ∧ EffOk T Ca fid ops.toList (ancs ops.toList []) σ0.H.length ((es.take j).map (·.rc)) o e ∧ e.σ = stD (fun k => decide (k < j)) 0 es σ0 ∧ σ0.H.length ≤ e.rc.nid
  dis : ∀ (i j : Nat) (e f : Eff), i < j → es[i]? = some e → es[j]? = some f → e.rc.nid + e.rc.cnt ≤ f.rc.nid
  pairs : ∀ (i j : Nat) (e f : Eff), i < j → es[i]? = some e → es[j]? = some f → i ∈ (ancs ops.toList []).getD j [] ∨ indep e.rc f.rc = true
  back : backOk ops.toList 0 = true

theorem Reg.own {j k : Nat} {e f : Eff} {p : Nat} (hR : Reg T Ca fid ops es σ0) (hj : es[j]? = some e) (hk : es[k]? = some f) (h1 : inR e.rc.nid e.rc.cnt p = true) (h2 : inR f.rc.nid f.rc.cnt p = true) : j = k := by
  rw [inR_iff] at h1 h2
  rcases Nat.lt_trichotomy j k with h | h | h
  · have := hR.dis j k e f h hj hk; omega
  · exact h
  · have := hR.dis k j f e h hk hj; omega
theorem Reg.vis {j : Nat} {p : Nat} {l : List Nat} (h : visIn l ((es.take j).map (·.rc)) p = true) : ∃ i f, i ∈ l ∧ es[i]? = some f ∧ inR f.rc.nid f.rc.cnt p = true := by
  unfold visIn at h
  obtain ⟨i, hi, h⟩ := List.any_eq_true.1 h
  split at h <;> try (cases h; done)
  rename_i rc hrc
  rw [List.getElem?_map] at hrc
  obtain ⟨f, hf, rfl⟩ := Option.map_eq_some_iff.1 hrc
  rw [List.getElem?_take] at hf
  split at hf <;> try (cases hf; done)
  exact ⟨i, f, hi, hf, h⟩
/-- The changed objects of a step: its own new ones, old ones, those of what it waits for. -/
theorem Reg.keys {j : Nat} {e : Eff} {p : Nat} (hR : Reg T Ca fid ops es σ0) (hj : es[j]? = some e) (hp : p ∈ e.u.map (·.1)) : inR e.rc.nid e.rc.cnt p = true ∨ p < σ0.H.length ∨ ∃ i f, i ∈ (ancs ops.toList []).getD j [] ∧ es[i]? = some f ∧ inR f.rc.nid f.rc.cnt p = true := by
  obtain ⟨o, _, hok, _, _⟩ := hR.at_ j e hj
  have hl : ((es.take j).map (·.rc)).length = j := by have := (List.getElem?_eq_some_iff.1 hj).1; simp; omega
  have hk := hok.keys
  rw [hl] at hk
  unfold keysOk at hk
  rw [List.all_eq_true] at hk
  obtain ⟨q, hq, rfl⟩ := List.mem_map.1 hp
  have := hk q hq
  rw [Bool.or_eq_true, Bool.or_eq_true] at this
  rcases this with h | h | h
  · exact .inl h
  · exact .inr (.inl (by simpa using h))
  · exact .inr (.inr (Reg.vis h))
theorem Reg.mu {j : Nat} {e : Eff} {p : Nat} (hR : Reg T Ca fid ops es σ0) (hj : es[j]? = some e) (hp : p ∈ e.u.map (·.1)) (hm : e.rc.mu = false) : inR e.rc.nid e.rc.cnt p = true := by
  obtain ⟨o, _, hok, _, _⟩ := hR.at_ j e hj
  rw [hok.mu] at hm
  simp only [muOf, Bool.not_eq_false', List.all_eq_true] at hm
  obtain ⟨q, hq, rfl⟩ := List.mem_map.1 hp
  exact hm q hq

/-- What is done, and all it waits for. -/
structure Done (ops : Array Oper) (D : Nat → Bool) : Prop where
  closed : ∀ k, D k = true → ∀ i ∈ (ancs ops.toList []).getD k [], D i = true
theorem indep_t1 {a b : Rec} {d : Tmp} (h : indep a b = true) (hd : a.dst = some d) : b.reads.contains d = false ∧ b.dst ≠ some d := by
  simp only [indep, Bool.and_eq_true, Bool.not_eq_true'] at h
  obtain ⟨⟨⟨⟨⟨h1, h2⟩, h3⟩, h4⟩, h5⟩, h6⟩ := h
  constructor
  · rw [hd] at h2; exact h2
  · intro e; rw [hd, e] at h1; simp [sameDst] at h1
theorem indep_t2 {a b : Rec} {d : Tmp} (h : indep a b = true) (hd : b.dst = some d) : a.reads.contains d = false := by
  simp only [indep, Bool.and_eq_true, Bool.not_eq_true'] at h
  obtain ⟨⟨⟨⟨⟨h1, h2⟩, h3⟩, h4⟩, h5⟩, h6⟩ := h
  rw [hd] at h3; exact h3
theorem indep_wr {a b : Rec} (h : indep a b = true) {p : Nat} (hp : p ∈ a.wr) : p ∉ b.wr := by
  simp only [indep, Bool.and_eq_true, Bool.not_eq_true'] at h
  obtain ⟨⟨⟨⟨⟨h1, h2⟩, h3⟩, h4⟩, h5⟩, h6⟩ := h
  simp only [disj, List.all_eq_true] at h4
  have := h4 p hp
  simpa using this
theorem indep_tc {a b : Rec} (h : indep a b = true) : tchOk a.tc b.wr b.mu = true ∧ tchOk b.tc a.wr a.mu = true := by
  simp only [indep, Bool.and_eq_true, Bool.not_eq_true'] at h
  obtain ⟨⟨⟨⟨⟨h1, h2⟩, h3⟩, h4⟩, h5⟩, h6⟩ := h
  exact ⟨h5, h6⟩
/-- What clashes with a step comes before it, in the text as in any order. -/
theorem Reg.ord {D : Nat → Bool} {j k : Nat} {e f : Eff} (hR : Reg T Ca fid ops es σ0) (hD : Done ops D) (hj : es[j]? = some e) (hk : es[k]? = some f) (hDj : D j = false) (hpre : ∀ i ∈ (ancs ops.toList []).getD j [], D i = true)
    (h1 : indep f.rc e.rc = true → False) (h2 : indep e.rc f.rc = true → False) : D k = decide (k < j) := by
  rcases Nat.lt_trichotomy k j with h | h | h
  · rw [decide_eq_true h]
    rcases hR.pairs k j f e h hk hj with h3 | h3
    · exact hpre k h3
    · exact (h1 h3).elim
  · subst h
    rw [hDj, decide_eq_false (Nat.lt_irrefl _)]
  · rw [decide_eq_false (by omega)]
    rcases hR.pairs j k e f h hj hk with h3 | h3
    · cases hDk : D k with
      | false => rfl
      | true => have := hD.closed k hDk j h3; rw [hDj] at this; cases this
    · exact (h2 h3).elim
theorem Reg.reads {D : Nat → Bool} {j : Nat} {e : Eff} (hR : Reg T Ca fid ops es σ0) (hD : Done ops D) (hj : es[j]? = some e) (hDj : D j = false) (hpre : ∀ i ∈ (ancs ops.toList []).getD j [], D i = true) {i : Tmp} (hi : e.rc.reads.contains i = true) :
    tvOf (stD D 0 es σ0) i = tvOf e.σ i := by
  obtain ⟨o, _, _, hσ, _⟩ := hR.at_ j e hj
  rw [hσ]
  refine stD_t (fun k f hk hf => ?_) rfl rfl
  simp only [Nat.zero_add]
  refine hR.ord hD hj hk hDj hpre (fun h => ?_) (fun h => ?_)
  · have := (indep_t1 h hf).1; rw [hi] at this; cases this
  · have := indep_t2 h hf; rw [hi] at this; cases this
theorem Reg.mask {D : Nat → Bool} {j : Nat} {e : Eff} (hR : Reg T Ca fid ops es σ0) (hD : Done ops D) (hj : es[j]? = some e) (hDj : D j = false) (hpre : ∀ i ∈ (ancs ops.toList []).getD j [], D i = true) :
    (∀ p, inR e.rc.nid e.rc.cnt p = true → look (stD D 0 es σ0).H p = .hole) ∧
    Msk (maskH (look e.σ.H) σ0.H.length e.rc.nid e.rc.cnt (visIn ((ancs ops.toList []).getD j []) ((es.take j).map (·.rc))) e.rc.tc) (look (stD D 0 es σ0).H) := by
  obtain ⟨o, ho, hok, hσ, hn⟩ := hR.at_ j e hj
  have hown : ∀ p, inR e.rc.nid e.rc.cnt p = true → look (stD D 0 es σ0).H p = .hole := by
    intro p hp
    have : look (stD D 0 es σ0).H p = look (stD (fun _ => false) 0 es σ0).H p := by
      refine stD_H (fun k f hk hf => ?_) rfl
      simp only [Nat.zero_add]
      rcases hR.keys hk hf with h | h | ⟨i, g, hi, hg, h⟩
      · rw [← hR.own hj hk hp h]; exact hDj
      · rw [inR_iff] at hp; omega
      · cases hDk : D k with
        | false => rfl
        | true =>
          have := hD.closed k hDk i hi
          rw [← hR.own hj hg hp h, hDj] at this
          cases this
    rw [this, stD_none (fun _ _ => rfl)]
    exact look_hole (by rw [inR_iff] at hp; omega)
  refine ⟨hown, fun p => ?_⟩
  unfold maskH
  split
  · rename_i hp
    exact .inl (hown p hp).symm
  · have same : (∀ (k : Nat) (f : Eff), es[k]? = some f → p ∈ f.u.map (·.1) → (indep f.rc e.rc = true → False) ∧ (indep e.rc f.rc = true → False)) → look e.σ.H p = look (stD D 0 es σ0).H p := by
      intro h
      rw [hσ]
      symm
      refine stD_H (fun k f hk hf => ?_) rfl
      simp only [Nat.zero_add]
      exact hR.ord hD hj hk hDj hpre (h k f hk hf).1 (h k f hk hf).2
    have wrp : ∀ (k : Nat) (f : Eff), es[k]? = some f → p ∈ f.u.map (·.1) → p ∈ f.rc.wr := by
      intro k f hk hf
      obtain ⟨_, _, hok', _, _⟩ := hR.at_ k f hk
      rw [hok'.wr]; exact hf
    split
    · exact .inr rfl
    · rename_i tc o' htc
      split
      · rename_i hp
        subst hp
        refine .inl (same fun k f hk hf => ⟨fun h => ?_, fun h => ?_⟩)
        · have := (indep_tc h).2
          rw [htc] at this
          simp only [tchOk, Bool.not_eq_true'] at this
          have := wrp k f hk hf
          simp_all
        · have := (indep_tc h).1
          rw [htc] at this
          simp only [tchOk, Bool.not_eq_true'] at this
          have := wrp k f hk hf
          simp_all
      · exact .inr rfl
    · rename_i htc
      have hnm : ∀ f : Eff, (indep f.rc e.rc = true ∨ indep e.rc f.rc = true) → f.rc.mu = false := by
        intro f h
        rcases h with h | h
        · have := (indep_tc h).2
          rw [htc] at this
          simpa [tchOk] using this
        · have := (indep_tc h).1
          rw [htc] at this
          simpa [tchOk] using this
      split
      · rename_i hp
        refine .inl (same fun k f hk hf => ?_)
        obtain ⟨_, _, _, _, hn'⟩ := hR.at_ k f hk
        refine ⟨fun h => ?_, fun h => ?_⟩
        · have := hR.mu hk hf (hnm f (.inl h)); rw [inR_iff] at this; omega
        · have := hR.mu hk hf (hnm f (.inr h)); rw [inR_iff] at this; omega
      · split
        · rename_i hv
          obtain ⟨i, g, hi, hg, hin⟩ := Reg.vis hv
          have hij : i < j := ancs_lt hR.back j o (by simpa using ho) i hi
          -- who changes p without clashing is i itself
          refine .inl ?_
          rw [hσ]
          symm
          refine stD_H (fun k f hk hf => ?_) rfl
          simp only [Nat.zero_add]
          have hki : f.rc.mu = false → k = i := fun hm => hR.own hk hg (hR.mu hk hf hm) hin
          by_cases hk1 : indep f.rc e.rc = true ∨ indep e.rc f.rc = true
          · have := hki (hnm f hk1)
            subst this
            rw [hpre k hi, decide_eq_true hij]
          · exact hR.ord hD hj hk hDj hpre (fun h => hk1 (.inl h)) (fun h => hk1 (.inr h))
        · exact .inr rfl
theorem Sim.congr {C : Cx} {σ ρ : St} {a : Act} (h : Sim base C σ a) (ht : ∀ i, tvOf ρ i = tvOf σ i) (hH : ∀ p, look ρ.H p = look σ.H p) (hl : ρ.t.length = σ.t.length) : Sim base C ρ a where
  good := h.good
  low := h.low
  H := by rw [h.H]; funext p; exact (hH p).symm
  len := by rw [hl]; exact h.len
  tm := fun i => by rw [ht]; exact h.tm i
  df := h.df

theorem draw_any (hT : TbOk P T) (hC : CaOk P T Ca) (hR : Reg T Ca fid ops es σ0) : ∀ (fuel : Nat) {listed : Array Bool} {D : Nat → Bool} {a : Act} {C : Cx}, Sim base C (stD D 0 es σ0) a → Done ops D → listed.size = ops.size → (∀ k, k < ops.size → listed.getD k true = D k ∧ listed.getD k false = D k) → (∀ k, D k = true → k < ops.size) →
    ((List.range ops.size).filter fun k => !D k).length ≤ fuel →
    (∀ a' C', Sim base C' (es.foldl (fun σ e => effOf e σ) σ0) a' → To base C C' → Q .normal a' C'.w) →
    wpAny P .any ops Q fuel listed a C.w := by
  have fin : ∀ {D : Nat → Bool} {a : Act} {C : Cx}, Sim base C (stD D 0 es σ0) a → (∀ k, k < ops.size → D k = true) → (∀ a' C', Sim base C' (es.foldl (fun σ e => effOf e σ) σ0) a' → To base C C' → Q .normal a' C'.w) → Q .normal a C.w := by
    intro D a C hs hall hk
    rw [stD_all (fun i hi => by rw [Nat.zero_add]; exact hall i (by rw [← hR.len]; exact hi))] at hs
    exact hk a C hs (To.refl base C)
  intro fuel
  induction fuel with
  | zero =>
    intro listed D a C hs hD hsz hl hlt hcnt hk
    have hall : ∀ k, k < ops.size → D k = true := by
      intro k hk
      have h0 : (List.range ops.size).filter (fun k => !D k) = [] := List.eq_nil_of_length_eq_zero (by omega)
      rw [List.filter_eq_nil_iff] at h0
      have := h0 k (List.mem_range.2 hk)
      simpa using this
    refine ⟨?_, fin hs hall hk⟩
    unfold Region.ready
    rw [List.filter_eq_nil_iff]
    intro k hk
    rw [List.mem_range] at hk
    simp [(hl k hk).1, hall k hk]
  | succ fuel ih =>
    intro listed D a C hs hD hsz hl hlt hcnt hk
    have rdy : ∀ k, k < ops.size → D k = false → ∀ o, ops[k]? = some o → (∀ e ∈ edgesOf o, D e = true) → k ∈ Region.ready .any ops listed := by
      intro k hk hDk o ho he
      unfold Region.ready
      rw [List.mem_filter]
      refine ⟨List.mem_range.2 hk, ?_⟩
      rw [(hl k hk).1, hDk, ho]
      simp only [Option.map_some, Option.getD_some, Bool.not_false, Bool.true_and]
      rw [Array.all_eq_true_iff_forall_mem]
      intro e hem
      cases hb : Region.binds .any e with
      | false => rfl
      | true =>
        have := he e.on (by unfold edgesOf; exact List.mem_map.2 ⟨e, List.mem_filter.2 ⟨by simpa using hem, hb⟩, rfl⟩)
        have hlt' := hlt _ this
        simp only [Bool.not_true, Bool.false_or]
        rw [(hl _ hlt').2, this]
    refine ⟨fun hnil => ?_, fun j hj => ?_⟩
    · refine fin hs ?_ hk
      intro k
      induction k using Nat.strongRecOn with
      | _ k ihk =>
        intro hk
        cases hDk : D k with
        | true => rfl
        | false =>
          have ho : ops[k]? = some ops[k] := Array.getElem?_eq_getElem hk
          have := rdy k hk hDk _ ho fun e he => by
            have hb := backOk_get hR.back (j := k) (o := ops[k]) (by simp) e he
            exact ihk e (by omega) (by omega)
          rw [hnil] at this; cases this
    · unfold Region.ready at hj
      rw [List.mem_filter] at hj
      obtain ⟨hjr, hj⟩ := hj
      have hjlt := List.mem_range.1 hjr
      obtain ⟨o, ho⟩ : ∃ o, ops[j]? = some o := ⟨_, Array.getElem?_eq_getElem hjlt⟩
      rw [ho] at hj
      simp only [Option.map_some, Option.getD_some, Bool.and_eq_true, Bool.not_eq_true'] at hj
      have hDj : D j = false := by rw [← (hl j hjlt).1]; exact hj.1
      obtain ⟨e, he⟩ : ∃ e, es[j]? = some e := ⟨_, List.getElem?_eq_getElem (by rw [hR.len]; exact hjlt)⟩
      obtain ⟨o', ho', hok, hσ, hn⟩ := hR.at_ j e he
      rw [ho] at ho'; cases ho'
      have hedge : ∀ i ∈ edgesOf o, D i = true := by
        intro i hi
        unfold edgesOf at hi
        obtain ⟨ed, hed, rfl⟩ := List.mem_map.1 hi
        rw [List.mem_filter] at hed
        have := (Array.all_eq_true_iff_forall_mem.1 hj.2) ed (by simpa using hed.1)
        rw [hed.2] at this
        simp only [Bool.not_true, Bool.false_or] at this
        have hlt' : ed.on < ops.size := by
          have := backOk_get hR.back (j := j) (o := o) (by simpa using ho) ed.on hi
          omega
        rw [← (hl _ hlt').2]; exact this
      have hpre : ∀ i ∈ (ancs ops.toList []).getD j [], D i = true := by
        intro i hi
        rcases ancs_get ops.toList [] j o (by simpa using ho) i (by simpa using hi) with h | ⟨x, hx, _, h⟩
        · exact hedge i h
        · exact hD.closed x (hedge x hx) i h
      have hprel : ((es.take j).map (·.rc)).length = j := by simp; rw [hR.len]; omega
      -- what is done behind it
      let D' : Nat → Bool := fun k => D k || k == j
      have hDn : ∀ k f, j < k → D k = true → es[k]? = some f → indep e.rc f.rc = true := by
        intro k f hjk hDk hf
        rcases hR.pairs j k e f hjk he hf with h | h
        · have := hD.closed k hDk j h; rw [hDj] at this; cases this
        · exact h
      obtain ⟨p1, p2⟩ := stD_put (σ := σ0) he hDj (fun k f hjk hDk hf i hi => (indep_t1 (hDn k f hjk hDk hf) hi).2) (fun k f hjk hDk hf p hp => by
        obtain ⟨_, _, hok', _, _⟩ := hR.at_ k f hf
        have := indep_wr (hDn k f hjk hDk hf) (p := p) (by rw [hok.wr]; exact hp)
        rw [hok'.wr] at this; exact this)
      have next : ∀ {a' : Act} {C' : Cx}, Sim base C' (effOf e (stD D 0 es σ0)) a' → To base C C' → wpAny P .any ops Q fuel (listed.setIfInBounds j true) a' C'.w := by
        intro a' C' hs' hto
        have hs2 : Sim base C' (stD D' 0 es σ0) a' := hs'.congr p1 p2 (by rw [stD_len, eff_len, stD_len])
        refine ih hs2 ⟨fun k hk i hi => ?_⟩ (by simp [hsz]) (fun k hk => ?_) (fun k hk => ?_) ?_ fun a2 C2 h1 h2 => hk a2 C2 h1 (hto.trans h2)
        · show (D i || i == j) = true
          have hk' : (D k || k == j) = true := hk
          rw [Bool.or_eq_true] at hk' ⊢
          rcases hk' with h | h
          · exact .inl (hD.closed k h i hi)
          · rw [beq_iff_eq] at h; subst h; exact .inl (hpre i hi)
        · have hgj : ∀ d, (listed.setIfInBounds j true).getD k d = if j = k then true else listed.getD k d := by
            intro d
            simp only [Array.getD_eq_getD_getElem?, Array.getElem?_setIfInBounds]
            by_cases h : j = k
            · subst h; rw [if_pos rfl, if_pos (by rw [hsz]; exact hk), if_pos rfl]; rfl
            · rw [if_neg h, if_neg h]
          rw [hgj, hgj]
          show _ = (D k || k == j) ∧ _ = (D k || k == j)
          by_cases h : j = k
          · subst h; simp
          · have hkj : (k == j) = false := by simp; omega
            rw [if_neg h, if_neg h, hkj, Bool.or_false]; exact hl k hk
        · have hk' : (D k || k == j) = true := hk
          rw [Bool.or_eq_true] at hk'
          rcases hk' with h | h
          · exact hlt k h
          · rw [beq_iff_eq] at h; subst h; exact hjlt
        · have := countF (p := fun k => !D k) (q := fun k => !D' k) (l := List.range ops.size) (x := j) (fun y _ hy => by
            show (!D y) = true
            have hy' : (!(D y || y == j)) = true := hy
            simp at hy' ⊢; exact hy'.1) hjr (by simp [hDj]) (by simp [D'])
          omega
      unfold wpOp
      rw [ho]
      simp only
      have hgo : Region.wanted o (yielded ops a.tmps) = e.go := by
        rcases hok.gd with ⟨h1, h2⟩ | ⟨jj, w, g, b, h1, h2, h3, h4, h5⟩ | ⟨jj, w, g, l, h1, h2, h3, h4, h5⟩
        · simp [Region.wanted, h1, h2]
        · have hrel := hs.tm g
          rw [hR.reads hD he hDj hpre h3] at hrel
          have := boolOf_rel hrel h4
          have hy := yielded_of h2 this
          simp [Region.wanted, h1, hy, h5]
        · have hrel := hs.tm g
          rw [hR.reads hD he hDj hpre h3, h4] at hrel
          simp [Region.wanted, h1, yielded_undef h2 hrel, h5]
      rw [hgo]
      cases hg : e.go with
      | true =>
        simp only [if_true]
        refine .inl ?_
        obtain ⟨m1, m2⟩ := hR.mask hD he hDj hpre
        have hrun := hok.run hg (H := C.H) (by rw [hprel, hs.H]; exact m2) (fun v u => some (v, u))
        have htm : Tmps C (tvM e.rc.reads (tvOf e.σ)) a := by
          intro i
          unfold tvM
          split
          · rename_i hi
            rw [← hR.reads hD he hDj hpre hi]; exact hs.tm i
          · simp only [RelA]
        refine step_sound hT hC.pure hs.good hs.low (fun x hx => ?_) htm (fun v u hvu => ?_) hrun
        · rw [hs.H]
          exact m1 _ (by rw [inR_iff, hok.cnt]; omega)
        · cases hvu
          intro C' val g1 g2 g3 g4
          have := hs.step (dst := o.dst) g1 g2 g3 g4
          refine next ?_ g2
          unfold effOf
          rw [hok.dst]; exact this
      | false =>
        simp only [Bool.false_eq_true, if_false]
        obtain ⟨i1, i2⟩ := hok.idle hg
        refine next ?_ (To.refl base C)
        unfold effOf
        rw [hok.dst, i1, i2]
        exact hs.pass o.dst

theorem execDraw_sound (hT : TbOk P T) (hC : CaOk P T Ca) {id : Nat} {σ : St} {a : Act} {C : Cx} {k : St → Option α} (hs : Sim base C σ a)
    (hk : ∀ ρ a' C', k ρ = some r → Sim base C' ρ a' → To base C C' → Q .normal a' C'.w)
    (h : execDraw T Ca fid ops.toList (ancs ops.toList []) σ.H.length ops.toList σ σ.H.length [] [] k = some r) : (Code.region id ops true).wp P Q a C.w := by
  obtain ⟨es, ρ, rs', ht, hρ, hp, hb⟩ := execDraw_told _ (fun q hq => by cases hq) h
  obtain ⟨f1, f2, f3, f4, f5⟩ := ht.facts
  have hlen : es.length = ops.size := by simpa using f1
  have hR : Reg T Ca fid ops es σ := by
    refine ⟨hlen, fun j e he => ?_, f5, fun i j e f hij he hf => ?_, hb⟩
    · obtain ⟨o, a1, a2, a3, a4⟩ := f4 j e he
      refine ⟨o, by simpa using a1, by simpa using a2, ?_, a4⟩
      rw [stD_below (by have := (List.getElem?_eq_some_iff.1 he).1; omega)]; exact a3
    · unfold allPairs at hp
      rw [List.all_eq_true] at hp
      have hjl : j < ops.size := by rw [← hlen]; exact (List.getElem?_eq_some_iff.1 hf).1
      have := hp j (by simpa using hjl)
      rw [List.all_eq_true] at this
      have := this i (List.mem_range.2 hij)
      unfold pairOk at this
      rw [Bool.or_eq_true] at this
      refine this.imp (fun h => by simpa using h) fun h => ?_
      rw [f2] at h
      simp only [List.nil_append, List.getElem?_map, he, hf, Option.map_some] at h
      exact h
  have g1 : Good base { C with w := { C.w with drawn := C.w.drawn + 1 } } := hs.good.world (fun _ _ => rfl) (Nat.le_refl _)
  have t1 : To base C { C with w := { C.w with drawn := C.w.drawn + 1 } } := To.world hs.good (fun _ _ => rfl) (Nat.le_refl _) (Below.refl base C.w).drew
  have hs1 : Sim base { C with w := { C.w with drawn := C.w.drawn + 1 } } (stD (fun _ => false) 0 es σ) a := by
    rw [stD_none (fun _ _ => rfl)]
    exact { good := g1, low := hs.low, H := hs.H, len := hs.len, tm := fun i => (hs.tm i).mono t1.ext, df := hs.df }
  refine wp_region_any hT.mixed (draw_any hT hC hR ops.size hs1 ⟨fun k h => by cases h⟩ (by simp) (fun k hk => ?_) (fun k h => by cases h) ?_ fun a' C' h1 h2 => ?_)
  · simp [Array.getD_eq_getD_getElem?, hk]
  · refine Nat.le_trans (List.length_filter_le _ _) (by simp)
  · rw [← f3] at h1
    exact hk ρ a' C' hρ h1 (t1.trans h2)
end
end Go.Proofs.YthanbjnpfenniaaDoor.Fw

namespace Go.Proofs.YthanbjnpfenniaaDoor.Fw
open Go Go.RowKit
set_option linter.unusedVariables false
set_option linter.unusedSimpArgs false

/-! ### at a loop's head -/
theorem plain_rel {C C' : Cx} (hF : ∀ b, C.F b → C'.F b) (hG : ∀ b, C.G b → C'.G b) (hw : C'.w = C.w) : ∀ (d : Nat) {x : AV} {v : Value}, plainA d x = true → RelA C x v → RelA C' x v := by
  intro d
  induction d with
  | zero =>
    intro x v hp h
    cases x <;> simp only [plainA, Bool.false_eq_true] at hp <;> simp only [RelA] at h ⊢ <;> first | exact h | exact h.mono hF (fun _ _ => by rw [hw])
  | succ d ih =>
    have sub : ∀ {l : List AV} {vs : List Value}, l.all (plainA d) = true → RelL C l vs → RelL C' l vs := by
      intro l
      induction l with
      | nil => intro vs _ h; simpa [RelL] using h
      | cons x r ihr =>
        intro vs hp h
        simp only [List.all_cons, Bool.and_eq_true] at hp
        simp only [RelL] at h ⊢
        obtain ⟨v, vr, rfl, h1, h2⟩ := h
        exact ⟨v, vr, rfl, ih hp.1 h1, ihr hp.2 h2⟩
    have subR : ∀ {l : List AV} {b off : Nat}, l.all (plainA d) = true → RelR C b l off → RelR C' b l off := by
      intro l
      induction l with
      | nil => intro b off _ h; simp [RelR]
      | cons x r ihr =>
        intro b off hp h
        simp only [List.all_cons, Bool.and_eq_true] at hp
        simp only [RelR] at h ⊢
        obtain ⟨⟨u, h1, h2, h3⟩, h4⟩ := h
        exact ⟨⟨u, by rw [hw]; exact h1, h2, ih hp.1 h3⟩, ihr hp.2 h4⟩
    intro x v hp h
    cases x <;> simp only [plainA, Bool.false_eq_true] at hp <;> simp only [RelA] at h ⊢ <;> try exact h
    · exact h.mono hF (fun _ _ => by rw [hw])
    · obtain ⟨b, off, rfl, hb, h⟩ := h
      exact ⟨b, off, rfl, hb.imp (hF b) (hG b), subR hp h⟩
    · obtain ⟨vs, h1, h2, h3⟩ := h
      exact ⟨vs, h1, h2, sub hp h3⟩
    · obtain ⟨vs, h1, h3⟩ := h
      exact ⟨vs, h1, sub hp h3⟩
    · obtain ⟨vs, h1, h3⟩ := h
      exact ⟨vs, h1, sub hp h3⟩
def leafA : AV → Bool
  | .agg _ => false
  | .tup _ => false
  | .fn _ _ => false
  | _ => true
/-- A walk through values, with other words for what is at the leaves. -/
theorem mapA_rel' {C C' : Cx} {f : AV → AV} (hf : ∀ x v, leafA x = true → RelA C x v → RelA C' (f x) v) : ∀ (d : Nat) {x : AV} {v : Value}, RelA C x v → RelA C' (mapA f d x) v := by
  intro d
  induction d with
  | zero =>
    intro x v h
    cases x <;> simp only [mapA] <;> first | exact hf _ _ rfl h | simp only [RelA]
  | succ d ih =>
    have sub : ∀ {l : List AV} {vs : List Value}, RelL C l vs → RelL C' (l.map (mapA f d)) vs := fun h => mapL_rel (fun x v h => ih h) h
    intro x v h
    cases x <;> simp only [mapA] <;> try exact hf _ _ rfl h
    · simp only [RelA] at h ⊢
      obtain ⟨vs, h1, h2, h3⟩ := h
      exact ⟨vs, h1, h2, sub h3⟩
    · simp only [RelA] at h ⊢
      obtain ⟨vs, h1, h3⟩ := h
      exact ⟨vs, h1, sub h3⟩
    · simp only [RelA] at h ⊢
      obtain ⟨vs, h1, h3⟩ := h
      exact ⟨vs, h1, sub h3⟩
theorem trimO_get (r0 : Nat) (f : AV → AV) : ∀ (i n : Nat) (l : List AO) (k : Nat), (trimO r0 f i n l)[k]? = if k < n then (l[k]?).map fun x => match x with
    | .arr t l ver dp => .arr t l (verOf r0 (i + k) ver) dp
    | .box cells => .box (cells.map f)
    | x => x else none
  | i, 0, l, k => by simp [trimO]
  | i, n + 1, [], k => by simp [trimO]
  | i, n + 1, x :: r, 0 => by simp only [trimO, List.getElem?_cons_zero, Nat.zero_lt_succ, if_true, Option.map_some, Nat.add_zero]; cases x <;> rfl
  | i, n + 1, x :: r, k + 1 => by
    simp only [trimO, List.getElem?_cons_succ]
    rw [trimO_get r0 f (i + 1) n r k, show i + 1 + k = i + (k + 1) by omega]
    by_cases h : k < n
    · rw [if_pos h, if_pos (by omega)]
    · rw [if_neg h, if_neg (by omega)]
theorem trimT_get (f : AV → AV) (keep : List Tmp) : ∀ (l : List AV) (i k : Nat), (trimT f keep i l)[k]? = (l[k]?).map fun x => if keep.contains (i + k) = true then f x else .top
  | [], i, k => by simp [trimT]
  | x :: r, i, 0 => by simp [trimT]
  | x :: r, i, k + 1 => by
    simp only [trimT, List.getElem?_cons_succ]
    rw [trimT_get f keep r (i + 1) k, show i + 1 + k = i + (k + 1) by omega]
theorem trimT_len (f : AV → AV) (keep : List Tmp) : ∀ (l : List AV) (i : Nat), (trimT f keep i l).length = l.length
  | [], i => rfl
  | x :: r, i => by simp [trimT, trimT_len f keep r]

theorem Sim.trim {base : Nat} {C0 C : Cx} {σ : St} {a : Act} (h : Sim base C σ a) (ht : To base C0 C) {h0 : Nat} (hh : ∀ o, h0 ≤ o → C0.H o = .hole) {r0 : Nat} (hr : ∀ o, r0 ≤ o → C0.H o = .hole) (keep : List Tmp) :
    ∃ C', C'.w = C.w ∧ To base C0 C' ∧ Sim base C' (Fw.trim r0 keep h0 σ) a := by
  have hg := h.good
  let f := mapA (trimA r0 (look σ.H) h0) depth
  let H2 : Nat → AO := look (trimO r0 f 0 h0 σ.H)
  let C' : Cx := { C with H := H2 }
  have hH2 : ∀ o, H2 o = if o < h0 then (match C.H o with
      | .arr t l ver dp => .arr t l (verOf r0 o ver) dp
      | .box cells => .box (cells.map f)
      | x => x) else .hole := by
    intro o
    show look (trimO r0 f 0 h0 σ.H) o = _
    rw [h.H]
    simp only [look, List.getD_eq_getElem?_getD, trimO_get, Nat.zero_add]
    by_cases ho : o < h0
    · rw [if_pos ho, if_pos ho]
      cases σ.H[o]? <;> rfl
    · rw [if_neg ho, if_neg ho]; rfl
  have hf0 : ∀ x v, leafA x = true → RelA C x v → RelA C' (trimA r0 C.H h0 x) v := by
    intro x v hlf hx
    cases x <;> try (cases hlf; done)
    case top => simp only [trimA, RelA]
    case osl o ver =>
      simp only [trimA]
      split
      · rename_i ho
        split <;> try (simp only [RelA]; done)
        rename_i t l cur dp hH
        split <;> try (simp only [RelA]; done)
        rename_i hv
        subst hv
        simp only [RelA, OslOk, hH] at hx ⊢
        have : C'.H o = .arr t l (verOf r0 o cur) dp := by show H2 o = _; rw [hH2, if_pos ho, hH]
        rw [this]
        refine ⟨hx.1, .inr ⟨rfl, ?_⟩⟩
        rcases hx.2 with h | ⟨_, h⟩
        · omega
        · exact h
      · simp only [RelA]
    case bptr o off =>
      simp only [trimA]
      split
      · rename_i ho
        simp only [RelA, BptrOk] at hx ⊢
        refine ⟨hx.1, ?_⟩
        have : C'.H o = _ := hH2 o
        rw [this, if_pos ho]
        have hx2 := hx.2
        cases hH : C.H o <;> rw [hH] at hx2 <;> first | exact hx2.elim | exact hx2
      · simp only [RelA]
    case mth f o off =>
      simp only [trimA]
      split
      · rename_i ho
        simp only [RelA, BptrOk] at hx ⊢
        obtain ⟨p, hp, hx⟩ := hx
        refine ⟨p, hp, hx.1, ?_⟩
        have : C'.H o = _ := hH2 o
        rw [this, if_pos ho]
        have hx2 := hx.2
        cases hH : C.H o <;> rw [hH] at hx2 <;> first | exact hx2.elim | exact hx2
      · simp only [RelA]
    case eptr => simp only [trimA, RelA]
    case iptr => simp only [trimA, RelA]
    case isl o ver i c =>
      simp only [trimA]
      split
      · rename_i ho
        split <;> try (simp only [RelA]; done)
        rename_i hro
        split <;> try (simp only [RelA]; done)
        rename_i t l cur dp hH
        split <;> try (simp only [RelA]; done)
        rename_i hv
        subst hv
        simp only [RelA, IslOk, hH] at hx ⊢
        have : C'.H o = .arr t l cur dp := by show H2 o = _; rw [hH2, if_pos ho, hH]; simp only [verOf, if_neg (show ¬ r0 ≤ o by omega)]
        rw [this]
        refine ⟨hx.1, .inr ⟨rfl, ?_⟩⟩
        rcases hx.2 with h | ⟨_, h⟩
        · omega
        · exact h
      · simp only [RelA]
    case ref cells =>
      simp only [trimA]
      split
      · rename_i hp
        exact plain_rel (C := C) (C' := C') (fun _ h => h) (fun _ h => h) rfl (depth + 1) (x := .ref cells) (by simpa only [plainA] using hp) hx
      · simp only [RelA]
    all_goals
      simp only [trimA]
      simp only [RelA] at hx ⊢
      exact hx
  have hf : ∀ x v, RelA C x v → RelA C' (f x) v := by
    intro x v hx
    have : f = mapA (trimA r0 C.H h0) depth := by show mapA (trimA r0 (look σ.H) h0) depth = _; rw [h.H]
    rw [this]
    exact mapA_rel' hf0 depth hx
  have hext : Ext C0 C' := by
    refine ⟨ht.ext.F, ht.ext.G, ht.ext.heap, fun o => ?_⟩
    have hob := ht.ext.obj o
    simp only [ObjExt] at hob ⊢
    have : C'.H o = _ := hH2 o
    rw [this]
    by_cases ho : o < h0
    · rw [if_pos ho]
      by_cases hro : r0 ≤ o
      · rw [hr o hro]; trivial
      · simp only [verOf, if_neg hro]
        cases h1 : C0.H o <;> cases h2 : C.H o <;> rw [h1, h2] at hob <;> first | exact hob | trivial
    · rw [if_neg ho, hh o (by omega)]; trivial
  have hbl : ∀ o, blks C' o = if o < h0 then blks C o else [] := by
    intro o
    have : C'.H o = _ := hH2 o
    simp only [blks, this]
    by_cases ho : o < h0
    · rw [if_pos ho, if_pos ho]
      cases hH : C.H o <;> rfl
    · rw [if_neg ho, if_neg ho]
  have hmem : ∀ {o b}, b ∈ blks C' o → b ∈ blks C o := by
    intro o b hb
    rw [hbl] at hb
    split at hb
    · exact hb
    · cases hb
  have hgood : Good base C' := by
    refine ⟨fun o => ?_, fun o b hb => hg.low o b (hmem hb), fun o => ?_, fun o p b hop h1 h2 => hg.dj o p b hop (hmem h1) (hmem h2), hg.fz, hg.gz, hg.gl⟩
    · have : C'.H o = _ := hH2 o
      rw [this]
      by_cases ho : o < h0
      · rw [if_pos ho]
        have hob := hg.ob o
        cases hH : C.H o <;> rw [hH] at hob
        · trivial
        · trivial
        · simp only [ObjOk] at hob ⊢
          obtain ⟨cs, tid, a1, a2, a3⟩ := hob
          exact ⟨cs, tid, a1, a2, mapL_rel hf a3⟩
        · exact hob
      · rw [if_neg ho]; trivial
    · rw [hbl]; split
      · exact hg.nd o
      · exact List.nodup_nil
  refine ⟨C', rfl, ⟨hext, ht.size, ht.bel, ht.fnew, ht.gsame⟩, ⟨hgood, h.low, rfl, ?_, fun i => ?_, h.df⟩⟩
  · simp only [Fw.trim, trimT_len]; exact h.len
  · have := h.tm i
    simp only [tvOf, Fw.trim, List.getD_eq_getElem?_getD, trimT_get, Nat.zero_add] at this ⊢
    cases hσ : σ.t[i]? with
    | none => simp only [Option.map_none, Option.getD_none, RelA]
    | some x =>
      rw [hσ] at this
      simp only [Option.map_some, Option.getD_some] at this ⊢
      split
      · exact hf x _ this
      · simp only [RelA]
theorem Sim.boxes {base : Nat} {C : Cx} {σ : St} {a : Act} (h : Sim base C σ a) (o : Nat) {y : AV} (hy : ∀ v, RelA C .zsl v → RelA C y v) : ∃ C', C'.w = C.w ∧ To base C C' ∧ Sim base C' ⟨σ.t, boxesO o y σ.H⟩ a := by
  have hg := h.good
  unfold boxesO
  split
  · rename_i cells hH
    have hlt : o < σ.H.length := by
      rcases Nat.lt_or_ge o σ.H.length with h' | h'
      · exact h'
      · rw [look_hole h'] at hH; cases hH
    have hy' : ∀ x v, RelA C x v → RelA C (repl y x) v := by
      intro x v hr
      cases x <;> simp only [repl] <;> first | exact hr | exact hy v hr
    have hred : ∀ p, (∃ l l', C.H p = .box l ∧ look (σ.H.set o (.box (cells.map (repl y)))) p = .box l' ∧ ∀ (cs : Array Value) (tid : TypeId), C.w.heap[C.blk p]? = some (.cells cs tid (0, 0)) → RelL C l' cs.toList) ∨ look (σ.H.set o (.box (cells.map (repl y)))) p = C.H p := by
      intro p
      by_cases hp : p = o
      · subst hp
        refine .inl ⟨cells, cells.map (repl y), by rw [h.H]; exact hH, by simp only [look, List.getD_eq_getElem?_getD]; rw [List.getElem?_set_self hlt]; rfl, fun cs tid hcs => ?_⟩
        have hob := hg.ob p
        rw [h.H, hH] at hob
        simp only [ObjOk] at hob
        obtain ⟨cs', tid', a1, a2, a3⟩ := hob
        rw [a1] at hcs
        cases hcs
        exact mapL_rel hy' a3
      · refine .inr ?_
        rw [h.H]
        simp only [look, List.getD_eq_getElem?_getD]
        rw [List.getElem?_set_ne (fun e => hp e.symm)]
    have hx : Ext C { C with H := look (σ.H.set o (.box (cells.map (repl y)))) } := redo_ext fun p => (hred p).imp (fun ⟨l, l', h1, h2, _⟩ => ⟨l, l', h1, h2⟩) id
    exact ⟨{ C with H := look (σ.H.set o (.box (cells.map (repl y)))) }, rfl, ⟨hx, Nat.le_refl _, Below.refl _ _, fun _ hb => .inl hb, fun _ h => h⟩, { good := redo_good hg hred, low := h.low, H := rfl, len := h.len, tm := fun i => (h.tm i).mono hx, df := h.df }⟩
  · exact ⟨C, rfl, To.refl base C, h⟩
theorem Sim.nilObj {base : Nat} {C : Cx} {σ : St} {a : Act} (h : Sim base C σ a) (e : Ty) (dp : Bool) : ∃ C1, C1.w = C.w ∧ To base C C1 ∧ Sim base C1 ⟨σ.t, σ.H ++ [.arr e [] 0 dp]⟩ a ∧ ∀ A, RelA C1 (.osl σ.H.length 0) (.slice A 0 0) := by
  have hn : C.H σ.H.length = .hole := by rw [h.H]; exact look_hole (Nat.le_refl _)
  let C1 := C.new σ.H.length 0 [] (.arr e [] 0 dp) C.w
  have g1 : Good base C1 := Good.arr_nil h.good hn (fun _ _ => rfl) (Nat.le_refl _)
  have t1 : To base C C1 := ⟨Ext.new h.good hn (fun _ _ => rfl), Nat.le_refl _, Below.refl _ _, fun _ h => .inl h, fun _ h => h⟩
  have hH1 : C1.H = look (σ.H ++ [.arr e [] 0 dp]) := by
    show upd C.H σ.H.length _ = _
    rw [h.H]
    funext p
    simp only [upd, look, List.getD_eq_getElem?_getD]
    by_cases hp : p = σ.H.length
    · subst hp; simp
    · rw [if_neg hp]
      rcases Nat.lt_or_ge p σ.H.length with h' | h'
      · rw [List.getElem?_append_left h']
      · rw [List.getElem?_eq_none h', List.getElem?_eq_none (by simp; omega)]
  exact ⟨C1, rfl, t1, { good := g1, low := h.low, H := hH1, len := h.len, tm := fun j => (h.tm j).mono t1.ext, df := h.df }, fun A => osl_nil rfl A⟩
theorem Sim.promote {base : Nat} : ∀ (l : List (Tmp × Ty)) {C : Cx} {σ : St} {a : Act}, Sim base C σ a → ∃ C', C'.w = C.w ∧ To base C C' ∧ Sim base C' (Fw.promote l σ) a
  | [], C, σ, a, h => ⟨C, rfl, To.refl base C, h⟩
  | (i, t) :: r, C, σ, a, h => by
    simp only [Fw.promote]
    split
    · rename_i hz
      have hv := h.tm i
      rw [hz] at hv
      simp only [RelA] at hv
      obtain ⟨A, hv⟩ := hv
      split
      · rename_i e _
        exact Sim.promote r (h.tell (i := i) (v := .sl e []) (by rw [hv]; simp only [RelA, RelD]; exact ⟨A, 0, rfl, Nat.le_refl _, .inl trivial⟩))
      · obtain ⟨C1, w1, t1, s1, r1⟩ := h.nilObj (objT t) (objB t)
        have s2 := s1.tell (i := i) (v := .osl σ.H.length 0) (by rw [hv]; exact r1 A)
        obtain ⟨C2, a1, a2, a3⟩ := Sim.promote r s2
        exact ⟨C2, a1.trans w1, t1.trans a2, a3⟩
    · rename_i o _ _
      split
      · obtain ⟨C1, b1, b2, b3, _⟩ := h.freeze [o]
        obtain ⟨C2, a1, a2, a3⟩ := Sim.promote r b3
        exact ⟨C2, a1.trans b1, b2.trans a2, a3⟩
      · exact Sim.promote r h
    · rename_i o _ _
      split
      · rename_i e _
        obtain ⟨C1, b1, b2, b3⟩ := h.boxes o (y := .sl e []) (fun v hv => by
          simp only [RelA] at hv
          obtain ⟨A, hv⟩ := hv
          rw [hv]; simp only [RelA, RelD]; exact ⟨A, 0, rfl, Nat.le_refl _, .inl trivial⟩)
        obtain ⟨C2, a1, a2, a3⟩ := Sim.promote r b3
        exact ⟨C2, a1.trans b1, b2.trans a2, a3⟩
      · rename_i e _
        obtain ⟨C0, w0, t0, s0, r0⟩ := h.nilObj e true
        obtain ⟨C1, b1, b2, b3⟩ := s0.boxes o (y := .osl σ.H.length 0) (fun v hv => by
          simp only [RelA] at hv
          obtain ⟨A, hv⟩ := hv
          rw [hv]; exact r0 A)
        obtain ⟨C2, a1, a2, a3⟩ := Sim.promote r b3
        exact ⟨C2, a1.trans (b1.trans w0), (t0.trans b2).trans a2, a3⟩
      · exact Sim.promote r h
    · exact Sim.promote r h
end Go.Proofs.YthanbjnpfenniaaDoor.Fw

namespace Go.Proofs.YthanbjnpfenniaaDoor.Fw
open Go Go.RowKit
set_option linter.unusedVariables false
set_option linter.unusedSimpArgs false

def exOf : Ex → Exit
  | .normal => .normal
  | .exit id => .exit id
  | .ret => .ret
section
variable {P : Program} {T : Tb} {α : Type} {base : Nat} {r : α} {Ca : Ca T} {fid : FuncId} {C0 : Cx} {nf : Nat}
/-- What is to be shown behind code. -/
def KontC (base : Nat) (C0 : Cx) (Q : Exit → Act → World → Prop) (k : Ex → St → Option α) (r : α) : Prop :=
  ∀ e ρ a C, k e ρ = some r → Sim base C ρ a → To base C0 C → Q (exOf e) a C.w
theorem exec_sound (hT : TbOk P T) (hC : CaOk P T Ca) {r0 : Nat} (hr : ∀ o, r0 ≤ o → C0.H o = .hole) : ∀ (c : Code) {σ : St} {a : Act} {C : Cx} {k : Ex → St → Option α} {Q : Exit → Act → World → Prop},
    Sim base C σ a → To base C0 C → KontC base C0 Q k r → exec T Ca fid r0 nf c σ k = some r → c.wp P Q a C.w := by
  intro c
  induction c with
  | skip =>
    intro σ a C k Q hs ht hk h
    simp only [exec] at h
    exact wp_skip (hk .normal _ _ _ h hs ht)
  | region id ops draw =>
    intro σ a C k Q hs ht hk h
    cases draw with
    | false =>
      simp only [exec] at h
      refine wp_region ?_
      rw [List.range_eq_range']
      have := execOps_sound (Q := Q) hT hC ops.toList 0 (by simp) hs (fun ρ a' C' h1 h2 h3 => hk .normal ρ a' C' h1 h2 (ht.trans h3)) h
      simpa using this
    | true =>
      simp only [exec] at h
      exact execDraw_sound hT hC hs (fun ρ a' C' h1 h2 h3 => hk .normal ρ a' C' h1 h2 (ht.trans h3)) h
  | seq x y ihx ihy =>
    intro σ a C k Q hs ht hk h
    simp only [exec] at h
    refine wp_seq (ihx hs ht ?_ h)
    intro e ρ a' C' h1 h2 h3
    cases e with
    | normal => exact ihy h2 h3 hk h1
    | exit id => exact hk _ _ _ _ h1 h2 h3
    | ret => exact hk _ _ _ _ h1 h2 h3
  | cond c x y ihx ihy =>
    intro σ a C k Q hs ht hk h
    simp only [exec] at h
    obtain ⟨b, hb, h⟩ := testK_some (opnd_rel hs.tm c) h
    refine wp_cond hb ?_
    cases b with
    | true => simp only [if_true] at h ⊢; exact ihx hs ht hk h
    | false => simp only [Bool.false_eq_true, if_false] at h ⊢; exact ihy hs ht hk h
  | block id c ih =>
    intro σ a C k Q hs ht hk h
    simp only [exec] at h
    refine wp_block (ih hs ht ?_ h)
    intro e ρ a' C' h1 h2 h3
    cases e with
    | normal => exact hk _ _ _ _ h1 h2 h3
    | ret => exact hk _ _ _ _ h1 h2 h3
    | exit j =>
      simp only at h1
      simp only [exOf, Exit.inBlock]
      split at h1
      · rename_i e; rw [if_pos e]; exact hk _ _ _ _ h1 h2 h3
      · rename_i e; rw [if_neg e]; exact hk _ _ _ _ h1 h2 h3
  | loop c ih =>
    intro σ a C k Q hs ht hk h
    simp only [exec] at h
    obtain ⟨C1, w1, t1, s1⟩ := Sim.promote (T.keep fid (firstReg c)).2 hs
    generalize promote (T.keep fid (firstReg c)).2 σ = σ0 at h s1
    rw [← w1]
    have ht1 := ht.trans t1
    have hh : ∀ o, σ0.H.length ≤ o → C0.H o = .hole := by
      intro o ho
      have hob := ht1.ext.obj o
      have : C1.H o = .hole := by rw [s1.H]; exact look_hole ho
      simp only [ObjExt, this] at hob
      cases h0 : C0.H o <;> rw [h0] at hob <;> first | rfl | exact hob.elim
    generalize σ0.H.length = h0 at h hh
    let nm := trim r0 (T.keep fid (firstReg c)).1 h0
    let J : Nat → Act → World → Prop := fun m a w => ∃ σ C, loopIt (exec T Ca fid r0 nf c) nm k m σ = some r ∧ Sim base C σ a ∧ To base C0 C ∧ C.w = w
    obtain ⟨C2, w2, t2, s2⟩ := s1.trim ht1 hh (r0 := r0) hr (T.keep fid (firstReg c)).1
    have hJ : J nf a C1.w := ⟨_, C2, h, s2, t2, w2⟩
    open Classical in
    let μ : Act → World → Nat := fun a w => if hx : ∃ m, J m a w then Classical.choose (show ∃ m, J m a w ∧ ∀ m', J m' a w → m ≤ m' from by
      obtain ⟨m, hm⟩ := hx
      induction m using Nat.strongRecOn with
      | _ m ihm =>
        by_cases hlt : ∃ m', m' < m ∧ J m' a w
        · obtain ⟨m', h1, h2⟩ := hlt; exact ihm m' h1 h2
        · exact ⟨m, hm, fun m' h' => by
            rcases Nat.lt_or_ge m' m with hl | hl
            · exact absurd ⟨m', hl, h'⟩ hlt
            · exact hl⟩) else 0
    have hμ : ∀ {a w}, (∃ m, J m a w) → J (μ a w) a w ∧ ∀ m', J m' a w → μ a w ≤ m' := by
      intro a w hx
      have : μ a w = _ := dif_pos hx
      rw [this]
      exact Classical.choose_spec (p := fun m => J m a w ∧ ∀ m', J m' a w → m ≤ m') _
    refine wp_loop (fun a w => ∃ m, J m a w) μ ⟨nf, hJ⟩ fun a w hx => ?_
    obtain ⟨⟨σ, C, h1, h2, h3, h4⟩, hmin⟩ := hμ hx
    generalize μ a w = m at h1 hmin
    subst h4
    cases m with
    | zero => simp [loopIt] at h1
    | succ m =>
      simp only [loopIt] at h1
      refine ih h2 h3 ?_ h1
      intro e ρ a' C' g1 g2 g3
      cases e with
      | normal =>
        obtain ⟨C3, w3, t3, s3⟩ := g2.trim g3 hh (r0 := r0) hr (T.keep fid (firstReg c)).1
        have hx' : J m a' C'.w := ⟨nm ρ, C3, g1, s3, t3, w3⟩
        exact ⟨⟨m, hx'⟩, Nat.lt_succ_of_le ((hμ ⟨m, hx'⟩).2 m hx')⟩
      | exit id => exact hk _ _ _ _ g1 g2 g3
      | ret => exact hk _ _ _ _ g1 g2 g3
  | exit id =>
    intro σ a C k Q hs ht hk h
    simp only [exec] at h
    exact wp_exit (hk _ _ _ _ h hs ht)
  | ret =>
    intro σ a C k Q hs ht hk h
    simp only [exec] at h
    exact wp_ret (hk _ _ _ _ h hs ht)
  | _ =>
    intro σ a C k Q hs ht hk h
    simp [exec] at h
end
end Go.Proofs.YthanbjnpfenniaaDoor.Fw

namespace Go.Proofs.YthanbjnpfenniaaDoor.Fw
open Go Go.RowKit
set_option linter.unusedVariables false
set_option linter.unusedSimpArgs false

/-- A function's results, with their cells. -/
def RelRes (C : Cx) : List (Bool × List AV) → List Value → Prop
  | [], vs => vs = []
  | p :: r, vs => ∃ v vr, vs = v :: vr ∧ (if p.1 = true then ∃ cs, v = .agg cs else v.oneCell' = true) ∧ RelL C p.2 v.cells.toList ∧ (∀ u ∈ v.cells.toList, u.oneCell' = true) ∧ RelRes C r vr
theorem cellsO_shape {C : Cx} {x : AV} {v : Value} {l : List AV} (hr : RelA C x v) (h : cellsO x = some l) : if isAggA x = true then ∃ cs, v = .agg cs else v.oneCell' = true := by
  cases x <;> simp only [cellsO] at h <;> try (cases h; done)
  case agg => simp only [isAggA, if_true]; simp only [RelA] at hr; obtain ⟨vs, rfl, _⟩ := hr; exact ⟨_, rfl⟩
  all_goals simp only [isAggA, Bool.false_eq_true, if_false]
  case sl t l' => simp only [RelA, RelD] at hr; obtain ⟨A, c, h1, _⟩ := hr; rw [(List.cons.inj h1).1]; rfl
  case zsl => simp only [RelA] at hr; obtain ⟨A, rfl⟩ := hr; rfl
  case osl => simp only [RelA, OslOk] at hr; obtain ⟨⟨A, n, c, rfl⟩, _⟩ := hr; rfl
  case bptr => simp only [RelA, BptrOk] at hr; obtain ⟨⟨p, rfl⟩, _⟩ := hr; rfl
  case eptr => simp only [RelA, EptrOk] at hr; obtain ⟨⟨p, rfl⟩, _⟩ := hr; rfl
  case ref => simp only [RelA] at hr; obtain ⟨b, off, rfl, _⟩ := hr; rfl
  case fn => simp only [RelA] at hr; obtain ⟨vs, rfl, _⟩ := hr; rfl
  case mth => simp only [RelA] at hr; obtain ⟨p, rfl, _⟩ := hr; rfl
  case anyb => simp only [RelA] at hr; obtain ⟨b, rfl⟩ := hr; rfl
  case isl => simp only [RelA, IslOk] at hr; obtain ⟨⟨A, n, c, rfl⟩, _⟩ := hr; rfl
  case iptr => simp only [RelA, IptrOk] at hr; obtain ⟨⟨p, rfl⟩, _⟩ := hr; rfl
  all_goals (simp only [RelA] at hr; rw [hr]; rfl)
section
variable {P : Program} {T : Tb} {base : Nat}
def resOf (tmps : Array Value) : ResultVar → Sem Value
  | .tmp t => pure (tmps.getD t undef)
  | .cell a t => do loadVar t (← asAddr (tmps.getD a undef))
theorem res_one (hT : TbOk P T) {C : Cx} {σ : St} {a : Act} (hs : Sim base C σ a) {x : ResultVar} {p : Bool × List AV} (h : resCells T σ x = some p) :
    ∃ v, (resOf a.tmps x).run P C.w = .ok v C.w ∧ (if p.1 = true then ∃ cs, v = .agg cs else v.oneCell' = true) ∧ RelL C p.2 v.cells.toList ∧ (∀ u ∈ v.cells.toList, u.oneCell' = true) := by
  cases x with
  | tmp t =>
    simp only [resCells] at h
    split at h <;> try (cases h; done)
    rename_i l hl
    cases h
    obtain ⟨h1, h2⟩ := cellsO_rel (hs.tm t) hl
    exact ⟨_, by simp [resOf], cellsO_shape (hs.tm t) hl, h1, h2⟩
  | cell t ty =>
    simp only [resCells] at h
    split at h <;> try (cases h; done)
    rename_i i cs hi hc
    split at h <;> try (cases h; done)
    rename_i hsz
    cases h
    rw [← hs.H] at hc
    obtain ⟨b, off, vs, h1, h2, h3, h4⟩ := cellsAt_rel hs.good (hs.tm t) hc
    have hti := hT.ty _ _ hi
    have hlen : (vs.take i.size).length = i.size := by have := h2.len; simp; omega
    have hld := run_load_ti hti (w := C.w) (b := b) (off := off) (vs := vs.take i.size) hlen (fun j u hj => h4 j u (by
      rw [List.getElem?_take] at hj; split at hj; exact hj; cases hj))
    refine ⟨_, by simp [resOf, h1, asAddr]; exact hld, ?_, ?_, ?_⟩
    · split
      · rename_i hk; exact ⟨_, rfl⟩
      · rename_i hk
        have h1' := hti.one (by simpa using hk)
        match hvs : vs.take i.size, hlen with
        | [u], _ => exact h3 u (List.mem_of_mem_take (by rw [hvs]; simp))
        | [], hl => simp at hl; omega
        | u :: u' :: q, hl => simp at hl; omega
    · have ht := h2.take (n := i.size)
      split
      · rename_i hk; simpa [Value.cells] using ht
      · rename_i hk
        have h1' := hti.one (by simpa using hk)
        match hvs : vs.take i.size, hlen with
        | [u], _ =>
          rw [hvs] at ht
          have hu : u.oneCell' = true := h3 u (List.mem_of_mem_take (by rw [hvs]; simp))
          have : u.cells = #[u] := by cases u <;> first | rfl | simp [Value.oneCell'] at hu
          simpa [this] using ht
        | [], hl => simp at hl; omega
        | u :: u' :: q, hl => simp at hl; omega
    · split
      · rename_i hk
        intro u hu
        exact h3 u (List.mem_of_mem_take (by simpa [Value.cells] using hu))
      · rename_i hk
        have h1' := hti.one (by simpa using hk)
        match hvs : vs.take i.size, hlen with
        | [u], _ =>
          have hu : u.oneCell' = true := h3 u (List.mem_of_mem_take (by rw [hvs]; simp))
          have : u.cells = #[u] := by cases u <;> first | rfl | simp [Value.oneCell'] at hu
          simp [this, hu]
        | [], hl => simp at hl; omega
        | u :: u' :: q, hl => simp at hl; omega
theorem res_all (hT : TbOk P T) {C : Cx} {σ : St} {a : Act} (hs : Sim base C σ a) : ∀ {xs : List ResultVar} {ps : List (Bool × List AV)}, allR (resCells T σ) xs = some ps →
    ∃ vs, (xs.mapM (resOf a.tmps)).run P C.w = .ok vs C.w ∧ RelRes C ps vs
  | [], ps, h => by simp [allR] at h; subst h; exact ⟨[], by simp, rfl⟩
  | x :: r, ps, h => by
    simp only [allR] at h
    split at h <;> try (cases h; done)
    rename_i y s h1 h2
    cases h
    obtain ⟨v, a1, a2, a3, a4⟩ := res_one hT hs h1
    obtain ⟨vs, b1, b2⟩ := res_all hT hs h2
    exact ⟨v :: vs, by simp [List.mapM_cons, a1, b1], by simp only [RelRes]; exact ⟨v, vs, rfl, a2, a3, a4, b2⟩⟩
theorem results_run (hT : TbOk P T) {C : Cx} {σ : St} {a : Act} (hs : Sim base C σ a) {fn : Func} {ps : List (Bool × List AV)} (h : allR (resCells T σ) fn.results.toList = some ps) :
    ∃ vs, (results fn a.tmps).run P C.w = .ok (resV vs) C.w ∧ RelRes C ps vs := by
  obtain ⟨vs, h1, h2⟩ := res_all hT hs h
  refine ⟨vs, ?_, h2⟩
  have h3 : (fn.results.mapM (resOf a.tmps)).run P C.w = .ok vs.toArray C.w := by
    rw [Array.mapM_eq_mapM_toList]
    simp [h1]
  have h4 : results fn a.tmps = (do let vs ← fn.results.mapM (resOf a.tmps); pure (if h : vs.size = 1 then vs[0] else .tuple vs)) := by
    unfold results
    congr
  rw [h4]
  simp only [Sem.run_bind, h3]
  match vs with
  | [] => simp [resV]
  | [v] => simp [resV]
  | v :: u :: r => simp [resV]
end
end Go.Proofs.YthanbjnpfenniaaDoor.Fw

namespace Go.Proofs.YthanbjnpfenniaaDoor.Fw
open Go Go.RowKit
set_option linter.unusedVariables false
set_option linter.unusedSimpArgs false

section
variable {P : Program} {T : Tb} {base : Nat}
/-! ### results, given to all -/
theorem expD_rel {C : Cx} (hg : Good base C) {F : Nat → Prop} (hF : ∀ b, C.F b → F b) (hB : ∀ o b, b ∈ blks C o → F b) : ∀ {t : Ty} {l : List AV} {vs : List Value} {d : t.D}, expD C.H t l = some d → RelL C l vs → RelD F C.w t d vs := by
  have flat : ∀ {t : Ty} {l : List AV} {vs : List Value} {d : t.D}, toD t l = some d → RelL C l vs → RelD F C.w t d vs := fun h hr => (toD_rel h hr).mono hF fun _ _ => rfl
  intro t
  induction t with
  | sl e _ =>
    intro l vs d h hr
    rcases l with _ | ⟨x, _ | ⟨z, s⟩⟩
    · exact flat (by simpa only [expD] using h) hr
    · cases x <;> try exact flat (by simpa only [expD] using h) hr
      rename_i o ver
      simp only [expD] at h
      split at h <;> try (cases h; done)
      rename_i t' l' cur dp hH
      split at h <;> try (cases h; done)
      rename_i hv
      subst hv
      split at h <;> try (cases h; done)
      rename_i he
      subst he
      cases h
      obtain ⟨v, rfl, hv⟩ := hr.one
      simp only [RelA] at hv
      exact arr_D hg hH hv hF (hB o)
    · exact flat (by simpa only [expD] using h) hr
  | pr a b iha ihb =>
    intro l vs d h hr
    simp only [expD] at h
    split at h <;> try (cases h; done)
    rename_i x y h1 h2
    cases h
    simp only [RelD]
    exact ⟨_, _, (List.take_append_drop a.size vs).symm, iha h1 hr.take, ihb h2 hr.drop⟩
  | _ => intro l vs d h hr; exact flat (by simpa only [expD] using h) hr
theorem shape_VOk {t : Ty} {p : Bool × List AV} {v : Value} (h : shapeOk t p = true) (hv : if p.1 = true then ∃ cs, v = .agg cs else v.oneCell' = true) : VOk t v ∧ p.2.length = t.size := by
  simp only [shapeOk, Bool.and_eq_true, beq_iff_eq] at h
  refine ⟨?_, Nat.eq_of_beq_eq_true h.2⟩
  unfold VOk
  rw [← h.1]
  split
  · rename_i h1; rwa [if_pos h1] at hv
  · rename_i h1; rwa [if_neg h1] at hv
theorem expL_rel {C : Cx} (hg : Good base C) {F : Nat → Prop} (hF : ∀ b, C.F b → F b) (hB : ∀ o b, b ∈ blks C o → F b) : ∀ {rs : List Ty} {ps : List (Bool × List AV)} {vs : List Value} {d : DL rs}, expL C.H rs ps = some d → RelRes C ps vs → RelRs (fun t d vs S => RelD F C.w t d vs ∧ S = []) rs d vs []
  | [], [], vs, d, h, hr => by simp only [RelRes] at hr; simp only [RelRs]; exact ⟨hr, trivial⟩
  | [], _ :: _, vs, d, h, hr => by simp [expL] at h
  | [a], [], vs, d, h, hr => by simp [expL] at h
  | [a], [p], vs, d, h, hr => by
    simp only [expL] at h
    split at h <;> try (cases h; done)
    rename_i hs
    simp only [RelRes] at hr
    obtain ⟨v, vr, rfl, h1, h2, h3, rfl⟩ := hr
    simp only [RelRs]
    exact ⟨v, rfl, (shape_VOk hs h1).1, expD_rel hg hF hB h h2, trivial⟩
  | [a], _ :: _ :: _, vs, d, h, hr => by simp [expL] at h
  | a :: b :: r, [], vs, d, h, hr => by simp [expL] at h
  | a :: b :: r, p :: ps, vs, d, h, hr => by
    simp only [expL] at h
    split at h <;> try (cases h; done)
    rename_i hs
    split at h <;> try (cases h; done)
    rename_i x y e1 e2
    cases h
    simp only [RelRes] at hr
    obtain ⟨v, vr, rfl, h1, h2, h3, h4⟩ := hr
    simp only [RelRs]
    exact ⟨v, vr, [], [], rfl, rfl, (shape_VOk hs h1).1, ⟨expD_rel hg hF hB e1 h2, rfl⟩, expL_rel hg hF hB e2 h4⟩
theorem expXL_rel {C : Cx} (hg : Good base C) : ∀ {rs : List Ty} {ps : List (Bool × List AV)} {vs : List Value} {d : DL rs} {ids : List Nat}, expXL C.H rs ps = some (d, ids) → RelRes C ps vs → RelRs (RelX C.w) rs d vs (ids.flatMap (blks C)) ∧ ∀ o ∈ ids, ∃ t l ver dp, C.H o = .arr t l ver dp
  | [], [], vs, d, ids, h, hr => by simp only [expXL, Option.some.injEq, Prod.mk.injEq] at h; obtain ⟨_, rfl⟩ := h; simp only [RelRes] at hr; simp only [RelRs]; exact ⟨⟨hr, rfl⟩, by simp⟩
  | [], _ :: _, vs, d, ids, h, hr => by simp [expXL] at h
  | [a], [], vs, d, ids, h, hr => by simp [expXL] at h
  | [a], [p], vs, d, ids, h, hr => by
    simp only [expXL] at h
    split at h <;> try (cases h; done)
    rename_i hs
    simp only [RelRes] at hr
    obtain ⟨v, vr, rfl, h1, h2, h3, rfl⟩ := hr
    obtain ⟨h5, h6⟩ := toX_rel hg h h2
    simp only [RelRs]
    exact ⟨⟨v, rfl, (shape_VOk hs h1).1, h5⟩, h6⟩
  | [a], _ :: _ :: _, vs, d, ids, h, hr => by simp [expXL] at h
  | a :: b :: r, [], vs, d, ids, h, hr => by simp [expXL] at h
  | a :: b :: r, p :: ps, vs, d, ids, h, hr => by
    simp only [expXL] at h
    split at h <;> try (cases h; done)
    rename_i hs
    split at h <;> try (cases h; done)
    rename_i x i y j e1 e2
    cases h
    simp only [RelRes] at hr
    obtain ⟨v, vr, rfl, h1, h2, h3, h4⟩ := hr
    obtain ⟨h5, h6⟩ := toX_rel hg e1 h2
    obtain ⟨h7, h8⟩ := expXL_rel hg e2 h4
    simp only [RelRs]
    refine ⟨⟨v, vr, _, _, rfl, by rw [List.flatMap_append], (shape_VOk hs h1).1, h5, h7⟩, fun o ho => ?_⟩
    rcases List.mem_append.1 ho with ho | ho
    · exact h6 o ho
    · exact h8 o ho

/-! ### a call by value -/
theorem Good.cx0 (base : Nat) (F G : Nat → Prop) (w : World) (hF : ∀ b, F b → b < w.heap.size) (hG : ∀ b, G b → b < w.heap.size) (hgl : GlOk F w) : Good base (Fw.cx0 F G w) where
  ob o := trivial
  low o b h := by simp [blks, Fw.cx0] at h
  nd o := by simp [blks, Fw.cx0]
  dj o p b _ h := by simp [blks, Fw.cx0] at h
  fz := hF
  gz := hG
  gl := hgl
theorem st0_tmps {C : Cx} {args : List AV} {vals : List Value} (hr : RelL C args vals) (n : Nat) (i : Nat) : RelA C ((args ++ List.replicate (n - args.length) AV.top).getD i AV.top) ((vals.toArray ++ Array.replicate (n - vals.length) undef).getD i undef) := by
  have hl := hr.len
  simp only [List.getD_eq_getElem?_getD, Array.getD_eq_getD_getElem?]
  rcases Nat.lt_or_ge i args.length with h | h
  · rw [List.getElem?_append_left h, Array.getElem?_append_left (by simpa [← hl] using h)]
    obtain ⟨u, h1, h2⟩ := hr.get (List.getElem?_eq_getElem h)
    rw [List.getElem?_eq_getElem h]
    simp only [List.getElem?_toArray, h1, Option.getD_some]
    exact h2
  · rw [List.getElem?_append_right h]
    cases hx : (List.replicate (n - args.length) AV.top)[i - args.length]? with
    | none => simp only [Option.getD_none, RelA]
    | some x =>
      have := List.mem_of_getElem? hx
      rw [List.mem_replicate] at this
      rw [this.2]; simp only [Option.getD_some, RelA]
theorem enter_run (hT : TbOk P T) {f : FuncId} {fn : Func} (hf : T.fn f = some fn) (vals : Array Value) (w : World) : (callFunc f vals).run P w = .ok (.enter f vals) w := by
  obtain ⟨h1, h2, h3⟩ := hT.fn f fn hf
  have h4 : ¬ fn.name = "runtime.NumGoroutine" := by simpa using h2
  have h5 : ¬ fn.body = none := by intro e; rw [e] at h3; cases h3
  simp [callFunc, h1, h4, h5]
theorem pure_sound (hT : TbOk P T) {Ca : Ca T} (hC : CaOk P T Ca) {n : Nat} {f : FuncId} {fn : Func} {c : Code} (hf : T.fn f = some fn) (hb : fn.body = some c) {args : List AV} {d : DL (T.rs f)}
    (h : exec T Ca f 0 n c (st0 fn args []) (finish T f fn) = some d) : PureOk P T f args d := by
  intro w F G vals hF hG hgl hr
  refine ⟨enter_run hT hf _ w, calls_of_wp (hT.fn f fn hf).1 hb ?_⟩
  let a0 : Act := { tmps := vals.toArray ++ Array.replicate (fn.ntmps - vals.toArray.size) undef, defers := [] }
  have hl := hr.len
  have hs : Sim w.heap.size (cx0 F G w) (st0 fn args []) a0 :=
    { good := Good.cx0 _ F G w hF hG hgl, low := Nat.le_refl _, H := by funext o; simp [cx0, st0, look], len := by simp [st0, a0, hl],
      tm := fun i => by have := st0_tmps hr fn.ntmps i; simpa [tvOf, st0, a0] using this, df := rfl }
  refine exec_sound (C0 := cx0 F G w) hT hC (fun _ _ => rfl) c hs (To.refl _ _) ?_ h
  intro e ρ a C h1 h2 h3
  have main : ∀ ps, allR (resCells T ρ) fn.results.toList = some ps → (if T.fresh f = true then (match expXL (look ρ.H) (T.rs f) ps with
        | some (d, ids) => if nodupB ids = true then some d else none
        | none => none) else expL (look ρ.H) (T.rs f) ps) = some d → a.defers = [] ∧ ∃ v, (results fn a.tmps).run P C.w = .ok v C.w ∧ ∃ v', Ending.returned v = Ending.returned v' ∧ Below w.heap.size w C.w ∧ ∃ F' S, (∀ b, F b → F' b) ∧ (∀ b, F' b → b < C.w.heap.size ∧ (F b ∨ w.heap.size ≤ b)) ∧ ResOk (T.fresh f) F' C.w (T.rs f) d v' S ∧ S.Nodup ∧ ∀ b ∈ S, w.heap.size ≤ b ∧ b < C.w.heap.size ∧ ¬ F' b := by
    intro ps hps hd
    obtain ⟨vs, r1, r2⟩ := results_run hT h2 hps
    refine ⟨h2.df, _, r1, _, rfl, h3.bel, ?_⟩
    rw [← h2.H] at hd
    by_cases hfr : T.fresh f = true
    · rw [if_pos hfr] at hd
      split at hd <;> try (cases hd; done)
      rename_i d' ids hx
      split at hd <;> try (cases hd; done)
      rename_i hnd
      cases hd
      obtain ⟨x1, x2⟩ := expXL_rel h2.good hx r2
      obtain ⟨y1, y2⟩ := Free.drop h2.good (nodupB_nodup hnd)
      refine ⟨C.F, ids.flatMap (blks C), h3.ext.F, fun b hb' => ⟨h2.good.fz b hb', h3.fnew b hb'⟩, ⟨vs, rfl, by rw [if_pos hfr]; exact x1⟩, y1, fun b hb' => ?_⟩
      obtain ⟨z1, z2, z3, _⟩ := y2 b hb'
      exact ⟨z1, z2, z3⟩
    · rw [if_neg hfr] at hd
      refine ⟨fun b => C.F b ∨ ∃ o, b ∈ blks C o, [], fun b hb' => .inl (h3.ext.F b hb'), fun b hb' => ?_, ⟨vs, rfl, by rw [if_neg hfr]; exact expL_rel h2.good (fun b hb' => .inl hb') (fun o b hb' => .inr ⟨o, hb'⟩) hd r2⟩, List.nodup_nil, fun b hb' => by cases hb'⟩
      rcases hb' with hb' | ⟨o, hb'⟩
      · exact ⟨h2.good.fz b hb', h3.fnew b hb'⟩
      · obtain ⟨z1, z2, _⟩ := h2.good.low o b hb'
        exact ⟨z2, .inr z1⟩
  unfold finish at h1
  cases e with
  | exit j => cases h1
  | normal =>
    simp only at h1
    split at h1 <;> try (cases h1; done)
    rename_i ps hps
    exact main ps hps h1
  | ret =>
    simp only at h1
    split at h1 <;> try (cases h1; done)
    rename_i ps hps
    exact main ps hps h1

/-! ### a call that works on its caller's objects -/
theorem res_ofCells {C : Cx} : ∀ {ps : List (Bool × List AV)} {vs : List Value}, RelRes C ps vs → RelL C (ps.map fun p => ofCells p.1 p.2) vs
  | [], vs, h => by simp only [RelRes] at h; subst h; simp [RelL]
  | p :: r, vs, h => by
    simp only [RelRes] at h
    obtain ⟨v, vr, rfl, h1, h2, h3, h4⟩ := h
    simp only [List.map_cons, RelL]
    refine ⟨v, vr, rfl, ?_, res_ofCells h4⟩
    unfold ofCells
    split at h1
    · rename_i hp
      rw [if_pos hp]
      obtain ⟨cs, rfl⟩ := h1
      simp only [RelA]
      exact ⟨cs.toList, by simp, by simpa [Value.cells] using h3, by simpa [Value.cells] using h2⟩
    · rename_i hp
      rw [if_neg hp]
      have hc : v.cells = #[v] := by cases v <;> first | rfl | simp [Value.oneCell'] at h1
      rw [hc] at h2
      match hp2 : p.2, h2 with
      | [], h2 => have := h2.len; simp at this
      | [x], h2 => obtain ⟨u, hu, hx⟩ := h2.one; simp at hu; subst hu; exact hx
      | x :: y :: q, h2 => have := h2.len; simp at this
theorem thr_sound (hT : TbOk P T) {Ca : Ca T} (hC : CaOk P T Ca) {n : Nat} {f : FuncId} {fn : Func} {c : Code} (hf : T.fn f = some fn) (hb : fn.body = some c) (hthr : T.thr f = true) {args : List AV} {H : List AO} {α : Type} {k : AV → List AO → Option α} {r : α}
    (h : exec T Ca f H.length n c (st0 fn args H) (fun e σ => (finishT T fn e σ).bind fun x => k x.1 x.2) = some r) : ThrOk P f args H k r := by
  intro base C0 vals hg hlow hH hr
  refine ⟨enter_run hT hf _ C0.w, calls_of_wp (hT.fn f fn hf).1 hb ?_⟩
  let a0 : Act := { tmps := vals.toArray ++ Array.replicate (fn.ntmps - vals.toArray.size) undef, defers := [] }
  have hl := hr.len
  have hs : Sim base C0 (st0 fn args H) a0 :=
    { good := hg, low := hlow, H := hH, len := by simp [st0, a0, hl],
      tm := fun i => by have := st0_tmps hr fn.ntmps i; simpa [tvOf, st0, a0] using this, df := rfl }
  refine exec_sound (C0 := C0) hT hC (fun o ho => by rw [hH]; exact look_hole ho) c hs (To.refl _ _) ?_ h
  intro e ρ a C h1 h2 h3
  obtain ⟨y, h1, hky⟩ := Option.bind_eq_some_iff.1 h1
  have main : ∀ ps, allR (resCells T ρ) fn.results.toList = some ps → y = (resA (ps.map fun p => ofCells p.1 p.2), ρ.H) →
      a.defers = [] ∧ ∃ v, (results fn a.tmps).run P C.w = .ok v C.w ∧ ∃ v', Ending.returned v = Ending.returned v' ∧ ∃ x H' C', k x H' = some r ∧ C'.w = C.w ∧ Good base C' ∧ To base C0 C' ∧ C'.H = look H' ∧ RelA C' x v' := by
    intro ps hps hr'
    subst hr'
    obtain ⟨vs, r1, r2⟩ := results_run hT h2 hps
    exact ⟨h2.df, _, r1, _, rfl, _, _, C, hky, rfl, h2.good, h3, h2.H, resV_rel (res_ofCells r2)⟩
  unfold finishT at h1
  cases e with
  | exit j => cases h1
  | normal =>
    simp only at h1
    split at h1 <;> try (cases h1; done)
    rename_i ps hps
    cases h1
    exact main ps hps rfl
  | ret =>
    simp only at h1
    split at h1 <;> try (cases h1; done)
    rename_i ps hps
    cases h1
    exact main ps hps rfl

/-! ### the interpreter is right -/
theorem run_sound (hT : TbOk P T) {orc : (f : FuncId) → List AV → Option (DL (T.rs f))} (ho : ∀ f args d, T.fn f = none → orc f args = some d → PureOk P T f args d) : ∀ n, CaOk P T (run T orc n)
  | 0 => ⟨fun f args d h => (by cases h), fun f args H k r h => (by cases h)⟩
  | n + 1 => by
    have ih := run_sound hT ho n
    refine ⟨fun f args d h => ?_, fun f args H k r h => ?_⟩
    · simp only [run] at h
      split at h
      · rename_i fn hf
        split at h <;> try (cases h; done)
        rename_i c hc
        exact pure_sound hT ih hf hc h
      · rename_i hf
        exact ho f args d hf h
    · simp only [run] at h
      split at h <;> try (cases h; done)
      rename_i hthr
      split at h <;> try (cases h; done)
      rename_i fn hf
      split at h <;> try (cases h; done)
      rename_i c hc
      exact thr_sound hT ih hf hc hthr h
end
end Go.Proofs.YthanbjnpfenniaaDoor.Fw

namespace Go.Proofs.YthanbjnpfenniaaDoor.Fw
open Go Go.RowKit
set_option linter.unusedVariables false
set_option linter.unusedSimpArgs false

mutual
/-- A type of the program is a kind of plain data. -/
inductive TyIs (P : Program) : Ty → TypeId → Prop
  | int {k : IntKind} {t : TypeId} : P.underlying t = some (.int k) → TyIs P (.int k) t
  | bool {t : TypeId} : P.underlying t = some .bool → TyIs P .bool t
  | str {t : TypeId} : P.underlying t = some .string → TyIs P .str t
  | sl {e : Ty} {t te : TypeId} : P.underlying t = some (.slice te) → TyIs P e te → P.cellsOf te = e.size → TyIs P (.sl e) t
  | st0 {a b : Ty} {t : TypeId} {fs : Array Field} {f : Field} {r : List Field} : P.underlying t = some (.struct fs) → fs.toList = f :: r → TyIs P a f.type → f.offset = 0 → P.cellsOf f.type = a.size → FsIs P b r a.size → P.cellsOf t = a.size + b.size → TyIs P (.pr a b) t
inductive FsIs (P : Program) : Ty → List Field → Nat → Prop
  | one {a : Ty} {f : Field} {off : Nat} : TyIs P a f.type → f.offset = off → P.cellsOf f.type = a.size → FsIs P a [f] off
  | cons {a b : Ty} {f g : Field} {r : List Field} {off : Nat} : TyIs P a f.type → f.offset = off → P.cellsOf f.type = a.size → FsIs P b (g :: r) (off + a.size) → FsIs P (.pr a b) (f :: g :: r) off
end
/-- What every value of the kind meets. -/
def WfD : (t : Ty) → t.D → Prop
  | .int k, n => (Lit.int k n).wf = true
  | .bool, _ => True
  | .str, s => s.size ≤ maxLen
  | .sl e, l => l.length ≤ maxLen ∧ ∀ x ∈ l, WfD e x
  | .pr a b, d => WfD a d.1 ∧ WfD b d.2
section
variable {H : Type} {enc : TypeId × Value → H} {P : Program} {w : World} {base : Nat} {spare : Nat → Bool} {held : Bool}
theorem choose_list {β γ : Type} {p : Nat → β → γ → Prop} : ∀ {l : List β} {k : Nat}, (∀ i x, l[i]? = some x → ∃ y, p (k + i) x y) → ∃ ys : List γ, ys.length = l.length ∧ ∀ i x y, l[i]? = some x → ys[i]? = some y → p (k + i) x y
  | [], k, h => ⟨[], rfl, fun i x y h => by simp at h⟩
  | a :: r, k, h => by
    obtain ⟨y, hy⟩ := h 0 a rfl
    obtain ⟨ys, h1, h2⟩ := choose_list (p := p) (l := r) (k := k + 1) fun i x hx => by
      have := h (i + 1) x (by simpa using hx)
      rwa [show k + (i + 1) = k + 1 + i by omega] at this
    refine ⟨y :: ys, by simp [h1], fun i x z hx hz => ?_⟩
    cases i with
    | zero => simp at hx hz; subst hx hz; exact hy
    | succ i =>
      have := h2 i x z (by simpa using hx) (by simpa using hz)
      rwa [show k + 1 + i = k + (i + 1) by omega] at this
def inHeap (w : World) (b : Nat) : Prop := b < w.heap.size
mutual
theorem trod_D : ∀ {ty : Ty} {t : TypeId}, TyIs P ty t → ∀ {fuel : Nat} {cs : List Value} {x : DataW H × List MemPlace}, DataW.trod enc P w base spare held fuel t cs = some x → ∃ d : ty.D, RelD (inHeap w) w ty d cs ∧ WfD ty d
  | _, _, .int ht, fuel, cs, x, h => by
    obtain ⟨n, rfl, _, hw⟩ := DataW.trod_int ht h
    exact ⟨n, by simp only [RelD], hw⟩
  | _, _, .bool ht, fuel, cs, x, h => by
    obtain ⟨b, rfl, _⟩ := DataW.trod_bool ht h
    exact ⟨b, by simp only [RelD], trivial⟩
  | _, _, .str ht, fuel, cs, x, h => by
    obtain ⟨s, rfl, _, hw⟩ := DataW.trod_string ht h
    exact ⟨s, by simp only [RelD], hw⟩
  | _, _, .sl (e := e) (te := te) ht he hc, fuel, cs, x, h => by
    rcases DataW.trod_slice ht h with ⟨rfl, _⟩ | ⟨a, len, cap, elems, rest, n, _, rfl, rfl, hb, hl, hm, hlen, hel, _⟩
    · exact ⟨[], by simp only [RelD]; exact ⟨none, 0, rfl, by simp, .inl trivial⟩, by simp [WfD]⟩
    · have each : ∀ i y, elems[i]? = some y → ∃ d : e.D, (∃ cs, RelD (inHeap w) w e d cs ∧ ∀ j u, cs[j]? = some u → w.cell? ((a.add ((0 + i) * e.size)).add j) = some u) ∧ WfD e d := by
        intro i y hy
        have hi : i < len := by rw [← hlen]; exact (List.getElem?_eq_some_iff.1 hy).1
        have := hel i hi
        rw [hy, Option.bind_eq_some_iff] at this
        obtain ⟨cs, h1, h2⟩ := this
        obtain ⟨d, h3, h4⟩ := trod_D he h2
        obtain ⟨_, h5, h6⟩ := World.cells?_some h1
        refine ⟨d, ⟨cs, h3, fun j u hj => ?_⟩, h4⟩
        have hjl : j < P.cellsOf te := by rw [← h5]; exact (List.getElem?_eq_some_iff.1 hj).1
        rw [Nat.zero_add, ← hc, h6 j hjl, hj]
      obtain ⟨l, hll, hp⟩ := choose_list (p := fun i (y : DataW H × List MemPlace) (d : e.D) => (∃ cs, RelD (inHeap w) w e d cs ∧ ∀ j u, cs[j]? = some u → w.cell? ((a.add (i * e.size)).add j) = some u) ∧ WfD e d) (k := 0) each
      have hlen2 : l.length = len := by rw [hll, hlen]
      have at_ : ∀ i (d : e.D), l[i]? = some d → (∃ cs, RelD (inHeap w) w e d cs ∧ ∀ j u, cs[j]? = some u → w.cell? ((a.add (i * e.size)).add j) = some u) ∧ WfD e d := by
        intro i d hd
        have hi : i < elems.length := by rw [← hll]; exact (List.getElem?_eq_some_iff.1 hd).1
        have := hp i _ d (List.getElem?_eq_getElem hi) hd
        rwa [Nat.zero_add] at this
      refine ⟨l, ?_, ?_⟩
      · simp only [RelD]
        refine ⟨some a, cap, by rw [hlen2], by omega, ?_⟩
        by_cases hl0 : l = []
        · exact .inl hl0
        · right
          have hpos : 0 < l.length := List.length_pos_iff.2 hl0
          obtain ⟨⟨cs, h1, h2⟩, _⟩ := at_ 0 _ (List.getElem?_eq_getElem hpos)
          have hcl : cs.length = e.size := h1.len
          have hcpos : 0 < cs.length := by rw [hcl]; exact e.size_pos
          have hcell := h2 0 _ (List.getElem?_eq_getElem hcpos)
          obtain ⟨b, o, sp⟩ := a
          have hsp : sp = none := by
            simp only [Addr.add, World.cell?] at hcell
            cases sp with
            | none => rfl
            | some z => split at hcell <;> simp at hcell
          subst hsp
          refine ⟨b, o, rfl, ?_, fun i d hd => ?_⟩
          · show b < w.heap.size
            rw [addr_add, addr_add] at hcell
            simp only [World.cell?] at hcell
            rcases Nat.lt_or_ge b w.heap.size with h | h
            · exact h
            · rw [Array.getElem?_eq_none h] at hcell; cases hcell
          · obtain ⟨⟨cs, h1, h2⟩, _⟩ := at_ i d hd
            refine ⟨cs, h1, fun j u hj => ?_⟩
            have := h2 j u hj
            rwa [addr_add, addr_add] at this
      · simp only [WfD]
        refine ⟨by omega, fun d hd => ?_⟩
        obtain ⟨i, hi⟩ := List.getElem?_of_mem hd
        exact (at_ i d hi).2
  | _, _, .st0 (a := a) (b := b) (fs := fs) (f := f) (r := r) ht hfs ha h0 hca hb hct, fuel, cs, x, h => by
    obtain ⟨xs, n, _, _, hcs, hxs, hf⟩ := DataW.trod_struct ht h
    have key : ∀ (i : Nat) (g : Field), (f :: r)[i]? = some g → ∃ y, DataW.trod enc P w base spare held n g.type ((cs.drop g.offset).take (P.cellsOf g.type)) = some y := by
      intro i g hg
      have hg' : fs[i]? = some g := by rw [← Array.getElem?_toList, hfs]; exact hg
      rw [hf i g hg']
      have : i < xs.length := by rw [hxs]; exact (Array.getElem?_eq_some_iff.1 hg').1
      exact ⟨_, List.getElem?_eq_getElem this⟩
    obtain ⟨y, hy⟩ := key 0 f rfl
    rw [h0, hca] at hy
    obtain ⟨d1, k1, k2⟩ := trod_D ha hy
    obtain ⟨d2, k3, k4⟩ := trod_Fs hb (cs := cs) (by rw [hcs, hct]) fun i g hg => key (i + 1) g (by simpa using hg)
    exact ⟨(d1, d2), by simp only [RelD]; exact ⟨_, _, (List.take_append_drop a.size cs).symm, by simpa using k1, k3⟩, k2, k4⟩
theorem trod_Fs : ∀ {ty : Ty} {r : List Field} {off : Nat}, FsIs P ty r off → ∀ {n : Nat} {cs : List Value}, cs.length = off + ty.size → (∀ (i : Nat) (g : Field), r[i]? = some g → ∃ y, DataW.trod enc P w base spare held n g.type ((cs.drop g.offset).take (P.cellsOf g.type)) = some y) → ∃ d : ty.D, RelD (inHeap w) w ty d (cs.drop off) ∧ WfD ty d
  | _, _, _, .one (a := a) (f := f) (off := off) ha ho hc, n, cs, hl, key => by
    obtain ⟨y, hy⟩ := key 0 f rfl
    rw [ho, hc] at hy
    obtain ⟨d, h1, h2⟩ := trod_D ha hy
    rw [List.take_of_length_le (by simp; omega)] at h1
    exact ⟨d, h1, h2⟩
  | _, _, _, .cons (a := a) (b := b) (f := f) (off := off) ha ho hc hr, n, cs, hl, key => by
    obtain ⟨y, hy⟩ := key 0 f rfl
    rw [ho, hc] at hy
    obtain ⟨d1, h1, h2⟩ := trod_D ha hy
    obtain ⟨d2, h3, h4⟩ := trod_Fs hr (n := n) (cs := cs) (by rw [hl]; simp only [Ty.size]; omega) fun i g hg => key (i + 1) g (by simpa using hg)
    refine ⟨(d1, d2), ?_, h2, h4⟩
    simp only [RelD]
    refine ⟨_, _, (List.take_append_drop a.size (cs.drop off)).symm, h1, ?_⟩
    rw [List.drop_drop]; exact h3
end
end
end Go.Proofs.YthanbjnpfenniaaDoor.Fw

namespace Go.Proofs.YthanbjnpfenniaaDoor.Fw
open Go Go.RowKit
set_option linter.unusedVariables false

theorem arg_rel {H : Type} {en : TypeId × Value → H} {P : Program} {W : World} {base : Nat} {spare : Nat → Bool} {held : Bool} {ty : Ty} {t : TypeId} {v : Value} {d : DataW H} {p : List MemPlace} (hy : TyIs P ty t) (hv : VOk ty v)
    (h : DataW.Trod en P W base spare held t v d p) : ∃ x : ty.D, RelA (cx0 (inHeap W) (inHeap W) W) (Fw.enc ty x) v ∧ WfD ty x := by
  obtain ⟨fuel, hf⟩ := h
  obtain ⟨x, h1, h2⟩ := trod_D hy hf
  obtain ⟨h3, h4⟩ := RelD.toAVs (C := cx0 (inHeap W) (inHeap W) W) h1
  exact ⟨x, hv.ofCells h3 (by simpa using h1.len) h4, h2⟩
theorem res_bool {fr : Bool} {F : Nat → Prop} {w : World} {b : Bool} {v : Value} {S : List Nat} (h : ResOk fr F w [.bool] b v S) : v = .bool b := by
  obtain ⟨vs, rfl, h⟩ := h
  have one : ∀ {v : Value}, VOk .bool v → v.cells.toList = [.bool b] → v = .bool b := by
    intro v h1 h2
    unfold VOk at h1
    rw [if_neg (by simp [Ty.isPr])] at h1
    cases v <;> first | (simp [Value.oneCell'] at h1; done) | (simp [Value.cells] at h2; try rw [h2]) 
  split at h
  · simp only [RelRs] at h
    obtain ⟨v, rfl, h1, h2⟩ := h
    simp only [RelX] at h2
    exact one h1 h2.1
  · simp only [RelRs] at h
    obtain ⟨v, rfl, h1, h2, _⟩ := h
    simp only [RelD] at h2
    exact one h1 h2
/-- The law is called, and answers true. -/
theorem law_calls {P : Program} {T : Tb} {f : FuncId} {args : List AV} {vals : List Value} {W : World} {d : DL (T.rs f)} (h : PureOk P T f args d) (hgl : GlOk (inHeap W) W) (hr : RelL (cx0 (inHeap W) (inHeap W) W) args vals) (hrs : ∀ fr F w v S, ResOk fr F w (T.rs f) d v S → v = .bool true) :
    Calls P f vals.toArray W fun e W' => e = .returned (.bool true) ∧ Below W.heap.size W W' := by
  refine (h W (inHeap W) (inHeap W) vals (fun _ h => h) (fun _ h => h) hgl hr).2.mono fun e W' he => ?_
  obtain ⟨v, rfl, bel, F', S, _, _, hres, _⟩ := he
  exact ⟨by rw [hrs _ _ _ _ _ hres], bel⟩
end Go.Proofs.YthanbjnpfenniaaDoor.Fw

namespace Go.Proofs.YthanbjnpfenniaaDoor.Fw
open Go Go.RowKit
set_option linter.unusedVariables false

/-- At most so many rounds. -/
def iterO {V R : Type} (G : (V → Option R) → V → Option R) : Nat → V → Option R
  | 0, _ => none
  | n + 1, v => G (iterO G n) v
theorem iterO_eq {V R : Type} {L : Nat → V → Option R} {G : (V → Option R) → V → Option R} (h0 : ∀ v, L 0 v = none) (h : ∀ n v, L (n + 1) v = G (L n) v) : ∀ n v, L n v = iterO G n v := by
  intro n
  induction n with
  | zero => intro v; rw [h0]; rfl
  | succ n ih => intro v; rw [h, show L n = iterO G n from funext ih]; rfl
/-- The code at a place: 0 the first or only part, 1 the second. -/
def codeAt : List Nat → Code → Code
  | 0 :: p, .seq a _ => codeAt p a
  | _ :: p, .seq _ b => codeAt p b
  | 0 :: p, .cond _ a _ => codeAt p a
  | _ :: p, .cond _ _ b => codeAt p b
  | _ :: p, .block _ c => codeAt p c
  | _ :: p, .loop c => codeAt p c
  | _, c => c
def opsAt (p : List Nat) (c : Code) : List Oper :=
  match codeAt p c with
  | .region _ ops _ => ops.toList
  | _ => []
section
variable {α : Type}
/-- What follows behind the code at a place. 'ms': for each loop around it, the rounds left and what is done at its head. -/
noncomputable def contAt (T : Tb) (C : Ca T) (fid : FuncId) (r0 n : Nat) : List Nat → List (Nat × (St → St)) → Code → (Ex → St → Option α) → Ex → St → Option α
  | 0 :: p, ms, .seq a b, k => contAt T C fid r0 n p ms a fun e ρ => match e with
    | .normal => exec T C fid r0 n b ρ k
    | e => k e ρ
  | _ :: p, ms, .seq _ b, k => contAt T C fid r0 n p ms b k
  | 0 :: p, ms, .cond _ a _, k => contAt T C fid r0 n p ms a k
  | _ :: p, ms, .cond _ _ b, k => contAt T C fid r0 n p ms b k
  | _ :: p, ms, .block id c, k => contAt T C fid r0 n p ms c fun e ρ => match e with
    | .exit j => if j = id then k .normal ρ else k (.exit j) ρ
    | e => k e ρ
  | _ :: p, m :: ms, .loop c, k => contAt T C fid r0 n p ms c fun e ρ => match e with
    | .normal => loopIt (exec T C fid r0 n c) m.2 k m.1 (m.2 ρ)
    | e => k e ρ
  | _, _, _, k => k
end
def bodyOf (f : Func) : Code := f.body.getD .skip
end Go.Proofs.YthanbjnpfenniaaDoor.Fw

/- One operation tells one outcome, and the same when more is seen. -/
import Derived.Test.YtnbaahpbmhhofaaDoorFwR
namespace Go.Proofs.YtnbaahpbmhhofaaDoor.Fw
open Go Go.RowKit
set_option linter.unusedVariables false
set_option linter.unusedSimpArgs false

/-- The first is the second, but that some objects are let go. -/
def Msk (Hm H : Nat → AO) : Prop := ∀ p, Hm p = H p ∨ Hm p = .dead
theorem Msk.arr {Hm H : Nat → AO} (hm : Msk Hm H) {p : Nat} {t : Ty} {l : List t.D} {ver : Nat} {dp : Bool} (h : Hm p = .arr t l ver dp) : H p = .arr t l ver dp := by
  rcases hm p with e | e
  · rw [← e, h]
  · rw [e] at h; cases h
theorem Msk.box {Hm H : Nat → AO} (hm : Msk Hm H) {p : Nat} {l : List AV} (h : Hm p = .box l) : H p = .box l := by
  rcases hm p with e | e
  · rw [← e, h]
  · rw [e] at h; cases h
theorem Msk.refl (H : Nat → AO) : Msk H H := fun _ => .inl rfl

theorem cellsAt_mono {Hm H : Nat → AO} (hm : Msk Hm H) {x : AV} {cs : List AV} (h : cellsAt Hm x = some cs) : cellsAt H x = some cs := by
  unfold cellsAt at h ⊢
  split at h <;> try (cases h; done)
  · split at h <;> try (cases h; done)
    rename_i hb
    simp only [hm.box hb]; exact h
  · split at h <;> try (cases h; done)
    rename_i hb
    simp only [hm.arr hb]; exact h
  · exact h
theorem allM_mono {f g : AV → Option AV} : ∀ {xs ys : List AV}, (∀ x y, x ∈ xs → f x = some y → g x = some y) → allM f xs = some ys → allM g xs = some ys
  | [], ys, _, h => by simpa [allM] using h
  | x :: r, ys, hfg, h => by
    simp only [allM] at h ⊢
    split at h <;> try (cases h; done)
    rename_i y s h1 h2
    cases h
    rw [hfg x y (by simp) h1, allM_mono (fun a b ha => hfg a b (List.mem_cons_of_mem _ ha)) h2]
theorem allM_mem {f : AV → Option AV} : ∀ {xs ys : List AV}, allM f xs = some ys → ∀ x ∈ xs, ∃ y, f x = some y
  | [], ys, h => by simp
  | x :: r, ys, h => by
    simp only [allM] at h
    split at h <;> try (cases h; done)
    rename_i y s h1 h2
    intro z hz
    rcases List.mem_cons.1 hz with rfl | hz
    · exact ⟨y, h1⟩
    · exact allM_mem h2 z hz
theorem flatMap_congr' {β γ : Type} {f g : β → List γ} : ∀ {xs : List β}, (∀ x ∈ xs, f x = g x) → xs.flatMap f = xs.flatMap g
  | [], _ => rfl
  | x :: r, h => by simp only [List.flatMap_cons]; rw [h x (by simp), flatMap_congr' fun y hy => h y (List.mem_cons_of_mem _ hy)]
theorem snap_mono {Hm H : Nat → AO} (hm : Msk Hm H) : ∀ (d : Nat) {x y : AV}, snap Hm d x = some y → snap H d x = some y := by
  intro d
  induction d with
  | zero => intro x y h; cases x <;> simp [snap] at h
  | succ d ih =>
    intro x y h
    have sub : ∀ {l ys : List AV}, allM (snap Hm d) l = some ys → allM (snap H d) l = some ys := fun h => allM_mono (fun _ _ _ h => ih h) h
    cases x <;> simp only [snap] at h ⊢ <;> try exact h
    · split at h <;> try (cases h; done)
      rename_i hb
      simp only [hm.arr hb]; exact h
    · split at h <;> try (cases h; done)
      rename_i hb
      simp only [hm.box hb]
      obtain ⟨ys, h1, rfl⟩ := Option.map_eq_some_iff.1 h
      rw [sub h1]; rfl
    all_goals
      obtain ⟨ys, h1, rfl⟩ := Option.map_eq_some_iff.1 h
      rw [sub h1]; rfl
theorem idsA_mono {Hm H : Nat → AO} (hm : Msk Hm H) : ∀ (d : Nat) {x y : AV}, snap Hm d x = some y → (idsA H d x = [] ↔ idsA Hm d x = []) := by
  intro d
  induction d with
  | zero => intro x y h; cases x <;> simp [snap] at h
  | succ d ih =>
    intro x y h
    have sub : ∀ {l ys : List AV}, allM (snap Hm d) l = some ys → (l.flatMap (idsA H d) = [] ↔ l.flatMap (idsA Hm d) = []) := fun {l ys} h => by
      simp only [List.flatMap_eq_nil_iff]
      constructor
      · intro k x hx; obtain ⟨y, hy⟩ := allM_mem h x hx; exact (ih hy).1 (k x hx)
      · intro k x hx; obtain ⟨y, hy⟩ := allM_mem h x hx; exact (ih hy).2 (k x hx)
    cases x <;> simp only [snap] at h <;> simp only [idsA]
    · split at h <;> try (cases h; done)
      rename_i hb
      simp only [hm.box hb, hb]
      obtain ⟨ys, h1, rfl⟩ := Option.map_eq_some_iff.1 h
      exact sub h1
    all_goals
      obtain ⟨ys, h1, rfl⟩ := Option.map_eq_some_iff.1 h
      exact sub h1
theorem toX_mono {Hm H : Nat → AO} (hm : Msk Hm H) : ∀ {t : Ty} {l : List AV} {y : t.D × List Nat}, toX Hm t l = some y → toX H t l = some y := by
  intro t
  induction t with
  | sl e _ =>
    intro l y h
    rcases l with _ | ⟨x, _ | ⟨z, s⟩⟩
    · simp [toX] at h
    · cases x <;> try (simp [toX] at h; done)
      · simpa only [toX] using h
      · simp only [toX] at h ⊢
        split at h <;> try (cases h; done)
        rename_i hb
        simp only [hm.arr hb]; exact h
    · simp [toX] at h
  | pr a b iha ihb =>
    intro l y h
    simp only [toX] at h ⊢
    split at h <;> try (cases h; done)
    rename_i x i z j h1 h2
    rw [iha h1, ihb h2]; exact h
  | _ =>
    intro l y h
    rcases l with _ | ⟨x, _ | ⟨z, s⟩⟩
    · simp [toX] at h
    · cases x <;> first | (simp [toX, boolOf] at h; done) | simpa only [toX] using h
    · simp [toX] at h
theorem toX_back {Hm H : Nat → AO} : ∀ {t : Ty} {l : List AV} {x : t.D} {y : t.D × List Nat}, toD t l = some x → toX H t l = some y → toX Hm t l = some y := by
  intro t
  induction t with
  | sl e _ =>
    intro l x y h1 h2
    rcases l with _ | ⟨v, _ | ⟨z, s⟩⟩
    · simp [toX] at h2
    · cases v <;> try (simp [toX] at h2; done)
      · simpa only [toX] using h2
      · simp [toD] at h1
    · simp [toX] at h2
  | pr a b iha ihb =>
    intro l x y h1 h2
    simp only [toX] at h2 ⊢
    simp only [toD] at h1
    split at h2 <;> try (cases h2; done)
    rename_i x1 i z j k1 k2
    split at h1 <;> try (cases h1; done)
    rename_i k3 k4
    rw [iha k3 k1, ihb k4 k2]; exact h2
  | _ =>
    intro l x y h1 h2
    rcases l with _ | ⟨v, _ | ⟨z, s⟩⟩
    · simp [toX] at h2
    · cases v <;> first | (simp [toX, boolOf] at h2; done) | simpa only [toX] using h2
    · simp [toX] at h2
theorem dataAllX_mono {Hm H : Nat → AO} (hm : Msk Hm H) {t : Ty} : ∀ {vs : List AV} {y : List t.D × List Nat}, dataAllX Hm t vs = some y → dataAllX H t vs = some y
  | [], y, h => by simpa [dataAllX] using h
  | v :: r, y, h => by
    simp only [dataAllX] at h ⊢
    split at h <;> try (cases h; done)
    rename_i x i s j h1 h2
    obtain ⟨cs, h3, h4⟩ := Option.bind_eq_some_iff.1 h1
    rw [h3, dataAllX_mono hm h2]
    simp only [Option.bind_some, toX_mono hm h4]
    exact h
theorem dataAllX_back {Hm H : Nat → AO} {t : Ty} : ∀ {vs : List AV} {l : List t.D} {y : List t.D × List Nat}, dataAll t vs = some l → dataAllX H t vs = some y → dataAllX Hm t vs = some y
  | [], l, y, _, h => by simpa [dataAllX] using h
  | v :: r, l, y, h', h => by
    simp only [dataAllX] at h ⊢
    simp only [dataAll] at h'
    split at h <;> try (cases h; done)
    rename_i x i s j h1 h2
    split at h' <;> try (cases h'; done)
    rename_i x' s' h5 h6
    obtain ⟨cs, h3, h4⟩ := Option.bind_eq_some_iff.1 h1
    rw [h3] at h5 ⊢
    simp only [Option.bind_some] at h5 ⊢
    rw [toX_back h5 h4, dataAllX_back h6 h2]
    exact h
theorem newArr_mono {Hm H : Nat → AO} (hm : Msk Hm H) {t : Ty} {vs : List AV} {nid : Nat} {u : List (Nat × AO)} (h : newArr Hm t vs nid = some u) : newArr H t vs nid = some u := by
  unfold newArr at h ⊢
  split at h
  · rename_i l ids h1
    rw [dataAllX_mono hm h1]; exact h
  · rename_i h1
    split at h <;> try (cases h; done)
    rename_i l h2
    cases h3 : dataAllX H t vs with
    | some y => rw [dataAllX_back h2 h3] at h1; cases h1
    | none => simp only [h2]; exact h
theorem srcOf_mono {Hm H : Nat → AO} (hm : Msk Hm H) {x : AV} {t : Ty} {l : List t.D} {own : Bool} {dies : List Nat} (h : srcOf Hm x = .some t l own dies) : srcOf H x = .some t l own dies := by
  unfold srcOf at h ⊢
  split at h <;> try (cases h; done)
  · exact h
  · split at h <;> try (cases h; done)
    rename_i hb
    simp only [hm.arr hb]; exact h

section
variable {α : Type} {r : α}
theorem testC_spec {c : AV} {x y : Option α} (h : testC c x y = some r) : ∃ b, boolOf c = some b ∧ (if b = true then x else y) = some r ∧ ∀ {β : Type} (x' y' : Option β), testC c x' y' = if b = true then x' else y' := by
  unfold testC at h
  split at h <;> try (cases h; done)
  · rename_i b; exact ⟨b, rfl, h, fun x y => rfl⟩
  · rename_i p hp
    refine ⟨decide p, rfl, ?_, fun x y => ?_⟩
    · by_cases hc : p <;> simpa [hc] using h
    · by_cases hc : p <;> simp [hc, testC]
  · rename_i p hp
    refine ⟨!decide p, rfl, ?_, fun x y => ?_⟩
    · by_cases hc : p <;> simpa [hc] using h
    · by_cases hc : p <;> simp [hc, testC]
theorem arithC_spec {op : BinOp} {kd : IntKind} {a b : Int} {kk : AV → Option α} (h : arithC op kd a b kk = some r) : ∃ v, kk v = some r ∧ ∀ {β : Type} (k' : AV → Option β), arithC op kd a b k' = k' v := by
  cases op <;> simp only [arithC] at h <;> try (cases h; done)
  all_goals first
    | exact ⟨_, h, fun k' => rfl⟩
    | (split at h <;> try (cases h; done)
       rename_i hb
       exact ⟨_, h, fun k' => by simp only [arithC]; rw [if_neg hb]⟩)
theorem binC_spec {op : BinOp} {x y : AV} {kk : AV → Option α} (h : binC op x y kk = some r) : ∃ v, kk v = some r ∧ ∀ {β : Type} (k' : AV → Option β), binC op x y k' = k' v := by
  unfold binC at h
  split at h <;> try (cases h; done)
  · rename_i k1 a k2 b
    split at h
    · split at h <;> try (cases h; done)
      rename_i hb
      exact ⟨_, h, fun k' => by simp only [binC]; rw [if_neg hb]⟩
    · split at h <;> try (cases h; done)
      rename_i hb
      exact ⟨_, h, fun k' => by simp only [binC]; rw [if_neg hb]⟩
    · rename_i h1 h2
      split at h <;> try (cases h; done)
      rename_i hk
      obtain ⟨v, h3, h4⟩ := arithC_spec h
      refine ⟨v, h3, fun k' => ?_⟩
      rw [← h4 k']
      cases op <;> first | exact absurd rfl h1 | exact absurd rfl h2 | simp only [binC, hk, if_pos]
  · rename_i l m
    split at h <;> try (cases h; done)
    · rename_i e he
      exact ⟨_, h, fun k' => by simp only [binC, he]⟩
    · rename_i e he
      exact ⟨_, h, fun k' => by simp only [binC, he]⟩
theorem binB_spec {op : BinOp} {x y : AV} {kk : AV → Option α} (h : binB op x y kk = some r) : ∃ v, kk v = some r ∧ ∀ {β : Type} (k' : AV → Option β), binB op x y k' = k' v := by
  unfold binB at h
  split at h <;> try (cases h; done)
  · rename_i h1 h2
    exact ⟨_, h, fun k' => by simp only [binB, h1, h2]⟩
  · rename_i h1 h2
    exact ⟨_, h, fun k' => by simp only [binB, h1, h2]⟩
theorem emptyC_spec {Hm : Nat → AO} {x : AV} {e n : Option α} (h : emptyC Hm x e n = some r) : ∃ b, (if b = true then e else n) = some r ∧ ∀ {H : Nat → AO}, Msk Hm H → ∀ {β : Type} (e' n' : Option β), emptyC H x e' n' = if b = true then e' else n' := by
  unfold emptyC at h
  split at h
  · exact ⟨true, h, fun _ _ _ _ => rfl⟩
  · rename_i t l
    exact ⟨l.isEmpty, h, fun _ _ _ _ => rfl⟩
  · split at h <;> try (cases h; done)
    rename_i hb
    split at h <;> try (cases h; done)
    rename_i hv
    exact ⟨_, h, fun hm _ e' n' => by simp only [emptyC, hm.arr hb, if_pos hv]⟩
  · cases h
theorem nilC_spec {op : BinOp} {y : Operand} {Hm : Nat → AO} {x : AV} {kk : AV → Option α} (h : nilC op Hm x y kk = some r) : ∃ v, kk v = some r ∧ ∀ {H : Nat → AO}, Msk Hm H → ∀ {β : Type} (k' : AV → Option β), nilC op H x y k' = k' v := by
  unfold nilC at h
  split at h <;> try (cases h; done)
  all_goals
    split at h <;> try (cases h; done)
    rename_i hn
    obtain ⟨b, h1, h2⟩ := emptyC_spec h
    cases b with
    | true => exact ⟨_, h1, fun hm _ k' => by simp only [nilC, if_pos hn]; rw [h2 hm]; rfl⟩
    | false => exact ⟨_, h1, fun hm _ k' => by simp only [nilC, if_pos hn]; rw [h2 hm]; rfl⟩
theorem lenC_spec {Hm : Nat → AO} {x : AV} {kk : AV → Option α} (h : lenC Hm x kk = some r) : ∃ v, kk v = some r ∧ ∀ {H : Nat → AO}, Msk Hm H → ∀ {β : Type} (k' : AV → Option β), lenC H x k' = k' v := by
  unfold lenC at h
  split at h <;> try (cases h; done)
  · exact ⟨_, h, fun _ _ k' => rfl⟩
  · exact ⟨_, h, fun _ _ k' => rfl⟩
  · split at h <;> try (cases h; done)
    rename_i hb
    split at h <;> try (cases h; done)
    rename_i hv
    exact ⟨_, h, fun hm _ k' => by simp only [lenC, hm.arr hb, if_pos hv]⟩
  · split at h <;> try (cases h; done)
    rename_i hb
    split at h <;> try (cases h; done)
    rename_i hv
    split at h <;> try (cases h; done)
    rename_i hd
    split at h <;> try (cases h; done)
    rename_i hs
    exact ⟨_, h, fun hm _ k' => by simp only [lenC, hm.arr hb, if_pos hv, if_pos hd, hs]⟩
section
variable {T : Tb} {k : AV → List (Nat × AO) → Option α}
theorem glbC_spec {g n : Nat} {e : TypeId} {i : Int} (h : glbC T g n e i k = some r) : ∃ v u, k v u = some r ∧ ∀ {β : Type} (k' : AV → List (Nat × AO) → Option β), glbC T g n e i k' = k' v u := by
  unfold glbC at h
  split at h <;> try (cases h; done)
  rename_i e1 e2
  split at h <;> try (cases h; done)
  rename_i e3
  split at h <;> try (cases h; done)
  rename_i e4
  obtain ⟨h1, h2, h⟩ := inC_some h
  exact ⟨_, _, h, fun k' => by simp only [glbC, e1, e2, if_pos e3, if_pos e4, inC, if_pos h1, if_pos h2]⟩
theorem islC_spec {Hm : Nat → AO} {size o ver i c : Nat} {j : Int} (h : islC Hm size o ver i c j k = some r) : ∃ v u, k v u = some r ∧ ∀ {H : Nat → AO}, Msk Hm H → ∀ {β : Type} (k' : AV → List (Nat × AO) → Option β), islC H size o ver i c j k' = k' v u := by
  unfold islC at h
  split at h <;> try (cases h; done)
  rename_i hb
  split at h <;> try (cases h; done)
  rename_i e1
  split at h <;> try (cases h; done)
  rename_i e2
  split at h <;> try (cases h; done)
  rename_i e3
  split at h <;> try (cases h; done)
  rename_i e4
  obtain ⟨h1, h2, h⟩ := inC_some h
  exact ⟨_, _, h, fun hm _ k' => by simp only [islC, hm.arr hb, if_pos e1, if_pos e2, if_pos e3, e4, inC, if_pos h1, if_pos h2]⟩
theorem iputC_spec {Hm : Nat → AO} {o ver i c j : Nat} {ys : List AV} (h : iputC Hm o ver i c j ys k = some r) : ∃ v u, k v u = some r ∧ ∀ {H : Nat → AO}, Msk Hm H → ∀ {β : Type} (k' : AV → List (Nat × AO) → Option β), iputC H o ver i c j ys k' = k' v u := by
  unfold iputC at h
  split at h <;> try (cases h; done)
  rename_i hb
  split at h <;> try (cases h; done)
  rename_i e1
  split at h <;> try (cases h; done)
  rename_i e2
  split at h <;> try (cases h; done)
  rename_i e3
  split at h <;> try (cases h; done)
  rename_i e4
  exact ⟨_, _, h, fun hm _ k' => by simp only [iputC, hm.arr hb, if_pos e1, if_pos e2, e3, if_pos e4]⟩
theorem wputC_spec {Hm : Nat → AO} {p j : Nat} {d : Ty} {l : List d.D} {cur : Nat} {dp : Bool} {ys : List AV} (h : wputC Hm p j d l cur dp ys k = some r) : ∃ v u, k v u = some r ∧ ∀ {H : Nat → AO}, Msk Hm H → ∀ {β : Type} (k' : AV → List (Nat × AO) → Option β), wputC H p j d l cur dp ys k' = k' v u := by
  unfold wputC at h
  split at h <;> try (cases h; done)
  rename_i e1
  split at h <;> try (cases h; done)
  rename_i e2
  split at h <;> try (cases h; done)
  rename_i e3
  split at h <;> try (cases h; done)
  rename_i e4
  split at h <;> try (cases h; done)
  rename_i e5
  exact ⟨_, _, h, fun hm _ k' => by simp only [wputC, if_pos e1, if_pos e2, toX_mono hm e3, if_pos e4, if_neg e5]⟩
end
end
end Go.Proofs.YtnbaahpbmhhofaaDoor.Fw

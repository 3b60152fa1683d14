/- Regions of open order: every order ends in the state that the text's order ends in. -/
import Derived.Test.YtnbaahpbmhhofaaDoorFwW
namespace Go.Proofs.YtnbaahpbmhhofaaDoor.Fw
open Go Go.RowKit
set_option linter.unusedVariables false
set_option linter.unusedSimpArgs false

/-! ### a place alone -/
theorem tvOf_putT (σ : St) (H' : List AO) (dst : Option Tmp) (v : AV) (i : Nat) : tvOf ⟨putT σ.t dst v, H'⟩ i = if dst = some i ∧ i < σ.t.length then v else tvOf σ i := by
  cases dst with
  | none => simp [tvOf, putT]
  | some d =>
    have := setT_get σ.t d v i
    simp only [tvOf, putT, List.getD_eq_getElem?_getD, this, Option.some.injEq]
    by_cases h : i = d
    · subst h
      by_cases h2 : i < σ.t.length
      · simp [h2]
      · simp [h2]
    · rw [if_neg (fun e => h e.1), if_neg (fun e => h e.1.symm)]
theorem eff_t (e : Eff) (σ : St) (i : Nat) : tvOf (effOf e σ) i = if e.rc.dst = some i ∧ i < σ.t.length then e.v else tvOf σ i := tvOf_putT σ _ _ _ i
theorem eff_len (e : Eff) (σ : St) : (effOf e σ).t.length = σ.t.length := putT_len _ _ _
theorem updU_at : ∀ (u : List (Nat × AO)) (H H' : Nat → AO) (p : Nat), H p = H' p → updU u H p = updU u H' p
  | [], H, H', p, h => h
  | (o, x) :: u, H, H', p, h => updU_at u _ _ p (by simp only [upd]; split; rfl; exact h)
theorem updU_out : ∀ (u : List (Nat × AO)) (H : Nat → AO) (p : Nat), p ∉ u.map (·.1) → updU u H p = H p
  | [], H, p, _ => rfl
  | (o, x) :: u, H, p, h => by
    simp only [List.map_cons, List.mem_cons, not_or] at h
    rw [updU, updU_out u _ p h.2, upd_ne _ _ h.1]
theorem updU_in : ∀ (u : List (Nat × AO)) (H H' : Nat → AO) (p : Nat), p ∈ u.map (·.1) → updU u H p = updU u H' p
  | [], H, H', p, h => by simp at h
  | (o, x) :: u, H, H', p, h => by
    by_cases hp : p ∈ u.map (·.1)
    · exact updU_in u _ _ p hp
    · simp only [List.map_cons, List.mem_cons] at h
      rcases h with h | h
      · subst h
        exact updU_at u _ _ p (by simp)
      · exact absurd h hp
theorem eff_H (e : Eff) (σ : St) : look (effOf e σ).H = updU e.u (look σ.H) := look_applyU _ _
theorem stD_len {D : Nat → Bool} : ∀ (es : List Eff) (k : Nat) (σ : St), (stD D k es σ).t.length = σ.t.length
  | [], k, σ => rfl
  | e :: r, k, σ => by
    simp only [stD]
    rw [stD_len r]
    split
    · exact eff_len e σ
    · rfl
theorem stD_t {D D' : Nat → Bool} {i : Nat} : ∀ {es : List Eff} {k : Nat} {σ σ' : St}, (∀ j e, es[j]? = some e → e.rc.dst = some i → D (k + j) = D' (k + j)) → tvOf σ i = tvOf σ' i → σ.t.length = σ'.t.length → tvOf (stD D k es σ) i = tvOf (stD D' k es σ') i
  | [], k, σ, σ', _, h, _ => h
  | e :: r, k, σ, σ', h, hv, hl => by
    simp only [stD]
    refine stD_t (fun j f hj hf => ?_) ?_ ?_
    · have := h (j + 1) f (by simpa using hj) hf
      rwa [show k + (j + 1) = k + 1 + j by omega] at this
    · by_cases hd : e.rc.dst = some i
      · have h0 := h 0 e rfl hd
        simp only [Nat.add_zero] at h0
        rw [h0]
        split
        · rw [eff_t, eff_t, hl, hv]
        · exact hv
      · have key : ∀ (b : Bool) (τ : St), tvOf (if b = true then effOf e τ else τ) i = tvOf τ i := by
          intro b τ
          split
          · rw [eff_t, if_neg (fun x => hd x.1)]
          · rfl
        rw [key, key]; exact hv
    · have key : ∀ (b : Bool) (τ : St), (if b = true then effOf e τ else τ).t.length = τ.t.length := by
        intro b τ
        split
        · exact eff_len e τ
        · rfl
      rw [key, key]; exact hl
theorem stD_H {D D' : Nat → Bool} {p : Nat} : ∀ {es : List Eff} {k : Nat} {σ σ' : St}, (∀ j e, es[j]? = some e → p ∈ e.u.map (·.1) → D (k + j) = D' (k + j)) → look σ.H p = look σ'.H p → look (stD D k es σ).H p = look (stD D' k es σ').H p
  | [], k, σ, σ', _, h => h
  | e :: r, k, σ, σ', h, hv => by
    simp only [stD]
    refine stD_H (fun j f hj hf => ?_) ?_
    · have := h (j + 1) f (by simpa using hj) hf
      rwa [show k + (j + 1) = k + 1 + j by omega] at this
    · by_cases hd : p ∈ e.u.map (·.1)
      · have h0 := h 0 e rfl hd
        simp only [Nat.add_zero] at h0
        rw [h0]
        split
        · rw [eff_H, eff_H]; exact updU_at _ _ _ _ hv
        · exact hv
      · have key : ∀ (b : Bool) (τ : St), look (if b = true then effOf e τ else τ).H p = look τ.H p := by
          intro b τ
          split
          · rw [eff_H, updU_out _ _ _ hd]
          · rfl
        rw [key, key]; exact hv
/-- One more is done. -/
theorem stD_put {D : Nat → Bool} {es : List Eff} {j : Nat} {e : Eff} {σ : St} (hj : es[j]? = some e) (hD : D j = false)
    (ht : ∀ k f, j < k → D k = true → es[k]? = some f → ∀ i, e.rc.dst = some i → f.rc.dst ≠ some i)
    (hH : ∀ k f, j < k → D k = true → es[k]? = some f → ∀ p, p ∈ e.u.map (·.1) → p ∉ f.u.map (·.1)) :
    (∀ i, tvOf (stD (fun k => D k || k == j) 0 es σ) i = tvOf (effOf e (stD D 0 es σ)) i) ∧ (∀ p, look (stD (fun k => D k || k == j) 0 es σ).H p = look (effOf e (stD D 0 es σ)).H p) := by
  have hjl : j < es.length := (List.getElem?_eq_some_iff.1 hj).1
  have hsplit : es = es.take j ++ e :: es.drop (j + 1) := by
    conv => lhs; rw [← List.take_append_drop j es]
    rw [List.drop_eq_getElem_cons hjl, (List.getElem?_eq_some_iff.1 hj).2]
  have hlen : (es.take j).length = j := by simp; omega
  let A := stD D 0 (es.take j) σ
  have h1 : stD D 0 es σ = stD D (j + 1) (es.drop (j + 1)) A := by
    conv => lhs; rw [hsplit]
    rw [stD_append, hlen, Nat.zero_add]
    simp only [stD, hD]
    rfl
  have h2 : stD (fun k => D k || k == j) 0 es σ = stD (fun k => D k || k == j) (j + 1) (es.drop (j + 1)) (effOf e A) := by
    conv => lhs; rw [hsplit]
    rw [stD_append, hlen, Nat.zero_add]
    have ha : stD (fun k => D k || k == j) 0 (es.take j) σ = A := stD_congr fun i hi => by
      rw [hlen] at hi
      have : (0 + i == j) = false := by simp; omega
      rw [this, Bool.or_false]
    rw [ha]
    simp only [stD, hD, beq_self_eq_true, Bool.or_true, if_true]
  have hrest : ∀ (k : Nat) (f : Eff), (es.drop (j + 1))[k]? = some f → es[j + 1 + k]? = some f := fun k f h => by rw [List.getElem?_drop] at h; exact h
  have hDD : ∀ k, (D (j + 1 + k) || (j + 1 + k == j)) = D (j + 1 + k) := fun k => by
    have : (j + 1 + k == j) = false := by simp; omega
    rw [this, Bool.or_false]
  refine ⟨fun i => ?_, fun p => ?_⟩
  · rw [h1, h2, eff_t, stD_len]
    by_cases hd : e.rc.dst = some i ∧ i < A.t.length
    · rw [if_pos hd]
      have : tvOf (stD (fun k => D k || k == j) (j + 1) (es.drop (j + 1)) (effOf e A)) i = tvOf (stD (fun _ => false) (j + 1) (es.drop (j + 1)) (effOf e A)) i := by
        refine stD_t (fun k f hk hf => ?_) rfl rfl
        simp only [hDD]
        cases hDk : D (j + 1 + k) with
        | false => rfl
        | true => exact absurd hf (ht _ f (by omega) hDk (hrest k f hk) i hd.1)
      rw [this, stD_none (fun _ _ => rfl), eff_t, if_pos hd]
    · rw [if_neg hd]
      refine stD_t (fun k f hk hf => hDD k) ?_ (eff_len e A)
      rw [eff_t, if_neg hd]
  · rw [h1, h2, eff_H]
    by_cases hp : p ∈ e.u.map (·.1)
    · have : look (stD (fun k => D k || k == j) (j + 1) (es.drop (j + 1)) (effOf e A)).H p = look (stD (fun _ => false) (j + 1) (es.drop (j + 1)) (effOf e A)).H p := by
        refine stD_H (fun k f hk hf => ?_) rfl
        simp only [hDD]
        cases hDk : D (j + 1 + k) with
        | false => rfl
        | true => exact absurd hf (hH _ f (by omega) hDk (hrest k f hk) p hp)
      rw [this, stD_none (fun _ _ => rfl), eff_H]
      exact updU_in _ _ _ _ hp
    · rw [updU_out _ _ _ hp]
      refine stD_H (fun k f hk hf => hDD k) ?_
      rw [eff_H, updU_out _ _ _ hp]

/-! ### what waits for what -/
theorem ancs_len : ∀ (ops : List Oper) (acc : List (List Nat)), (ancs ops acc).length = acc.length + ops.length
  | [], acc => rfl
  | o :: r, acc => by rw [ancs, ancs_len r]; simp; omega
theorem ancs_pre : ∀ (ops : List Oper) (acc : List (List Nat)) (j : Nat), j < acc.length → (ancs ops acc).getD j [] = acc.getD j []
  | [], acc, j, _ => rfl
  | o :: r, acc, j, h => by
    rw [ancs, ancs_pre r _ j (by simp; omega)]
    simp only [List.getD_eq_getElem?_getD, List.getElem?_append_left h]
theorem ancs_get : ∀ (ops : List Oper) (acc : List (List Nat)) (j : Nat) (o : Oper), ops[j]? = some o → ∀ i ∈ (ancs ops acc).getD (acc.length + j) [], i ∈ edgesOf o ∨ ∃ e ∈ edgesOf o, e < acc.length + j ∧ i ∈ (ancs ops acc).getD e []
  | [], acc, j, o, h => by simp at h
  | o' :: r, acc, 0, o, h => by
    simp at h; subst h
    intro i hi
    rw [ancs] at hi ⊢
    rw [ancs_pre r _ _ (by simp)] at hi
    simp only [Nat.add_zero, List.getD_eq_getElem?_getD, List.getElem?_append_right (Nat.le_refl _), Nat.sub_self, List.getElem?_cons_zero, Option.getD_some, List.mem_append, List.mem_flatMap] at hi
    rcases hi with hi | ⟨e, he, hi⟩
    · exact .inl hi
    · have hel : e < acc.length := by
        rcases Nat.lt_or_ge e acc.length with h | h
        · exact h
        · rw [List.getElem?_eq_none h] at hi; simp at hi
      refine .inr ⟨e, he, by omega, ?_⟩
      rw [ancs_pre r _ _ (by simp; omega)]
      simp only [List.getD_eq_getElem?_getD, List.getElem?_append_left hel]
      exact hi
  | o' :: r, acc, j + 1, o, h => by
    intro i hi
    rw [ancs] at hi ⊢
    have := ancs_get r (acc ++ [edgesOf o' ++ (edgesOf o').flatMap fun e => acc.getD e []]) j o (by simpa using h) i
    simp only [List.length_append, List.length_cons, List.length_nil, Nat.zero_add] at this
    rw [show acc.length + 1 + j = acc.length + (j + 1) by omega] at this
    exact this hi
theorem backOk_get : ∀ {ops : List Oper} {n j : Nat} {o : Oper}, backOk ops n = true → ops[j]? = some o → ∀ e ∈ edgesOf o, e < n + j
  | [], n, j, o, _, h => by simp at h
  | o' :: r, n, 0, o, hb, h => by
    simp at h; subst h
    simp only [backOk, Bool.and_eq_true, List.all_eq_true] at hb
    intro e he
    have := hb.1 e he
    exact Nat.le_of_ble_eq_true this
  | o' :: r, n, j + 1, o, hb, h => by
    simp only [backOk, Bool.and_eq_true] at hb
    intro e he
    have := backOk_get hb.2 (j := j) (by simpa using h) e he
    omega
theorem ancs_lt {all : List Oper} (hb : backOk all 0 = true) : ∀ (j : Nat) (o : Oper), all[j]? = some o → ∀ i ∈ (ancs all []).getD j [], i < j := by
  intro j
  induction j using Nat.strongRecOn with
  | _ j ih =>
    intro o ho i hi
    have hi' := ancs_get all [] j o ho i (by simpa using hi)
    rcases hi' with h | ⟨e, he, hel, h⟩
    · have := backOk_get hb ho i h; omega
    · simp only [List.length_nil, Nat.zero_add] at hel
      obtain ⟨o', ho'⟩ : ∃ o', all[e]? = some o' := by
        have : j < all.length := (List.getElem?_eq_some_iff.1 ho).1
        exact ⟨_, List.getElem?_eq_getElem (by omega)⟩
      have := ih e hel o' ho' i h
      omega
theorem countF {p q : Nat → Bool} : ∀ {l : List Nat} {x : Nat}, (∀ y ∈ l, q y = true → p y = true) → x ∈ l → p x = true → q x = false → (l.filter q).length < (l.filter p).length
  | [], x, _, hx, _, _ => by cases hx
  | y :: l, x, h, hx, hp, hq => by
    have hle : ∀ {l : List Nat}, (∀ y ∈ l, q y = true → p y = true) → (l.filter q).length ≤ (l.filter p).length := by
      intro l
      induction l with
      | nil => intro _; exact Nat.le_refl _
      | cons z l ih =>
        intro h
        have hz := h z (by simp)
        have := ih fun y hy => h y (List.mem_cons_of_mem _ hy)
        simp only [List.filter_cons]
        cases hqz : q z <;> cases hpz : p z <;> simp <;> first | omega | (rw [hz hqz] at hpz; cases hpz)
    have hl := hle fun z hz => h z (List.mem_cons_of_mem _ hz)
    rcases List.mem_cons.1 hx with rfl | hx
    · simp only [List.filter_cons, hp, hq]
      simp; omega
    · have := countF (fun z hz => h z (List.mem_cons_of_mem _ hz)) hx hp hq
      have hy := h y (by simp)
      simp only [List.filter_cons]
      cases hqz : q y <;> cases hpz : p y <;> simp <;> first | omega | (rw [hy hqz] at hpz; cases hpz)
end Go.Proofs.YtnbaahpbmhhofaaDoor.Fw

/- Loops that go over places: tests, lists made one by one, sums. -/
import Derived.Test.YthanbjnpfenniaaDoorPKit
namespace Go.Proofs.YthanbjnpfenniaaDoor.Fw
open Go Go.RowKit
set_option linter.unusedVariables false

theorem nt : ¬ ((!true) = true) := by simp
def foldN {S : Type} (step : Nat → S → S) : Nat → Nat → S → S
  | _, 0, s => s
  | i, d + 1, s => foldN step (i + 1) d (step i s)
def idxL {β : Type} (f : Nat → β) : Nat → Nat → List β
  | _, 0 => []
  | i, d + 1 => f i :: idxL f (i + 1) d
def allN (f : Nat → Bool) : Nat → Nat → Bool
  | _, 0 => true
  | i, d + 1 => f i && allN f (i + 1) d
theorem idxL_length {β : Type} (f : Nat → β) : ∀ d i, (idxL f i d).length = d
  | 0, _ => rfl
  | d + 1, i => by simp [idxL, idxL_length f d]
theorem idxL_get {β : Type} (f : Nat → β) : ∀ (d i j : Nat) (h : j < (idxL f i d).length), (idxL f i d)[j] = f (i + j)
  | 0, i, j, h => by simp [idxL] at h
  | d + 1, i, 0, h => by simp [idxL]
  | d + 1, i, j + 1, h => by
    show (idxL f (i + 1) d)[j]'(by simpa [idxL] using h) = _
    rw [idxL_get f d (i + 1) j]; congr 1; omega
theorem idxL_congr {β : Type} {f g : Nat → β} : ∀ (d i : Nat), (∀ j, i ≤ j → j < i + d → f j = g j) → idxL f i d = idxL g i d
  | 0, _, _ => rfl
  | d + 1, i, h => by
    simp only [idxL]
    rw [h i (Nat.le_refl _) (by omega), idxL_congr d (i + 1) fun j h1 h2 => h j (by omega) (by omega)]
theorem idxL_list {α β : Type} (l : List α) (dflt : α) (f : α → β) : ∀ (d i : Nat), i + d = l.length → idxL (fun j => f (l.getD j dflt)) i d = (l.drop i).map f
  | 0, i, h => by rw [List.drop_of_length_le (by omega)]; rfl
  | d + 1, i, h => by
    have hlt : i < l.length := by omega
    rw [List.drop_eq_getElem_cons hlt, List.map_cons]
    simp only [idxL]
    rw [getD_get hlt, idxL_list l dflt f d (i + 1) (by omega)]
theorem idxL_self {α : Type} (l : List α) (dflt : α) : idxL (fun j => l.getD j dflt) 0 l.length = l := by
  have := idxL_list l dflt id l.length 0 (by omega)
  simpa using this
theorem idxL_all {β : Type} (f : Nat → β) {P : β → Prop} : ∀ (d i : Nat), (∀ j, i ≤ j → j < i + d → P (f j)) → ∀ x ∈ idxL f i d, P x
  | 0, _, _, x, hx => by cases hx
  | d + 1, i, h, x, hx => by
    simp only [idxL, List.mem_cons] at hx
    rcases hx with rfl | hx
    · exact h i (Nat.le_refl _) (by omega)
    · exact idxL_all f d (i + 1) (fun j h1 h2 => h j (by omega) (by omega)) x hx
theorem allN_iff {f : Nat → Bool} : ∀ {d i : Nat}, allN f i d = true ↔ ∀ j, i ≤ j → j < i + d → f j = true
  | 0, i => by
    constructor
    · intro _ j h1 h2; omega
    · intro _; rfl
  | d + 1, i => by
    simp only [allN, Bool.and_eq_true]
    rw [allN_iff (d := d) (i := i + 1)]
    constructor
    · rintro ⟨h1, h2⟩ j h3 h4
      by_cases e : j = i
      · rw [e]; exact h1
      · exact h2 j (by omega) (by omega)
    · intro h
      exact ⟨h i (Nat.le_refl _) (by omega), fun j h1 h2 => h j (by omega) (by omega)⟩
theorem allN_congr {f g : Nat → Bool} : ∀ (d i : Nat), (∀ j, i ≤ j → j < i + d → f j = g j) → allN f i d = allN g i d
  | 0, _, _ => rfl
  | d + 1, i, h => by
    simp only [allN]
    rw [h i (Nat.le_refl _) (by omega), allN_congr d (i + 1) fun j h1 h2 => h j (by omega) (by omega)]
theorem foldN_congr {S : Type} {f g : Nat → S → S} : ∀ (d i : Nat) (s : S), (∀ j s, i ≤ j → j < i + d → f j s = g j s) → foldN f i d s = foldN g i d s
  | 0, _, _, _ => rfl
  | d + 1, i, s, h => by
    simp only [foldN]
    rw [h i s (Nat.le_refl _) (by omega), foldN_congr d (i + 1) _ fun j s h1 h2 => h j s (by omega) (by omega)]
/-- A loop over places that carries something on. -/
theorem fold_idx {S R V : Type} (mk : Int → S → V) (step : Nat → S → S) (inv : Nat → S → Prop) (K : S → Option R) {len : Nat} {G : (V → Option R) → V → Option R}
    (hs : ∀ self i s, i < len → inv i s → inv (i + 1) (step i s) ∧ G self (mk (i : Int) s) = self (mk ((i + 1 : Nat) : Int) (step i s)))
    (hk : ∀ self s, inv len s → G self (mk (len : Int) s) = K s) :
    ∀ (d i : Nat) (s : S), i + d = len → inv i s → ∀ n, d < n → iterO G n (mk (i : Int) s) = K (foldN step i d s) ∧ inv len (foldN step i d s)
  | 0, i, s, hi, hv, n, hn => by
    obtain ⟨n, rfl⟩ : ∃ m, n = m + 1 := ⟨n - 1, by omega⟩
    have e : i = len := by omega
    subst e
    exact ⟨hk _ s hv, hv⟩
  | d + 1, i, s, hi, hv, n, hn => by
    obtain ⟨n, rfl⟩ : ∃ m, n = m + 1 := ⟨n - 1, by omega⟩
    obtain ⟨h1, h2⟩ := hs (iterO G n) i s (by omega) hv
    rw [iterO_succ, h2]
    exact fold_idx mk step inv K hs hk d (i + 1) _ (by omega) h1 n (by omega)
/-- A list is made one by one. -/
theorem map_idx {β R V : Type} (mk : Int → List β → V) (f : Nat → β) (K : List β → Option R) {len : Nat} {G : (V → Option R) → V → Option R}
    (hs : ∀ self i out, i < len → out.length = i → G self (mk (i : Int) out) = self (mk ((i + 1 : Nat) : Int) (out ++ [f i])))
    (hk : ∀ self out, out.length = len → G self (mk (len : Int) out) = K out) :
    ∀ (d i : Nat) (out : List β), i + d = len → out.length = i → ∀ n, d < n → iterO G n (mk (i : Int) out) = K (out ++ idxL f i d)
  | 0, i, out, hi, hl, n, hn => by
    obtain ⟨n, rfl⟩ : ∃ m, n = m + 1 := ⟨n - 1, by omega⟩
    have e : i = len := by omega
    subst e
    rw [iterO_succ, hk _ out hl]; simp [idxL]
  | d + 1, i, out, hi, hl, n, hn => by
    obtain ⟨n, rfl⟩ : ∃ m, n = m + 1 := ⟨n - 1, by omega⟩
    rw [iterO_succ, hs _ i out (by omega) hl, map_idx mk f K hs hk d (i + 1) _ (by omega) (by simp [hl]) n (by omega)]
    simp [idxL]
/-- All places are tested. -/
theorem all_idx {R : Type} (f : Nat → Bool) (good bad : Option R) {len : Nat} {G : (Int → Option R) → Int → Option R}
    (hs : ∀ self i, i < len → G self (i : Int) = if f i = true then self ((i + 1 : Nat) : Int) else bad)
    (hk : ∀ self, G self (len : Int) = good) :
    ∀ (d i : Nat), i + d = len → ∀ n, d < n → iterO G n (i : Int) = if allN f i d = true then good else bad
  | 0, i, hi, n, hn => by
    obtain ⟨n, rfl⟩ : ∃ m, n = m + 1 := ⟨n - 1, by omega⟩
    have e : i = len := by omega
    subst e
    rw [iterO_succ, hk]; simp [allN]
  | d + 1, i, hi, n, hn => by
    obtain ⟨n, rfl⟩ : ∃ m, n = m + 1 := ⟨n - 1, by omega⟩
    rw [iterO_succ, hs _ i (by omega)]
    have e : allN f i (d + 1) = (f i && allN f (i + 1) d) := rfl
    by_cases h : f i = true
    · have e2 : allN f i (d + 1) = allN f (i + 1) d := by rw [e, h, Bool.true_and]
      rw [if_pos h, all_idx f good bad hs hk d (i + 1) (by omega) n (by omega), e2]
    · have h' : f i = false := by simpa using h
      have e2 : allN f i (d + 1) = false := by rw [e, h', Bool.false_and]
      rw [if_neg h, e2, if_neg (by simp)]
/-- The first place at which a test fails, or -1: told by whether there is one. -/
theorem first_idx {f : Nat → Bool} {len : Nat} {G : (Int → Option Int) → Int → Option Int}
    (hs : ∀ self i, i < len → G self (i : Int) = if (!f i) = true then some (i : Int) else self ((i + 1 : Nat) : Int))
    (hk : ∀ self, G self (len : Int) = some (-1)) :
    ∀ (d i : Nat), i + d = len → ∀ n, d < n → ∃ r : Int, iterO G n (i : Int) = some r ∧ decide (r ≥ 0) = !allN f i d
  | 0, i, hi, n, hn => by
    obtain ⟨n, rfl⟩ : ∃ m, n = m + 1 := ⟨n - 1, by omega⟩
    have e : i = len := by omega
    subst e
    exact ⟨-1, hk _, rfl⟩
  | d + 1, i, hi, n, hn => by
    obtain ⟨n, rfl⟩ : ∃ m, n = m + 1 := ⟨n - 1, by omega⟩
    rw [iterO_succ, hs _ i (by omega)]
    by_cases h : f i = true
    · obtain ⟨r, h1, h2⟩ := first_idx hs hk d (i + 1) (by omega) n (by omega)
      exact ⟨r, by rw [if_neg (by simp [h])]; exact h1, by simp only [allN, h, Bool.true_and]; exact h2⟩
    · have h' : f i = false := by simpa using h
      exact ⟨i, by rw [if_pos (by simp [h'])], by simp [allN, h']⟩
theorem fold_inv {S : Type} {P : S → Prop} {f : Nat → S → S} (h : ∀ i s, P s → P (f i s)) : ∀ (d i : Nat) (s : S), P s → P (foldN f i d s)
  | 0, _, _, hs => hs
  | d + 1, i, s, hs => fold_inv h d (i + 1) _ (h i s hs)
end Go.Proofs.YthanbjnpfenniaaDoor.Fw

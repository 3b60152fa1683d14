/- Signs, sizes: plain words. -/
import Derived.Test.YthanbjnpfenniaaDoorPMulI
namespace Go.Proofs.YthanbjnpfenniaaDoor.Fw
open Go Go.RowKit Go.Proofs.YthanbjnpfenniaaDoor.Limbs
set_option linter.unusedVariables false
set_option linter.unusedSimpArgs false

/-- The number of a sign and limbs. -/
def sv (n : Bool) (l : List Int) : Int := if n = true then -val l else val l
theorem sv_true (l : List Int) : sv true l = -val l := rfl
theorem sv_false (l : List Int) : sv false l = val l := rfl
theorem can_inj {n m : Bool} {l k : List Int} (h : Can n l) (h' : Can m k) (hv : sv n l = sv m k) : n = m ∧ l = k := by
  obtain ⟨hl, hs⟩ := h
  obtain ⟨hl', hs'⟩ := h'
  have p := val_nonneg hl.ok
  have p' := val_nonneg hl'.ok
  have z : ∀ {q : List Int}, Norm q → val q = 0 → q = [] := fun h1 h2 => h1.eq_nil h2
  cases n <;> cases m
  · exact ⟨rfl, norm_inj hl hl' (by simpa [sv] using hv)⟩
  · simp only [sv_true, sv_false] at hv
    have := hs' (z hl' (by omega))
    simp at this
  · simp only [sv_true, sv_false] at hv
    have := hs (z hl (by omega))
    simp at this
  · refine ⟨rfl, norm_inj hl hl' ?_⟩
    simp only [sv_true] at hv; omega
theorem can_sgn {s : Bool} {r : List Int} (h : Norm r) : Can (sgn s r) r := ⟨h, fun e => by subst e; unfold sgn; simp⟩
theorem sv_sgn {s : Bool} {r : List Int} : sv (sgn s r) r = sv s r := by
  unfold sgn
  by_cases h : 0 < r.length
  · rw [decide_eq_true h, Bool.and_true]
  · have : r = [] := List.eq_nil_of_length_eq_zero (by omega)
    subst this
    cases s <;> rfl
/-- How two sizes stand. -/
def ordV (a b : List Int) : Int := if val a < val b then -1 else if val a = val b then 0 else 1
theorem top_differs {a b : List Int} (ha : Ok a) (hb : Ok b) {i : Nat} (h : a.getD i 0 < b.getD i 0) : val (a.take (i + 1)) < val (b.take (i + 1)) := by
  rw [val_take_succ, val_take_succ]
  have h1 : Ok (a.take i) := fun x hx => ha x (List.mem_of_mem_take hx)
  have h2 : Ok (b.take i) := fun x hx => hb x (List.mem_of_mem_take hx)
  have v1 := val_lt h1
  have v2 := val_nonneg h2
  have l1 : B ^ (a.take i).length ≤ B ^ i := pow_le_pow (by simp; omega)
  have hm : B ^ i * (a.getD i 0 + 1) ≤ B ^ i * b.getD i 0 := Int.mul_le_mul_of_nonneg_left (by omega) (Int.le_of_lt (pow_pos' i))
  rw [Int.mul_add, Int.mul_one] at hm
  omega
theorem take_eq_of {a b : List Int} {i : Nat} (h : a.getD i 0 = b.getD i 0) (hv : val (a.take i) = val (b.take i)) : val (a.take (i + 1)) = val (b.take (i + 1)) := by
  rw [val_take_succ, val_take_succ, h, hv]
/-- From the top down: what is above place i is the same. -/
theorem cmp_top {a b : List Int} (i : Nat) : (a.drop i = b.drop i) → (val (a.take i) < val (b.take i) → val a < val b) ∧ (val (a.take i) = val (b.take i) → val a = val b) ∨ a.length ≠ b.length := by
  intro h
  by_cases hl : a.length = b.length
  · left
    have e : ∀ l : List Int, val l = val (l.take i) + B ^ (l.take i).length * val (l.drop i) := fun l => by rw [← val_append, List.take_append_drop]
    have e2 : (a.take i).length = (b.take i).length := by simp [hl]
    refine ⟨fun h1 => ?_, fun h1 => ?_⟩
    · rw [e a, e b, h, e2]; omega
    · rw [e a, e b, h, e2, h1]
  · exact .inr hl
theorem drop_cons {l : List Int} {i : Nat} (h : i < l.length) : l.drop i = l[i] :: l.drop (i + 1) := List.drop_eq_getElem_cons h
theorem ord_of_top {a b : List Int} (ha : Ok a) (hb : Ok b) (hl : a.length = b.length) {i : Nat} (hi : i < a.length) (hd : a.drop (i + 1) = b.drop (i + 1)) :
    (a.getD i 0 < b.getD i 0 → ordV a b = -1) ∧ (b.getD i 0 < a.getD i 0 → ordV a b = 1) := by
  unfold ordV
  have c1 := (cmp_top (a := a) (b := b) (i + 1) hd).resolve_right (fun h => h hl)
  have c2 := (cmp_top (a := b) (b := a) (i + 1) hd.symm).resolve_right (fun h => h hl.symm)
  refine ⟨fun h => ?_, fun h => ?_⟩
  · rw [if_pos (c1.1 (top_differs ha hb h))]
  · have := c2.1 (top_differs hb ha h)
    rw [if_neg (by omega), if_neg (by omega)]
theorem len_le {a b : List Int} (ha : Norm a) (hb : Norm b) (h : val b ≤ val a) : b.length ≤ a.length := by
  rcases Nat.lt_or_ge a.length b.length with g | g
  · have := val_lt_of_length ha hb g; omega
  · exact g
theorem ord_len {a b : List Int} (ha : Norm a) (hb : Norm b) : (a.length < b.length → ordV a b = -1) ∧ (b.length < a.length → ordV a b = 1) := by
  unfold ordV
  refine ⟨fun h => ?_, fun h => ?_⟩
  · rw [if_pos (val_lt_of_length ha hb h)]
  · have := val_lt_of_length hb ha h
    rw [if_neg (by omega), if_neg (by omega)]
theorem mx_nat (a b : Nat) : mx (a : Int) (b : Int) = ((max a b : Nat) : Int) := by unfold mx; split <;> omega
theorem getD_out {l : List Int} {i : Nat} (h : l.length ≤ i) : l.getD i 0 = 0 := by rw [List.getD_eq_getElem?_getD, List.getElem?_eq_none h]; rfl
theorem ordV_lt {a b : List Int} (h : val a < val b) : ordV a b = -1 := by unfold ordV; rw [if_pos h]
theorem ordV_eq {a b : List Int} (h : val a = val b) : ordV a b = 0 := by unfold ordV; rw [if_neg (by omega), if_pos h]
theorem ordV_gt {a b : List Int} (h : val b < val a) : ordV a b = 1 := by unfold ordV; rw [if_neg (by omega), if_neg (by omega)]
theorem ordV_ge {a b : List Int} (h : val b ≤ val a) : 0 ≤ ordV a b := by
  by_cases e : val a = val b
  · rw [ordV_eq e]; omega
  · rw [ordV_gt (by omega)]; omega
end Go.Proofs.YthanbjnpfenniaaDoor.Fw

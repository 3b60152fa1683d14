/- Two rows: whether they are alike: both sides. -/
import Derived.Test.YthanbjnpfenniaaDoorPSpace
import Derived.Test.YthanbjnpfenniaaDoorPMark
import Derived.Test.YthanbjnpfenniaaDoorEqTwo
namespace Go.Proofs.YthanbjnpfenniaaDoor.Fw
open Go Go.RowKit
set_option linter.unusedVariables false

noncomputable def twoB (m : Int) (l : List Int) (a : Bool) (ra : List (List Int)) (b : Bool) (rb : List (List Int)) : Bool := goodRowsB m l ra && (rowsB m l rb && (a == b))
theorem alike_i {n : Nat} (hn : Big + 12 ≤ n) {m : Int} {l : List Int} {a b : Bool} {ra rb : List (List Int)} (hl : l.length < 1099511627776) (ha : ∀ x ∈ ra, x.length < 1099511627776) (hb : ∀ x ∈ rb, x.length < 1099511627776) :
    c_impl_areAlike (run tb orc n) m l a ra b rb = some (twoB m l a ra b rb) := by
  obtain ⟨n, rfl, hq⟩ := up hn
  rw [impl_areAlike_eq]; unfold impl_areAlike_f impl_areAlike_x twoB
  rw [goodRows_i (by omega) hl ha]
  simp only [Option.bind_some]
  cases h : goodRowsB m l ra with
  | false => rfl
  | true =>
    rw [if_pos rfl, goodRows_i (by omega) hl hb]
    have hs : spaceB m l = true := by
      unfold goodRowsB at h
      rw [Bool.and_eq_true] at h; exact h.1
    simp only [Option.bind_some]
    have e : goodRowsB m l rb = rowsB m l rb := by unfold goodRowsB; rw [hs, Bool.true_and]
    rw [e]
    cases rowsB m l rb <;> rfl
theorem two_s {n : Nat} (hn : Big + 12 ≤ n) {m : Int} {l : List Int} {a b : Bool} {ra rb : List (List Int)} (hl : l.length < 1099511627776) (ha : ∀ x ∈ ra, x.length < 1099511627776) (hb : ∀ x ∈ rb, x.length < 1099511627776) :
    c_spec_l5Two (run tb orc n) m l a ra b rb = some (twoB m l a ra b rb) := by
  obtain ⟨n, rfl, hq⟩ := up hn
  rw [spec_l5Two_eq]; unfold spec_l5Two_f spec_l5Two_x twoB
  rw [goodRows_s (by omega) hl ha]
  simp only [Option.bind_some]
  cases h : goodRowsB m l ra with
  | false => rfl
  | true =>
    have hs : spaceB m l = true := by
      unfold goodRowsB at h
      rw [Bool.and_eq_true] at h; exact h.1
    rw [if_pos rfl, l5Rows_ret (by omega) (space_of hs).bs hb]
    simp only [Option.bind_some]
    cases rowsB m l rb <;> rfl
theorem two_of {m : Int} {l : List Int} {a b : Bool} {ra rb : List (List Int)} (h : twoB m l a ra b rb = true) : RowsOK m l ra ∧ RowsOK m l rb ∧ a = b := by
  unfold twoB at h
  simp only [Bool.and_eq_true, beq_iff_eq] at h
  obtain ⟨h1, h2, h3⟩ := h
  have hs : spaceB m l = true := by
    unfold goodRowsB at h1
    rw [Bool.and_eq_true] at h1; exact h1.1
  refine ⟨rows_of h1, rows_of ?_, h3⟩
  unfold goodRowsB
  rw [hs, h2]; rfl
/-- What is known of a place in good rows. -/
theorem RowsOK.at {m : Int} {l : List Int} {r : List (List Int)} (h : RowsOK m l r) {i : Nat} (hi : i < l.length) : 2 ≤ l.getD i 0 ∧ l.getD i 0 ≤ 268435456 ∧ ((r.getD i []).length : Int) = m ∧ m ≤ 16 ∧ ∀ k, k < (r.getD i []).length → 0 ≤ (r.getD i []).getD k 0 ∧ (r.getD i []).getD k 0 < l.getD i 0 := by
  have h1 := h.sp.bs.rng (h.sp.bs.at hi)
  have h2 := h.sp.n
  exact ⟨h1.1, h1.2, (h.row i hi).len, by omega, (h.row i hi).rng⟩
/-- Rows made place by place. -/
def eachR (l : List Int) (r : List (List Int)) (f : Nat → Nat → Int) : List (List Int) := idxL (fun i => idxL (f i) 0 (r.getD i []).length) 0 l.length
theorem eachR_small {m : Int} {l : List Int} {r : List (List Int)} (h : RowsOK m l r) (f : Nat → Nat → Int) : SmallR (eachR l r f) :=
  smallR_idx h.sp.bs.len fun i hi => by
    rw [idxL_length]
    have := h.at hi
    omega
/-- The rows as they are made by each. -/
theorem each_loop {m : Int} {l : List Int} {r : List (List Int)} (h : RowsOK m l r) (f : Nat → List Int) {G : (Int × List (List Int) → Option (List (List Int))) → Int × List (List Int) → Option (List (List Int))} {n : Nat} (hn : Big ≤ n)
    (hs : ∀ self i out, i < l.length → out.length = i → G self ((i : Int), out) = self (((i + 1 : Nat) : Int), out ++ [f i])) (hk : ∀ self out, G self ((l.length : Int), out) = some out) :
    iterO G n (0, []) = some (idxL f 0 l.length) := by
  have hb := big_ge
  have := h.sp.bs.len
  exact (map_idx (fun i out => (i, out)) f (fun out => some out) (len := l.length) (G := G) hs (fun self out _ => hk self out) l.length 0 [] (by omega) rfl n (by omega)).trans rfl
end Go.Proofs.YthanbjnpfenniaaDoor.Fw

/- Products of limbs: the program's and the specification's loops reckon the product. -/
import Derived.Test.YtnlgciomdghfiaaPGood
import Derived.Test.YtnlgciomdghfiaaPBits
namespace Go.Proofs.Ytnlgciomdghfiaa.Fw
open Go Go.RowKit Go.Proofs.Ytnlgciomdghfiaa.Limbs
set_option linter.unusedVariables false

theorem val_set : ∀ {l : List Int} {k : Nat} {x : Int}, k < l.length → val (l.set k x) = val l + B ^ k * (x - l.getD k 0)
  | [], k, x, h => by simp at h
  | y :: r, 0, x, h => by
    simp only [List.set_cons_zero, val_cons, List.getD_cons_zero]; simp; omega
  | y :: r, k + 1, x, h => by
    simp only [List.set_cons_succ, val_cons, List.getD_cons_succ]
    rw [val_set (by simpa using h), Int.mul_add, Int.pow_succ, Int.mul_comm (B ^ k) B, Int.mul_assoc]; omega
theorem ok_getD {l : List Int} (h : Ok l) (i : Nat) : 0 ≤ l.getD i 0 ∧ l.getD i 0 < B := by
  by_cases hi : i < l.length
  · rw [getD_get hi]; exact h _ (List.getElem_mem hi)
  · rw [List.getD_eq_getElem?_getD, List.getElem?_eq_none (by omega)]; exact ⟨Int.le_refl _, B_pos⟩
theorem ok_set {l : List Int} (h : Ok l) {k : Nat} {x : Int} (h0 : 0 ≤ x) (h1 : x < B) : Ok (l.set k x) := by
  intro y hy
  rcases List.mem_or_eq_of_mem_set hy with hy | rfl
  · exact h y hy
  · exact ⟨h0, h1⟩
theorem val_take_succ (l : List Int) (i : Nat) : val (l.take (i + 1)) = val (l.take i) + B ^ i * l.getD i 0 := by
  by_cases hi : i < l.length
  · rw [List.take_succ_eq_append_getElem hi, val_snoc, getD_get hi, List.length_take, Nat.min_eq_left (by omega)]
  · rw [List.take_of_length_le (by omega), List.take_of_length_le (by omega), List.getD_eq_getElem?_getD, List.getElem?_eq_none (by omega)]; simp
/-- Behind a place all is 0. -/
def ZeroFrom (k : Nat) (l : List Int) : Prop := ∀ j, k ≤ j → l.getD j 0 = 0
theorem getD_set_ne {l : List Int} {k j : Nat} {x : Int} (h : k ≠ j) : (l.set k x).getD j 0 = l.getD j 0 := by
  rw [List.getD_eq_getElem?_getD, List.getD_eq_getElem?_getD, List.getElem?_set_ne h]
theorem getD_set_eq {l : List Int} {k : Nat} {x : Int} (h : k < l.length) : (l.set k x).getD k 0 = x := by
  rw [List.getD_eq_getElem?_getD, List.getElem?_set_self (by simpa using h)]; rfl
theorem set_getD_self {l : List Int} {k : Nat} (h : k < l.length) : l.set k (l.getD k 0) = l := by
  rw [getD_get h]; exact List.set_getElem_self h

/-- The inner loop's state: the carry, the place, the limbs. -/
structure MulIn (a b : List Int) (i : Nat) (out : List Int) (c : Int) (j : Nat) : Prop where
  len : out.length = a.length + b.length
  ok : Ok out
  c0 : 0 ≤ c
  c1 : c < B
  z : ZeroFrom (i + b.length) out
  v : val out + B ^ (i + j) * c = val (a.take i) * val b + B ^ i * a.getD i 0 * val (b.take j)
theorem MulIn.sum {a b : List Int} {i : Nat} {out : List Int} {c : Int} {j : Nat} (h : MulIn a b i out c j) (ha : Ok a) (hb : Ok b) :
    0 ≤ a.getD i 0 * b.getD j 0 ∧ a.getD i 0 * b.getD j 0 ≤ 268435455 * 268435455 ∧ 0 ≤ out.getD (i + j) 0 ∧ out.getD (i + j) 0 ≤ 268435455 := by
  have h1 := ok_getD ha i
  have h2 := ok_getD hb j
  have h3 := ok_getD h.ok (i + j)
  rw [B_def] at h1 h2 h3
  have h4 : 0 ≤ a.getD i 0 * b.getD j 0 := Int.mul_nonneg h1.1 h2.1
  have h5 : a.getD i 0 * b.getD j 0 ≤ 268435455 * 268435455 := Int.mul_le_mul (by omega) (by omega) h2.1 (by omega)
  exact ⟨h4, h5, h3.1, by omega⟩
theorem MulIn.step {a b : List Int} {i : Nat} {out : List Int} {c : Int} {j : Nat} (h : MulIn a b i out c j) (ha : Ok a) (hb : Ok b) (hi : i < a.length) (hj : j < b.length) :
    MulIn a b i (out.set (i + j) ((c + (out.getD (i + j) 0 + a.getD i 0 * b.getD j 0)) % 268435456)) ((c + (out.getD (i + j) 0 + a.getD i 0 * b.getD j 0)) / 268435456) (j + 1) := by
  obtain ⟨s1, s2, s3, s4⟩ := h.sum ha hb
  have c0 := h.c0
  have c1 := h.c1
  rw [B_def] at c1
  have hl := h.len
  generalize hp : a.getD i 0 * b.getD j 0 = p at *
  generalize ht : c + (out.getD (i + j) 0 + p) = t at *
  refine ⟨by simpa using h.len, ok_set h.ok (by omega) (by rw [B_def]; omega), by omega, by rw [B_def]; omega, fun k hk => ?_, ?_⟩
  · rw [getD_set_ne (by omega)]; exact h.z k hk
  · have hv := h.v
    have ed := Int.emod_add_mul_ediv t 268435456
    rw [val_set (by omega), val_take_succ, show i + (j + 1) = (i + j) + 1 from by omega, Int.pow_succ, Int.mul_add, Int.mul_assoc (B ^ i) (a.getD i 0) (B ^ j * b.getD j 0)]
    have e1 : a.getD i 0 * (B ^ j * b.getD j 0) = B ^ j * p := by rw [← hp, ← Int.mul_assoc, Int.mul_comm (a.getD i 0), Int.mul_assoc]
    rw [e1, ← Int.mul_assoc (B ^ i) (B ^ j), ← Int.pow_add]
    have e2 : B ^ (i + j) * B * (t / 268435456) = B ^ (i + j) * (B * (t / 268435456)) := Int.mul_assoc _ _ _
    rw [e2]
    have e3 : B ^ (i + j) * (t % 268435456 - out.getD (i + j) 0) + B ^ (i + j) * (B * (t / 268435456)) = B ^ (i + j) * (c + p) := by
      rw [← Int.mul_add]; congr 1; rw [B_def]; omega
    rw [Int.mul_add] at e3
    omega
/-- The outer loop's state. -/
structure MulOut (a b : List Int) (i : Nat) (out : List Int) : Prop where
  len : out.length = a.length + b.length
  ok : Ok out
  z : ZeroFrom (i + b.length) out
  v : val out = val (a.take i) * val b
theorem MulOut.start (a b : List Int) : MulOut a b 0 (List.replicate (a.length + b.length) 0) := by
  have e : ∀ n, val (List.replicate n 0) = 0 := by
    intro n
    induction n with
    | zero => rfl
    | succ n ih => rw [List.replicate_succ, val_cons, ih]; simp
  refine ⟨by simp, fun x hx => ?_, fun j _ => ?_, by rw [e]; simp⟩
  · rw [(List.mem_replicate.1 hx).2]; exact ⟨Int.le_refl _, B_pos⟩
  · rw [List.getD_eq_getElem?_getD, List.getElem?_replicate]; split <;> rfl
theorem MulOut.inn {a b : List Int} {i : Nat} {out : List Int} (h : MulOut a b i out) : MulIn a b i out 0 0 :=
  ⟨h.len, h.ok, Int.le_refl _, B_pos, h.z, by rw [h.v]; simp⟩
theorem MulIn.out {a b : List Int} {i : Nat} {out : List Int} {c : Int} (h : MulIn a b i out c b.length) (hi : i < a.length) : MulOut a b (i + 1) (out.set (i + b.length) c) := by
  have hl := h.len
  refine ⟨by simpa using h.len, ok_set h.ok h.c0 h.c1, fun k hk => ?_, ?_⟩
  · rw [getD_set_ne (by omega)]; exact h.z k (by omega)
  · have hv := h.v
    rw [List.take_of_length_le (Nat.le_refl _)] at hv
    rw [val_set (by omega), h.z _ (Nat.le_refl _), Int.sub_zero, hv, val_take_succ, Int.add_mul]
theorem MulOut.done {a b : List Int} {out : List Int} (h : MulOut a b a.length out) : val out = val a * val b := by
  rw [h.v, List.take_of_length_le (Nat.le_refl _)]
/-- Both inner loops: from its start it comes to its end. -/
theorem mul_inner {R : Type} {a b : List Int} (ha : Ok a) (hb : Ok b) {i : Nat} (hi : i < a.length) (K : Int × Int × List Int → Option R) {G : (Int × Int × List Int → Option R) → Int × Int × List Int → Option R}
    (hs : ∀ self out c j, MulIn a b i out c j → j < b.length → G self (c, (j : Int), out) = self ((c + (out.getD (i + j) 0 + a.getD i 0 * b.getD j 0)) / 268435456, ((j + 1 : Nat) : Int), out.set (i + j) ((c + (out.getD (i + j) 0 + a.getD i 0 * b.getD j 0)) % 268435456)))
    (hk : ∀ self v, v.2.1 = (b.length : Int) → G self v = K v) : ∀ (d j : Nat) (out : List Int) (c : Int), j + d = b.length → MulIn a b i out c j → ∀ n, d < n →
      ∃ out' c', MulIn a b i out' c' b.length ∧ iterO G n (c, (j : Int), out) = K (c', (b.length : Int), out')
  | 0, j, out, c, hj, h, n, hn => by
    obtain ⟨n, rfl⟩ : ∃ m, n = m + 1 := ⟨n - 1, by omega⟩
    have e : j = b.length := by omega
    subst e
    exact ⟨out, c, h, hk _ _ rfl⟩
  | d + 1, j, out, c, hj, h, n, hn => by
    obtain ⟨n, rfl⟩ : ∃ m, n = m + 1 := ⟨n - 1, by omega⟩
    obtain ⟨out', c', h1, h2⟩ := mul_inner ha hb hi K hs hk d (j + 1) _ _ (by omega) (h.step ha hb hi (by omega)) n (by omega)
    exact ⟨out', c', h1, (hs _ _ _ _ h (by omega)).trans h2⟩
end Go.Proofs.Ytnlgciomdghfiaa.Fw

/- Words for laws over the interpreter: what a function answers from some depth on; loops; small facts. -/
import Derived.Test.YthanbjnpfenniaaDoorFwOrc
namespace Go.Proofs.YthanbjnpfenniaaDoor.Fw
open Go Go.RowKit
set_option linter.unusedVariables false

theorem big_is : ∃ b : Nat, 1208925819614629174706176 ≤ b := ⟨_, Nat.le_refl _⟩
/-- More than any loop's rounds. -/
noncomputable def Big : Nat := Classical.choose big_is
theorem big_ge : 1208925819614629174706176 ≤ Big := Classical.choose_spec big_is
theorem up {k n : Nat} (h : Big + (k + 1) ≤ n) : ∃ m, n = m + 1 ∧ Big + k ≤ m := ⟨n - 1, by omega, by omega⟩
theorem up2 {k n : Nat} (h : Big + (k + 2) ≤ n) : ∃ m, n = m + 2 ∧ Big + k ≤ m := ⟨n - 2, by omega, by omega⟩
theorem up3 {k n : Nat} (h : Big + (k + 3) ≤ n) : ∃ m, n = m + 3 ∧ Big + k ≤ m := ⟨n - 3, by omega, by omega⟩
theorem iterO_succ {V R : Type} (G : (V → Option R) → V → Option R) (n : Nat) (v : V) : iterO G (n + 1) v = G (iterO G n) v := rfl
theorem iter_eq {V R : Type} {G : (V → Option R) → V → Option R} (F : V → Option R) (I : V → Prop) (μ : V → Nat)
    (step : ∀ v self, I v → (∀ v', I v' → μ v' < μ v → self v' = F v') → G self v = F v) : ∀ n v, I v → μ v < n → iterO G n v = F v := by
  intro n
  induction n with
  | zero => intro v _ h; exact absurd h (Nat.not_lt_zero _)
  | succ n ih => intro v hv hn; exact step v _ hv fun v' hv' hm => ih v' hv' (by omega)

/-! ### numbers -/
theorem w64 {n : Int} (h1 : -9223372036854775808 ≤ n) (h2 : n ≤ 9223372036854775807) : wr .i64 n = n := by
  rw [wr_eq]
  simp [IntKind.wrap, IntKind.signed, IntKind.bits]
  omega
theorem wr_wrap64 (n : Int) : wr .i64 n = wrap64 n := by
  rw [wr_eq]; unfold wrap64
  simp [IntKind.wrap, IntKind.signed, IntKind.bits]
  omega
theorem wu64 {n : Int} (h1 : 0 ≤ n) (h2 : n < 18446744073709551616) : wr .u64 n = n := by
  rw [wr_eq]
  simp [IntKind.wrap, IntKind.signed, IntKind.bits]
  omega
theorem wr_u64 (n : Int) : wr .u64 n = n % 18446744073709551616 := by
  rw [wr_eq]
  simp [IntKind.wrap, IntKind.signed, IntKind.bits]
theorem tmod_nn {a b : Int} (h : 0 ≤ a) : Int.tmod a b = a % b := Int.tmod_eq_emod_of_nonneg h
theorem tdiv_nn {a b : Int} (h : 0 ≤ a) : Int.tdiv a b = a / b := Int.tdiv_eq_ediv_of_nonneg h
theorem limB_lt {n : Nat} (h : n < 1099511627776) : limB n = true := by
  unfold limB lim; exact Nat.ble_eq_true_of_le h
theorem lim_lt {n : Nat} (h : n < 1099511627776) : n < lim := h
theorem getD_get {α : Type} {l : List α} {d : α} {i : Nat} (h : i < l.length) : l.getD i d = l[i] := by
  rw [List.getD_eq_getElem?_getD, List.getElem?_eq_getElem h]; rfl
theorem nat_i (i : Nat) : ((i : Int)).toNat = i := Int.toNat_natCast i
theorem ni1 (i : Nat) : (i : Int) + 1 = ((i + 1 : Nat) : Int) := by omega
theorem both_same {α : Type} (x : Option α) : both x x = x := by unfold both; rw [if_pos rfl]

/-- The numbers from k on, n of them. -/
def ramp (k : Int) : Nat → List Int
  | 0 => []
  | n + 1 => k :: ramp (k + 1) n
theorem ramp_length : ∀ (k : Int) (n : Nat), (ramp k n).length = n
  | _, 0 => rfl
  | k, n + 1 => by simp [ramp, ramp_length]
theorem ramp_get : ∀ (k : Int) (n i : Nat) (h : i < (ramp k n).length), (ramp k n)[i] = k + i
  | _, 0, i, h => by simp [ramp] at h
  | k, n + 1, 0, h => by simp [ramp]
  | k, n + 1, i + 1, h => by
    show (ramp (k + 1) n)[i]'(by simpa [ramp] using h) = _
    rw [ramp_get (k + 1) n i]; omega
theorem take_set_succ {α : Type} {l m : List α} {i : Nat} {x : α} (hi : i < l.length) (hm : i < m.length) (ht : l.take i = m.take i) (hx : x = m[i]) : (l.set i x).take (i + 1) = m.take (i + 1) := by
  rw [List.take_succ_eq_append_getElem (by simpa using hi), List.take_succ_eq_append_getElem hm, List.take_set, List.getElem_set_self, List.set_eq_of_length_le (by simp; omega), ht, hx]
/-- The loop that marks. -/
theorem mark_loop {R : Type} (K : Int × Int × List Int → Option R) {G : (Int × Int × List Int → Option R) → Int × Int × List Int → Option R}
    (hG : ∀ self v, G self v = if v.2.1 < (v.2.2.length : Int) then (if 0 ≤ v.2.1 then (if v.2.1 < (v.2.2.length : Int) then self (wr .i64 (v.1 + (1:Int)), wr .i64 (v.2.1 + (1:Int)), v.2.2.set v.2.1.toNat v.1) else none) else none) else K v)
    {l : List Int} {k0 : Int} (h0 : 0 ≤ k0) (h1 : k0 + l.length ≤ 4611686018427387904) {n : Nat} (hn : Big ≤ n) :
    iterO G n (k0, (0:Int), l) = K (k0 + l.length, (l.length : Int), ramp k0 l.length) := by
  have hb := big_ge
  have hr := ramp_length k0 l.length
  have := iter_eq (G := G) (fun _ => K (k0 + l.length, (l.length : Int), ramp k0 l.length)) (fun v => ∃ i : Nat, i ≤ l.length ∧ v.1 = k0 + i ∧ v.2.1 = i ∧ v.2.2.length = l.length ∧ v.2.2.take i = (ramp k0 l.length).take i) (fun v => l.length - v.2.1.toNat) ?_ n (k0, (0:Int), l) ⟨0, by omega, by simp, by simp, rfl, by simp⟩ (by simp; omega)
  · exact this
  · rintro ⟨k, j, m⟩ self ⟨i, hi, hk, hj, hm, ht⟩ hs
    simp only at hk hj hm ht hs
    subst hk hj
    rw [hG]
    dsimp only
    by_cases h : i < l.length
    · rw [if_pos (by omega), if_pos (by omega), if_pos (by omega), w64 (by omega) (by omega), w64 (by omega) (by omega), nat_i, ni1, Int.add_assoc, ni1]
      exact hs _ ⟨i + 1, by omega, rfl, rfl, by simpa using hm, take_set_succ (by omega) (by omega) ht (by rw [ramp_get])⟩ (by simp only [nat_i]; omega)
    · rw [if_neg (by omega)]
      have e : i = l.length := by omega
      subst e
      rw [List.take_of_length_le (by omega), List.take_of_length_le (by omega)] at ht
      rw [ht]
end Go.Proofs.YthanbjnpfenniaaDoor.Fw

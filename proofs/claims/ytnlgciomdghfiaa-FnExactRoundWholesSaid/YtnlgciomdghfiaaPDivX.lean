/- Division of whole numbers, down and to the nearest: both sides. -/
import Derived.Test.YtnlgciomdghfiaaPDown
import Derived.Test.YtnlgciomdghfiaaPLen
import Derived.Test.YtnlgciomdghfiaaKnuth
namespace Go.Proofs.Ytnlgciomdghfiaa.Fw
open Go Go.RowKit Go.Proofs.Ytnlgciomdghfiaa.Limbs
set_option linter.unusedVariables false
set_option linter.unusedSimpArgs false

/-! ### back by a power of two -/
def unsh (D E : Int) : List Int → List Int
  | [] => []
  | x :: xs => (x / E + xs.getD 0 0 * D) % B :: unsh D E xs
theorem unsh_length (D E : Int) : ∀ l : List Int, (unsh D E l).length = l.length
  | [] => rfl
  | x :: xs => by simp [unsh, unsh_length D E xs]
theorem unsh_ok (D E : Int) : ∀ l : List Int, Ok (unsh D E l)
  | [] => Ok.nil
  | x :: xs => Ok.cons (Int.emod_nonneg _ (by have := B_pos; omega)) (Int.emod_lt_of_pos _ B_pos) (unsh_ok D E xs)
theorem unsh_getD (D E : Int) : ∀ (l : List Int) (i : Nat), i < l.length → (unsh D E l).getD i 0 = (l.getD i 0 / E + l.getD (i + 1) 0 * D) % B
  | [], i, h => by simp at h
  | x :: xs, 0, h => by simp [unsh]
  | x :: xs, i + 1, h => by
    simp only [unsh, List.getD_cons_succ]
    exact unsh_getD D E xs i (by simpa using h)
theorem val_unsh {D E : Int} (hDE : E * D = B) (hD : 0 < D) (hE : 0 < E) : ∀ {l : List Int}, Ok l → val (unsh D E l) = val l / E
  | [], _ => by simp [unsh]
  | x :: xs, h => by
    have hx := h.head
    have ih := val_unsh hDE hD hE h.tail
    have hv := val_nonneg h.tail
    have hB := B_pos
    rw [unsh, val_cons, val_cons, ih]
    -- y is the rest modulo B
    have hy : ∃ k, val xs = xs.getD 0 0 + B * k := by
      cases xs with
      | nil => exact ⟨0, by simp⟩
      | cons y t => exact ⟨val t, by simp [val_cons]⟩
    obtain ⟨k, hk⟩ := hy
    generalize xs.getD 0 0 = y at hk ⊢
    generalize val xs = X at hk hv ⊢
    have hf := Int.emod_nonneg X (show E ≠ 0 by omega)
    have hf1 := Int.emod_lt_of_pos X hE
    have hX := Int.emod_add_mul_ediv X E
    generalize hF : X % E = f at hf hf1 hX
    generalize hQ : X / E = e at hX
    have hxE : (x + B * X) / E = x / E + D * X := by
      rw [← hDE, Int.mul_assoc, Int.add_mul_ediv_left _ _ (by omega)]
    rw [hxE]
    have hxd := Int.ediv_nonneg hx.1 (Int.le_of_lt hE)
    have hxd1 : x / E < D := by rw [Int.ediv_lt_iff_lt_mul hE, Int.mul_comm]; rw [hDE]; exact hx.2
    have key : x / E + y * D = (x / E + f * D) + B * (e - k * D) := by
      have : y = f + E * e - B * k := by omega
      rw [this, Int.sub_mul, Int.add_mul, Int.mul_sub, ← hDE]
      have e1 : E * e * D = E * D * e := by rw [Int.mul_assoc, Int.mul_comm e D, ← Int.mul_assoc]
      have e2 : E * D * k * D = E * D * (k * D) := by rw [Int.mul_assoc]
      rw [e1, e2]; omega
    have hfD : f * D ≤ (E - 1) * D := Int.mul_le_mul_of_nonneg_right (by omega) (by omega)
    have hfD0 : 0 ≤ f * D := Int.mul_nonneg hf (by omega)
    rw [Int.sub_mul, hDE, Int.one_mul] at hfD
    rw [key, Int.add_mul_emod_self_left, Int.emod_eq_of_lt (by omega) (by omega)]
    have : D * X = f * D + B * e := by
      rw [← hX, Int.mul_add, ← Int.mul_assoc, Int.mul_comm D E, hDE, Int.mul_comm D f]
    omega

/-! ### a multiple added at a place -/
structure Lin (v u0 : List Int) (s lo hi : Int) (j : Nat) (u : List Int) (c : Int) (i : Nat) : Prop where
  len : u.length = u0.length
  ok : Ok u
  c0 : lo ≤ c
  c1 : c ≤ hi
  v : val u + B ^ (j + i) * c = val u0 + B ^ j * (s * val (v.take i))
  far : ∀ k, j + i ≤ k → u.getD k 0 = u0.getD k 0
/-- What a multiplier allows. -/
structure Mult (s lo hi : Int) : Prop where
  lo0 : -268435456 ≤ lo
  hi1 : hi ≤ 268435456
  z0 : lo ≤ 0
  z1 : 0 ≤ hi
  st : ∀ x y c : Int, 0 ≤ x → x < 268435456 → 0 ≤ y → y < 268435456 → lo ≤ c → c ≤ hi → lo ≤ (c + (x + s * y)) / 268435456 ∧ (c + (x + s * y)) / 268435456 ≤ hi
theorem Mult.one : Mult 1 0 1 := ⟨by omega, by omega, by omega, by omega, fun x y c h0 h1 h2 h3 h4 h5 => by rw [Int.one_mul]; omega⟩
theorem Mult.neg {q : Int} (h0 : 0 ≤ q) (h1 : q < 268435456) : Mult (-q) (-268435455) 0 := by
  refine ⟨by omega, by omega, by omega, by omega, fun x y c g0 g1 g2 g3 g4 g5 => ?_⟩
  have m0 : 0 ≤ q * y := Int.mul_nonneg h0 g2
  have m1 : q * y ≤ 268435455 * 268435455 := Int.mul_le_mul (by omega) (by omega) g2 (by omega)
  rw [Int.neg_mul]
  omega
theorem Lin.start {v u0 : List Int} {s lo hi : Int} {j : Nat} (m : Mult s lo hi) (h : Ok u0) : Lin v u0 s lo hi j u0 0 0 :=
  ⟨rfl, h, m.z0, m.z1, by simp, fun _ _ => rfl⟩
theorem Lin.step {v u0 : List Int} {s lo hi : Int} {j : Nat} {u : List Int} {c : Int} {i : Nat} (m : Mult s lo hi) (hv : Ok v) (h : Lin v u0 s lo hi j u c i) (hi' : i < v.length) (hj : j + i < u0.length) :
    Lin v u0 s lo hi j (u.set (j + i) ((c + (u.getD (j + i) 0 + s * v.getD i 0)) % 268435456)) ((c + (u.getD (j + i) 0 + s * v.getD i 0)) / 268435456) (i + 1) := by
  have hu := ok_getD h.ok (j + i)
  have hy := ok_getD hv i
  have hl := h.len
  rw [B_def] at hu hy
  have st := m.st _ _ c hu.1 hu.2 hy.1 hy.2 h.c0 h.c1
  refine ⟨by simpa using hl, ok_set h.ok (Int.emod_nonneg _ (by omega)) (by rw [B_def]; exact Int.emod_lt_of_pos _ (by omega)), st.1, st.2, ?_, fun k hk => ?_⟩
  · have hvv := h.v
    rw [val_set (by omega), val_take_succ]
    generalize u.getD (j + i) 0 = x at hu st ⊢
    generalize v.getD i 0 = y at hy st ⊢
    have dm := Int.emod_add_mul_ediv (c + (x + s * y)) 268435456
    generalize hP : B ^ (j + i) = P at hvv ⊢
    have e1 : B ^ (j + (i + 1)) = P * 268435456 := by rw [← Nat.add_assoc, Int.pow_succ, hP, ← B_def]
    have e2 : B ^ j * B ^ i = P := by rw [← hP, Int.pow_add]
    have e3 : B ^ j * (s * (val (v.take i) + B ^ i * y)) = B ^ j * (s * val (v.take i)) + P * (s * y) := by
      rw [Int.mul_add, Int.mul_add, ← e2]
      have : B ^ j * (s * (B ^ i * y)) = B ^ j * B ^ i * (s * y) := by
        rw [Int.mul_assoc]; congr 1; rw [← Int.mul_assoc, ← Int.mul_assoc, Int.mul_comm s]
      rw [this]
    rw [e1, e3, Int.mul_assoc P 268435456]
    have e4 : P * ((c + (x + s * y)) % 268435456 - x) + P * (268435456 * ((c + (x + s * y)) / 268435456)) = P * c + P * (s * y) := by
      rw [← Int.mul_add, ← Int.mul_add]; congr 1; omega
    omega
  · rw [getD_set_ne (by omega)]; exact h.far k (by omega)
/-- The walk of such a loop. -/
theorem lin_loop {R : Type} {v u0 : List Int} {s lo hi : Int} {j : Nat} (m : Mult s lo hi) (hv : Ok v) (hj : j + v.length ≤ u0.length) (K : Int × Int × List Int → Option R) {G : (Int × Int × List Int → Option R) → Int × Int × List Int → Option R}
    (hs : ∀ self u c i, Lin v u0 s lo hi j u c i → i < v.length → G self (c, (i : Int), u) = self ((c + (u.getD (j + i) 0 + s * v.getD i 0)) / 268435456, ((i + 1 : Nat) : Int), u.set (j + i) ((c + (u.getD (j + i) 0 + s * v.getD i 0)) % 268435456)))
    (hk : ∀ self u c, Lin v u0 s lo hi j u c v.length → G self (c, (v.length : Int), u) = K (c, (v.length : Int), u)) :
    ∀ (d i : Nat) (u : List Int) (c : Int), i + d = v.length → Lin v u0 s lo hi j u c i → ∀ n, d < n → ∃ u' c', Lin v u0 s lo hi j u' c' v.length ∧ iterO G n (c, (i : Int), u) = K (c', (v.length : Int), u')
  | 0, i, u, c, hi', h, n, hn => by
    obtain ⟨n, rfl⟩ : ∃ k, n = k + 1 := ⟨n - 1, by omega⟩
    have e : i = v.length := by omega
    subst e
    exact ⟨u, c, h, by rw [iterO_succ, hk _ u c h]⟩
  | d + 1, i, u, c, hi', h, n, hn => by
    obtain ⟨n, rfl⟩ : ∃ k, n = k + 1 := ⟨n - 1, by omega⟩
    obtain ⟨u', c', h1, h2⟩ := lin_loop m hv hj K hs hk d (i + 1) _ _ (by omega) (h.step m hv (by omega) (by omega)) n (by omega)
    exact ⟨u', c', h1, by rw [iterO_succ, hs _ u c i h (by omega)]; exact h2⟩

/-! ### one round -/
theorem take_drop_val {u : List Int} {k : Nat} (h : k ≤ u.length) : val u = val (u.take k) + B ^ k * val (u.drop k) := by
  have := val_append (u.take k) (u.drop k)
  rw [List.take_append_drop, List.length_take, Nat.min_eq_left h] at this
  exact this
theorem ok_take {u : List Int} (h : Ok u) (k : Nat) : Ok (u.take k) := fun x hx => h x (List.mem_of_mem_take hx)
theorem ok_drop {u : List Int} (h : Ok u) (k : Nat) : Ok (u.drop k) := fun x hx => h x (List.mem_of_mem_drop hx)
theorem take_lt {u : List Int} (h : Ok u) {k : Nat} (hk : k ≤ u.length) : 0 ≤ val (u.take k) ∧ val (u.take k) < B ^ k := by
  have := val_lt (ok_take h k)
  rw [List.length_take, Nat.min_eq_left hk] at this
  exact ⟨val_nonneg (ok_take h k), this⟩
theorem val_zeroFrom {u : List Int} {k : Nat} (h : ZeroFrom k u) : val u = val (u.take k) := by
  have : ∀ d, val (u.take (k + d)) = val (u.take k) := by
    intro d
    induction d with
    | zero => rfl
    | succ d ih => rw [← Nat.add_assoc, val_take_succ, h (k + d) (by omega), ih]; simp
  rw [← this u.length, List.take_of_length_le (by omega)]
theorem carry_res {P lo c R : Int} (h0 : 0 ≤ lo) (h1 : lo < P) (e : lo + P * c = R) : (0 ≤ R → R < P → c = 0) ∧ (R < 0 → -P ≤ R → c = -1) := by
  constructor
  · intro a b
    by_cases hc : c ≤ -1
    · have : P * c ≤ P * (-1) := Int.mul_le_mul_of_nonneg_left hc (by omega)
      omega
    · by_cases hc1 : 1 ≤ c
      · have : P * 1 ≤ P * c := Int.mul_le_mul_of_nonneg_left hc1 (by omega)
        omega
      · omega
  · intro a b
    by_cases hc : c ≤ -2
    · have : P * c ≤ P * (-2) := Int.mul_le_mul_of_nonneg_left hc (by omega)
      omega
    · by_cases hc1 : 0 ≤ c
      · have : 0 ≤ P * c := Int.mul_nonneg (by omega) hc1
        omega
      · omega
/-- The state at the head of a round: what is left u, at place j (the round for j - 1 is next). -/
structure Long (U0 : Int) (v : List Int) (la : Nat) (j : Nat) (u out : List Int) : Prop where
  len : u.length = la + 1
  lo : out.length = la - v.length + 1
  ok : Ok u
  oko : Ok out
  lt : val u < val v * B ^ j
  z : ZeroFrom (j + v.length) u
  zo : ∀ k, k < j → out.getD k 0 = 0
  v : U0 = val out * val v + val u
end Go.Proofs.Ytnlgciomdghfiaa.Fw

namespace Go.Proofs.Ytnlgciomdghfiaa.Fw
open Go Go.RowKit Go.Proofs.Ytnlgciomdghfiaa.Limbs
set_option linter.unusedVariables false
set_option linter.unusedSimpArgs false

variable {U0 : Int} {v u out : List Int} {la j m : Nat}
theorem getD_drop (l : List Int) (i k : Nat) : (l.drop i).getD k 0 = l.getD (i + k) 0 := by
  rw [List.getD_eq_getElem?_getD, List.getD_eq_getElem?_getD, List.getElem?_drop]
theorem zero_drop {l : List Int} {i k : Nat} (h : ZeroFrom (i + k) l) : ZeroFrom k (l.drop i) := fun q hq => by rw [getD_drop]; exact h _ (by omega)
theorem Long.w (h : Long U0 v la (j + 1) u out) (hj : j ≤ la) : val u = val (u.take j) + B ^ j * val (u.drop j) := take_drop_val (by have := h.len; omega)
theorem lt_of_pow {P a b r : Int} (hP : 0 < P) (h0 : 0 ≤ r) (h : r + P * a < P * b) : a < b := by
  by_cases hc : a < b
  · exact hc
  · have : P * b ≤ P * a := Int.mul_le_mul_of_nonneg_left (by omega) (by omega)
    omega
theorem Long.rd (h : Long U0 v la (j + 1) u out) (hv : Ok v) (h2 : v.length = m + 2) (htop : 268435456 ≤ 2 * v.getD (m + 1) 0) (hj : j + v.length ≤ la) :
    Round (B ^ m) (u.getD (j + v.length) 0 * 268435456 + u.getD (j + (m + 1)) 0) (u.getD (j + m) 0) (val ((u.drop j).take m)) (val (u.drop j)) (v.getD (m + 1) 0) (v.getD m 0) (val (v.take m)) (val v) := by
  have hl := h.len
  have pm := pow_pos' m
  have g0 := ok_getD h.ok (j + m)
  have g1 := ok_getD h.ok (j + (m + 1))
  have g2 := ok_getD h.ok (j + v.length)
  have k0 := ok_getD hv m
  have k1 := ok_getD hv (m + 1)
  rw [B_def] at g0 g1 g2 k0 k1
  have hw : val (u.drop j) = (( u.getD (j + v.length) 0 * 268435456 + u.getD (j + (m + 1)) 0) * 268435456 + u.getD (j + m) 0) * B ^ m + val ((u.drop j).take m) := by
    have hz : ZeroFrom (m + 3) (u.drop j) := zero_drop (by have := h.z; rw [h2] at this; rw [show j + (m + 3) = j + 1 + (m + 2) by omega]; exact this)
    rw [val_zeroFrom hz, val_take_succ, val_take_succ, val_take_succ, getD_drop, getD_drop, getD_drop, h2, show j + (m + 1 + 1) = j + (m + 2) by omega]
    simp only [Int.pow_succ, B_def]
    generalize (268435456 : Int) ^ m = P
    simp only [Int.add_mul, Int.mul_add, Int.mul_assoc, Int.mul_left_comm, Int.mul_comm]
    omega
  have hV : val v = (v.getD (m + 1) 0 * 268435456 + v.getD m 0) * B ^ m + val (v.take m) := by
    have : v.take (m + 2) = v := List.take_of_length_le (by omega)
    rw [← this, val_take_succ, val_take_succ, this, Int.pow_succ, B_def]
    generalize (268435456 : Int) ^ m = P
    simp only [Int.add_mul, Int.mul_add, Int.mul_assoc, Int.mul_left_comm, Int.mul_comm]
    omega
  refine ⟨by omega, hw, hV, ?_, take_lt hv (by omega), ⟨g0.1, g0.2⟩, ⟨k0.1, k0.2⟩, ⟨htop, k1.2⟩, ?_, ?_⟩
  · exact take_lt (ok_drop h.ok j) (by rw [List.length_drop]; omega)
  · omega
  · have hlt := h.lt
    rw [h.w (by omega), Int.pow_succ] at hlt
    have := take_lt h.ok (k := j) (by omega)
    have hj' := pow_pos' j
    refine lt_of_pow hj' this.1 ?_
    rw [← B_def, ← Int.mul_assoc, Int.mul_comm (B ^ j) (val v), Int.mul_assoc]
    exact hlt
theorem Long.next {q : Int} {w : List Int} (h : Long U0 v la (j + 1) u out) (hj : j + v.length ≤ la) (hv0 : 0 < val v) (hl : w.length = la + 1) (ok : Ok w) (z : ZeroFrom (j + v.length) w)
    (hw : val w = val u - B ^ j * (q * val v)) (q0 : 0 ≤ q) (q1 : q < B) (hlt : val (u.drop j) < (q + 1) * val v) : Long U0 v la j w (out.set j q) := by
  have lo := h.lo
  have hjl : j < out.length := by omega
  refine ⟨hl, by simpa using lo, ok, ok_set h.oko q0 q1, ?_, z, fun k hk => by rw [getD_set_ne (by omega)]; exact h.zo k (by omega), ?_⟩
  · rw [hw, h.w (by omega)]
    have t := take_lt h.ok (k := j) (by have := h.len; omega)
    rw [Int.add_mul, Int.one_mul] at hlt
    have : B ^ j * (val (u.drop j) - q * val v + 1) ≤ B ^ j * val v := Int.mul_le_mul_of_nonneg_left (by omega) (Int.le_of_lt (pow_pos' j))
    rw [Int.mul_add, Int.mul_sub] at this
    rw [Int.mul_comm (val v)]
    omega
  · rw [h.v, val_set hjl, h.zo j (by omega), hw, Int.sub_zero, Int.add_mul, Int.mul_assoc (B ^ j)]
    omega
/-- The figure is right, or one too great. -/
theorem Long.sub {q c : Int} {u' : List Int} (h : Long U0 v la (j + 1) u out) (hv : Ok v) (hj : j + v.length ≤ la) (hv0 : 0 < val v) (q0 : 0 ≤ q) (q1 : q < 268435456)
    (hlt : val (u.drop j) < (q + 1) * val v) (hge : (q - 1) * val v ≤ val (u.drop j)) (hL : Lin v u (-q) (-268435455) 0 j u' c v.length) :
    (c + u'.getD (j + v.length) 0 = 0 ∧ Long U0 v la j (u'.set (j + v.length) 0) (out.set j q)) ∨
    (c + u'.getD (j + v.length) 0 = -1 ∧ 0 ≤ q - 1 ∧ ∀ u2 c2, Lin v (u'.set (j + v.length) 268435455) 1 0 1 j u2 c2 v.length → c2 = 1 ∧ u2.getD (j + v.length) 0 = 268435455 ∧ Long U0 v la j (u2.set (j + v.length) 0) (out.set j (q - 1))) := by
  have hl := h.len
  have hl' := hL.len
  have hk : j + v.length < u.length := by omega
  have hP := pow_pos' (j + v.length)
  have hj' := pow_pos' j
  have vB : val v < B ^ v.length := val_lt hv
  have vP : val v * B ^ j ≤ B ^ (j + v.length) := by
    rw [Int.pow_add, Int.mul_comm]; exact Int.mul_le_mul_of_nonneg_left (by omega) (by omega)
  have z' : ZeroFrom (j + v.length + 1) u' := fun k hk => by rw [hL.far k (by omega)]; exact h.z k (by omega)
  have ev : val u' = val (u'.take (j + v.length)) + B ^ (j + v.length) * u'.getD (j + v.length) 0 := by
    rw [val_zeroFrom z', val_take_succ]
  have tl := take_lt hL.ok (k := j + v.length) (by omega)
  have hvv := hL.v
  rw [List.take_of_length_le (Nat.le_refl _)] at hvv
  have hw := h.w (by omega)
  have t := take_lt h.ok (k := j) (by omega)
  have R : val (u'.take (j + v.length)) + B ^ (j + v.length) * (c + u'.getD (j + v.length) 0) = val u - B ^ j * (q * val v) := by
    rw [Int.mul_add]
    rw [Int.neg_mul, Int.mul_neg] at hvv
    omega
  have cr := carry_res tl.1 tl.2 R
  have hup : B ^ j * (val (u.drop j) - q * val v + 1) ≤ B ^ j * val v := Int.mul_le_mul_of_nonneg_left (by rw [Int.add_mul, Int.one_mul] at hlt; omega) (by omega)
  rw [Int.mul_add, Int.mul_sub] at hup
  rw [Int.mul_comm (val v)] at vP
  by_cases hc : q * val v ≤ val (u.drop j)
  · left
    have h0 : B ^ j * (q * val v) ≤ B ^ j * val (u.drop j) := Int.mul_le_mul_of_nonneg_left hc (by omega)
    have c0 := cr.1 (by omega) (by omega)
    refine ⟨c0, h.next hj hv0 (by simpa using hl'.trans hl) (ok_set hL.ok (by omega) B_pos) (fun k hk => ?_) ?_ q0 (by rw [B_def]; exact q1) hlt⟩
    · by_cases hkk : j + v.length = k
      · rw [← hkk, getD_set_eq (by omega)]
      · rw [getD_set_ne (by omega)]; exact z' k (by omega)
    · rw [val_set (by omega)]
      rw [c0] at R
      rw [Int.zero_sub, Int.mul_neg]; omega
  · right
    have h0 : B ^ j * (val (u.drop j) - q * val v + 1) ≤ B ^ j * 0 := Int.mul_le_mul_of_nonneg_left (by omega) (by omega)
    rw [Int.mul_add, Int.mul_sub] at h0
    rw [Int.sub_mul, Int.one_mul] at hge
    have h1 : B ^ j * (-val v) ≤ B ^ j * (val (u.drop j) - q * val v) := Int.mul_le_mul_of_nonneg_left (by omega) (by omega)
    rw [Int.mul_sub, Int.mul_neg] at h1
    have c0 := cr.2 (by omega) (by omega)
    have q2 : 0 ≤ q - 1 := by
      by_cases hq : 0 ≤ q - 1
      · exact hq
      · exfalso
        have : q = 0 := by omega
        subst this
        rw [Int.zero_mul] at hc
        exact hc (val_nonneg (ok_drop h.ok j))
    refine ⟨c0, q2, fun u2 c2 hM => ?_⟩
    have ml := hM.len
    have g2 : u2.getD (j + v.length) 0 = 268435455 := by rw [hM.far _ (Nat.le_refl _), getD_set_eq (by omega)]
    have z2 : ZeroFrom (j + v.length + 1) u2 := fun k hk => by rw [hM.far k (by omega), getD_set_ne (by omega)]; exact z' k hk
    have ev2 : val u2 = val (u2.take (j + v.length)) + B ^ (j + v.length) * 268435455 := by
      rw [val_zeroFrom z2, val_take_succ, g2]
    have ml' : u2.length = la + 1 := by rw [ml]; simpa using hl'.trans hl
    have tl2 := take_lt hM.ok (k := j + v.length) (by omega)
    have mv := hM.v
    rw [List.take_of_length_le (Nat.le_refl _), val_set (by omega), Int.one_mul] at mv
    have e1 : B ^ j * ((q - 1) * val v) = B ^ j * (q * val v) - B ^ j * val v := by rw [Int.sub_mul, Int.one_mul, Int.mul_sub]
    have R2 : val (u2.take (j + v.length)) + B ^ (j + v.length) * (c2 - 1) = val u - B ^ j * ((q - 1) * val v) := by
      have cc : u'.getD (j + v.length) 0 = -1 - c := by omega
      rw [cc] at mv
      rw [cc] at R
      have e2 : B ^ (j + v.length) * (268435455 - (-1 - c)) = B ^ (j + v.length) * 268435455 + B ^ (j + v.length) * c + B ^ (j + v.length) := by
        rw [show (268435455 - (-1 - c)) = 268435455 + c + 1 by omega, Int.mul_add, Int.mul_add, Int.mul_one]
      rw [e2] at mv
      have e3 : B ^ (j + v.length) * (c2 - 1) = B ^ (j + v.length) * c2 - B ^ (j + v.length) := by rw [Int.mul_sub, Int.mul_one]
      rw [Int.neg_mul, Int.mul_neg] at hvv
      rw [e1, e3]
      omega
    have cr2 := carry_res tl2.1 tl2.2 R2
    have c1 : c2 = 1 := by
      have := cr2.1 (by rw [e1]; omega) (by rw [e1]; omega)
      omega
    refine ⟨c1, g2, h.next hj hv0 (by simpa using ml') (ok_set hM.ok (by omega) B_pos) (fun k hk => ?_) ?_ q2 (by rw [B_def]; omega) ?_⟩
    · by_cases hkk : j + v.length = k
      · rw [← hkk, getD_set_eq (by omega)]
      · rw [getD_set_ne (by omega)]; exact z2 k (by omega)
    · rw [val_set (by omega), g2]
      rw [c1] at R2
      rw [Int.zero_sub, Int.mul_neg]
      rw [show ((1:Int) - 1) = 0 by omega, Int.mul_zero] at R2
      omega
    · rw [show q - 1 + 1 = q by omega]; omega
end Go.Proofs.Ytnlgciomdghfiaa.Fw

namespace Go.Proofs.Ytnlgciomdghfiaa.Fw
open Go Go.RowKit Go.Proofs.Ytnlgciomdghfiaa.Limbs
set_option linter.unusedVariables false
set_option linter.unusedSimpArgs false

theorem or_comm_i64 (x y : Int) : Go.bits .or .i64 x y = Go.bits .or .i64 y x := by rw [or_i64, or_i64, Nat.or_comm]
theorem pow28 {k : Nat} (hk : k ≤ 28) : 0 < (2:Int) ^ k ∧ (2:Int) ^ k ≤ 268435456 ∧ (2:Int) ^ k * 2 ^ (28 - k) = 268435456 := by
  have h : (2 : Nat) ^ k ≤ 2 ^ 28 := Nat.pow_le_pow_right (by omega) hk
  have e : (2 : Int) ^ k = ((2 ^ k : Nat) : Int) := by simp
  refine ⟨Int.pow_pos (by omega), by rw [e]; omega, ?_⟩
  rw [← Int.pow_add, show k + (28 - k) = 28 by omega]; decide
theorem shl_pow {x : Int} {k : Nat} (h0 : 0 ≤ x) (h1 : x < 268435456) (hk : k ≤ 28) : shl .i64 x (k : Int) = x * 2 ^ k := by
  have hp := pow28 hk
  unfold shl
  rw [Int.toNat_natCast, Nat.min_eq_left (show k ≤ IntKind.i64.bits by have : IntKind.i64.bits = 64 := rfl; omega)]
  have m0 : 0 ≤ x * 2 ^ k := Int.mul_nonneg h0 (by omega)
  have m1 : x * 2 ^ k ≤ 268435456 * 268435456 := Int.mul_le_mul (by omega) hp.2.1 (by omega) (by omega)
  exact w64 (by omega) (by omega)
theorem shr_pow {x : Int} {k : Nat} (hk : k ≤ 28) : shr .i64 x (k : Int) = x / 2 ^ k := by
  unfold shr
  rw [Int.toNat_natCast, Nat.min_eq_left (show k ≤ IntKind.i64.bits by have : IntKind.i64.bits = 64 := rfl; omega)]
/-- A limb above another. -/
theorem two_limbs {x y : Int} (h0 : 0 ≤ x) (h1 : x < 268435456) (h2 : 0 ≤ y) (h3 : y < 268435456) : Go.bits .or .i64 (shl .i64 x 28) y = x * 268435456 + y := by
  have e := shl_pow (k := 28) h0 h1 (by omega)
  have p : (2:Int) ^ 28 = 268435456 := by decide
  rw [p] at e
  rw [show ((28 : Nat) : Int) = 28 from rfl] at e
  rw [e, or_i64_add 28 (by omega) h2 (by rw [p]; omega) (by rw [p]; exact h3) (by omega)]
theorem shifted_from {C : Ca tb} {N : Nat} {a : List Int} (ha : Ok a) (hl : a.length ≤ 1048600) {k : Nat} (hk : k ≤ 28) : ∀ (d i : Nat) (out : List Int) (c : Int), i + d = a.length → out.length = i → Ok out → 0 ≤ c → c < 2 ^ k → val out + B ^ i * c = val (a.take i) * 2 ^ k →
    ∃ l, l.length = a.length + 1 ∧ Ok (l.take a.length) ∧ 0 ≤ l.getD a.length 0 ∧ l.getD a.length 0 < 2 ^ k ∧ val l = val a * 2 ^ k ∧ ∀ K, d < K → iterO (impl_shifted_g1 C N a (k : Int)) K (c, (i : Int), out) = some l
  | 0, i, out, c, hi, ho, hok, c0, c1, hv => by
    have e : i = a.length := by omega
    subst e
    refine ⟨out ++ [c], by simp [ho], by rw [← ho, List.take_append_of_le_length (Nat.le_refl _), List.take_of_length_le (Nat.le_refl _)]; exact hok, by rw [← ho]; simpa using c0, by rw [← ho]; simpa using c1, ?_, fun K hK => ?_⟩
    · rw [val_snoc, ho, hv, List.take_of_length_le (Nat.le_refl _)]
    · obtain ⟨K, rfl⟩ : ∃ j, K = j + 1 := ⟨K - 1, by omega⟩
      rw [iterO_succ]; unfold impl_shifted_g1 impl_shifted_x1
      dsimp only
      rw [if_neg (by omega), if_pos (lim_lt (by simp [ho]; omega))]
  | d + 1, i, out, c, hi, ho, hok, c0, c1, hv => by
    have ga := ok_getD ha i
    have hp := pow28 hk
    rw [B_def] at ga
    have m0 : 0 ≤ a.getD i 0 * 2 ^ k := Int.mul_nonneg ga.1 (by omega)
    have m1 : (a.getD i 0 + 1) * 2 ^ k ≤ 268435456 * 2 ^ k := Int.mul_le_mul_of_nonneg_right (by omega) (by omega)
    rw [Int.add_mul, Int.one_mul] at m1
    have eo : Go.bits .or .i64 c (shl .i64 (a.getD i 0) (k : Int)) = c + a.getD i 0 * 2 ^ k := by
      rw [shl_pow ga.1 ga.2 hk, or_comm_i64, or_i64_add k m0 c0 (Int.mul_emod_left _ _) c1 (by omega)]; omega
    obtain ⟨l, h1, h2, h3, h4, h5, h6⟩ := shifted_from (C := C) (N := N) ha hl hk d (i + 1) (out ++ [(c + a.getD i 0 * 2 ^ k) % 268435456]) ((c + a.getD i 0 * 2 ^ k) / 268435456) (by omega) (by simp [ho]) (hok.snoc (Int.emod_nonneg _ (by omega)) (by rw [B_def]; exact Int.emod_lt_of_pos _ (by omega))) (by omega) (by
      rw [Int.ediv_lt_iff_lt_mul (by omega)]
      rw [Int.mul_comm (2 ^ k)]
      omega) (by
      rw [val_snoc, ho, val_take_succ, Int.add_mul, ← hv]
      have e1 : B ^ (i + 1) = B ^ i * 268435456 := by rw [Int.pow_succ, ← B_def]
      rw [e1]
      generalize B ^ i = P
      have dm := Int.emod_add_mul_ediv (c + a.getD i 0 * 2 ^ k) 268435456
      have e2 : P * ((c + a.getD i 0 * 2 ^ k) % 268435456) + P * 268435456 * ((c + a.getD i 0 * 2 ^ k) / 268435456) = P * c + P * (a.getD i 0 * 2 ^ k) := by
        rw [Int.mul_assoc P, ← Int.mul_add, ← Int.mul_add]; congr 1
      rw [Int.mul_assoc P (a.getD i 0)]
      omega)
    refine ⟨l, h1, h2, h3, h4, h5, fun K hK => ?_⟩
    obtain ⟨K, rfl⟩ : ∃ j, K = j + 1 := ⟨K - 1, by omega⟩
    rw [iterO_succ]; unfold impl_shifted_g1 impl_shifted_x1
    dsimp only
    rw [if_pos (by omega), if_pos (by omega), if_pos (by omega), if_neg (by omega), if_pos (lim_lt (by simp [ho]; omega)), if_neg (by omega), nat_i, eo, shr_28, and_limb, w64 (by omega) (by omega), ni1]
    exact h6 K (by omega)
theorem shifted_ret {n : Nat} (hn : Big + 1 ≤ n) {a : List Int} (ha : Ok a) (hl : a.length ≤ 1048600) {k : Nat} (hk : k ≤ 28) :
    ∃ l, l.length = a.length + 1 ∧ Ok (l.take a.length) ∧ 0 ≤ l.getD a.length 0 ∧ l.getD a.length 0 < 2 ^ k ∧ val l = val a * 2 ^ k ∧ c_impl_shifted (run tb orc n) a (k : Int) = some l := by
  obtain ⟨n, rfl, hm⟩ := up hn
  have hbig := big_ge
  obtain ⟨l, h1, h2, h3, h4, h5, h6⟩ := shifted_from (C := run tb orc n) (N := n) ha hl hk a.length 0 [] 0 (by omega) rfl Ok.nil (by omega) (pow28 hk).1 (by simp)
  refine ⟨l, h1, h2, h3, h4, h5, ?_⟩
  rw [impl_shifted_eq]; unfold impl_shifted_f impl_shifted_x
  exact h6 n (by omega)
/-- By one limb: from the top down. -/
theorem sizeDiv1_from {C : Ca tb} {N : Nat} {a : List Int} {y : Int} (ha : Ok a) (hy : 0 < y ∧ y < B) (hl : a.length ≤ 1048600) : ∀ (i : Nat) (out : List Int) (r : Int), i ≤ a.length → out.length = a.length → Ok out → 0 ≤ r ∧ r < y →
    val (a.drop i) = val (out.drop i) * y + r → (∀ j, j < i → out.getD j 0 = 0) →
    ∃ q s, Ok q ∧ q.length = a.length ∧ 0 ≤ s ∧ s < y ∧ val a = val q * y + s ∧ ∀ K, i < K → iterO (impl_sizeDiv_g1 C N a [y]) K (r, (i : Int) - 1, out) = some (q, [s])
  | 0, out, r, hi, ho, hok, hr, hv, hz => by
    rw [List.drop_zero, List.drop_zero] at hv
    refine ⟨out, r, hok, ho, hr.1, hr.2, hv, fun K hK => ?_⟩
    obtain ⟨K, rfl⟩ : ∃ j, K = j + 1 := ⟨K - 1, by omega⟩
    rw [iterO_succ]; unfold impl_sizeDiv_g1 impl_sizeDiv_x1
    dsimp only
    rw [if_neg (by omega)]
  | i + 1, out, r, hi, ho, hok, hr, hv, hz => by
    have hB := B_def
    have ga := ok_getD ha i
    have hlt : i < a.length := by omega
    have hlo : i < out.length := by omega
    have da : val (a.drop i) = a.getD i 0 + B * val (a.drop (i + 1)) := by rw [List.drop_eq_getElem_cons hlt, val_cons, getD_get hlt]
    generalize hA : a.getD i 0 = A at ga da
    have yB : y < 268435456 := by rw [← hB]; exact hy.2
    have aB : A < 268435456 := by rw [← hB]; exact ga.2
    have p1 : 0 ≤ r * 268435456 + A := by omega
    have p2 : r * 268435456 + A ≤ 72057594037927936 := by omega
    have dm := Int.emod_add_mul_ediv (r * 268435456 + A) y
    have q0 : 0 ≤ (r * 268435456 + A) / y := Int.ediv_nonneg p1 (by omega)
    have q1 : (r * 268435456 + A) / y < B := by
      rw [Int.ediv_lt_iff_lt_mul hy.1]
      rw [hB]
      have : (r + 1) * 268435456 ≤ y * 268435456 := Int.mul_le_mul_of_nonneg_right (by omega) (by omega)
      rw [hB] at ga
      omega
    have r0 : 0 ≤ (r * 268435456 + A) % y := Int.emod_nonneg _ (by omega)
    have r1 : (r * 268435456 + A) % y < y := Int.emod_lt_of_pos _ hy.1
    have ds : (out.set i ((r * 268435456 + A) / y)).drop i = ((r * 268435456 + A) / y) :: out.drop (i + 1) := by
      rw [List.drop_eq_getElem_cons (by simpa using hlo), List.getElem_set_self, List.drop_set_of_lt (by omega)]
    obtain ⟨q, s, h1, h2, h3, h4, h5, h7⟩ := sizeDiv1_from (C := C) (N := N) ha hy hl i (out.set i ((r * 268435456 + A) / y)) ((r * 268435456 + A) % y) (by omega) (by simpa using ho) (ok_set hok q0 q1) ⟨r0, r1⟩ (by
      rw [ds, val_cons, da, hv, hB]
      rw [Int.mul_add, Int.add_mul]
      have e1 : 268435456 * (val (out.drop (i + 1)) * y) = 268435456 * val (out.drop (i + 1)) * y := by rw [Int.mul_assoc]
      have e2 : (r * 268435456 + A) / y * y = y * ((r * 268435456 + A) / y) := Int.mul_comm _ _
      rw [e1, e2]
      omega) (fun j hj => by rw [getD_set_ne (by omega)]; exact hz j (by omega))
    refine ⟨q, s, h1, h2, h3, h4, h5, fun K hK => ?_⟩
    obtain ⟨K, rfl⟩ : ∃ j, K = j + 1 := ⟨K - 1, by omega⟩
    have e : ((i + 1 : Nat) : Int) - 1 = (i : Int) := by omega
    have gy : ([y] : List Int).getD (0:Int).toNat 0 = y := rfl
    have ly : (0:Int) < (([y] : List Int).length : Int) := by simp
    rw [hB] at q1
    rw [iterO_succ, e]; unfold impl_sizeDiv_g1 impl_sizeDiv_x1
    dsimp only
    rw [if_pos (by omega), if_neg (by omega), if_pos (by omega), if_pos (by omega), if_pos (by omega), if_pos ly, gy, if_neg (by omega), if_pos (by omega), if_pos ly, if_neg (by omega), if_pos (by omega), if_pos (by omega),
      nat_i, hA, two_limbs hr.1 (by omega) ga.1 aB, tmod_nn p1, tdiv_nn p1, w64 (n := (i : Int) - 1) (by omega) (by omega), w64 (n := (r * 268435456 + A) / y) (by omega) (by omega)]
    exact h7 K (by omega)
end Go.Proofs.Ytnlgciomdghfiaa.Fw

namespace Go.Proofs.Ytnlgciomdghfiaa.Fw
open Go Go.RowKit Go.Proofs.Ytnlgciomdghfiaa.Limbs
set_option linter.unusedVariables false
set_option linter.unusedSimpArgs false

theorem g5_all (C : Ca tb) (N : Nat) : @impl_sizeDiv_g7 C N = @impl_sizeDiv_g5 C N ∧ @impl_sizeDiv_g9 C N = @impl_sizeDiv_g5 C N ∧ @impl_sizeDiv_g11 C N = @impl_sizeDiv_g5 C N ∧ @impl_sizeDiv_g13 C N = @impl_sizeDiv_g5 C N ∧ @impl_sizeDiv_g15 C N = @impl_sizeDiv_g5 C N := ⟨rfl, rfl, rfl, rfl, rfl⟩
theorem g4_all (C : Ca tb) (N : Nat) : @impl_sizeDiv_g6 C N = @impl_sizeDiv_g4 C N ∧ @impl_sizeDiv_g8 C N = @impl_sizeDiv_g4 C N ∧ @impl_sizeDiv_g10 C N = @impl_sizeDiv_g4 C N ∧ @impl_sizeDiv_g12 C N = @impl_sizeDiv_g4 C N ∧ @impl_sizeDiv_g14 C N = @impl_sizeDiv_g4 C N := ⟨rfl, rfl, rfl, rfl, rfl⟩
section
variable {U0 : Int} {v u out b d4 : List Int} {la j m : Nat} {d2 : Int}
/-- The figure is taken off, and put in. -/
theorem round_fin {C : Ca tb} {N : Nat} (hN : Big ≤ N) (hvd : (d4.take (b.length : Int).toNat).drop (0:Int).toNat = v) (hv : Ok v) (hv0 : 0 < val v) (h : Long U0 v la (j + 1) u out) (hj : j + v.length ≤ la) (hla : la ≤ 1048576)
    {q : Int} (q0 : 0 ≤ q) (q1 : q < 268435456) (hlt : val (u.drop j) < (q + 1) * val v) (hge : (q - 1) * val v ≤ val (u.drop j)) (left : Int) (S : Int × List Int × List Int → Option (List Int × List Int)) :
    ∃ u' q', Long U0 v la j u' (out.set j q') ∧ iterO (impl_sizeDiv_g4 C N S b d2 d4 ((j : Int), u, out) (q, left)) N ((0:Int), (0:Int), u) = S ((j : Int) - 1, u', out.set j q') := by
  have hbig := big_ge
  have hl := h.len
  have hlo := h.lo
  have mq := Mult.neg q0 q1
  have hs : ∀ self w c i, Lin v u (-q) (-268435455) 0 j w c i → i < v.length → impl_sizeDiv_g4 C N S b d2 d4 ((j : Int), u, out) (q, left) self (c, (i : Int), w) = self ((c + (w.getD (j + i) 0 + (-q) * v.getD i 0)) / 268435456, ((i + 1 : Nat) : Int), w.set (j + i) ((c + (w.getD (j + i) 0 + (-q) * v.getD i 0)) % 268435456)) := by
    intro self w c i hL hi
    have hw := hL.len
    have gw := ok_getD hL.ok (j + i)
    have gv := ok_getD hv i
    rw [B_def] at gw gv
    have m0 : 0 ≤ q * v.getD i 0 := Int.mul_nonneg q0 gv.1
    have m1 : q * v.getD i 0 ≤ 268435455 * 268435455 := Int.mul_le_mul (by omega) (by omega) gv.1 (by omega)
    have c0 := hL.c0
    have c1 := hL.c1
    have e : w.getD (j + i) 0 + (-q) * v.getD i 0 = w.getD (j + i) 0 - q * v.getD i 0 := by rw [Int.neg_mul]; omega
    have e2 : ((i : Int) + (j : Int)).toNat = j + i := by omega
    unfold impl_sizeDiv_g4 impl_sizeDiv_x4
    rw [hvd]
    dsimp only
    rw [if_pos (by omega), if_pos (by omega), if_pos (by omega), w64 (n := (i : Int) + (j : Int)) (by omega) (by omega), if_pos (by omega), if_pos (by omega), if_pos (by omega), if_pos (by omega), if_neg (by omega), e2, nat_i,
      w64 (n := q * v.getD i 0) (by omega) (by omega), w64 (n := w.getD (j + i) 0 - q * v.getD i 0) (by omega) (by omega), w64 (n := c + (w.getD (j + i) 0 - q * v.getD i 0)) (by omega) (by omega), shr_28, and_limb, w64 (n := (i : Int) + 1) (by omega) (by omega), ni1, e]
  have fin : ∀ self w c, Lin v u (-q) (-268435455) 0 j w c v.length → ∃ u' q', Long U0 v la j u' (out.set j q') ∧ impl_sizeDiv_g4 C N S b d2 d4 ((j : Int), u, out) (q, left) self (c, (v.length : Int), w) = S ((j : Int) - 1, u', out.set j q') := by
    intro self w c hL
    have hw := hL.len
    have gw := ok_getD hL.ok (j + v.length)
    rw [B_def] at gw
    have e2 : ((j : Int) + (v.length : Int)).toNat = j + v.length := by omega
    rcases h.sub hv hj hv0 q0 q1 hlt hge hL with ⟨cz, hN1⟩ | ⟨cz, qq, hN2⟩
    · refine ⟨_, q, hN1, ?_⟩
      unfold impl_sizeDiv_g4 impl_sizeDiv_x4
      rw [hvd]
      dsimp only
      rw [if_neg (by omega), w64 (n := (j : Int) + (v.length : Int)) (by omega) (by omega), if_pos (by omega), if_pos (by omega), if_pos (by omega), if_pos (by omega), e2, cz, w64 (n := 0) (by omega) (by omega), if_neg (by omega), if_pos (by omega), if_pos (by omega), w64 (n := (j : Int) - 1) (by omega) (by omega), and_limb, nat_i]
      rfl
    · -- one too great
      have mo := Mult.one
      have ok1 : Ok (w.set (j + v.length) 268435455) := ok_set hL.ok (by omega) (by rw [B_def]; omega)
      have hs5 : ∀ self w' c i, Lin v (w.set (j + v.length) 268435455) 1 0 1 j w' c i → i < v.length → impl_sizeDiv_g5 C N S b d2 d4 ((j : Int), u, out) (q, left) self (c, (i : Int), w') = self ((c + (w'.getD (j + i) 0 + 1 * v.getD i 0)) / 268435456, ((i + 1 : Nat) : Int), w'.set (j + i) ((c + (w'.getD (j + i) 0 + 1 * v.getD i 0)) % 268435456)) := by
        intro self w' c i hM hi
        have hw' := hM.len
        rw [List.length_set] at hw'
        have gw := ok_getD hM.ok (j + i)
        have gv := ok_getD hv i
        rw [B_def] at gw gv
        have c0 := hM.c0
        have c1 := hM.c1
        have e2 : ((i : Int) + (j : Int)).toNat = j + i := by omega
        unfold impl_sizeDiv_g5 impl_sizeDiv_x5
        rw [hvd, Int.one_mul]
        dsimp only
        rw [if_pos (by omega), if_pos (by omega), if_pos (by omega), w64 (n := (i : Int) + (j : Int)) (by omega) (by omega), if_pos (by omega), if_pos (by omega), if_pos (by omega), if_pos (by omega), if_neg (by omega), e2, nat_i,
          w64 (n := w'.getD (j + i) 0 + v.getD i 0) (by omega) (by omega), w64 (n := c + (w'.getD (j + i) 0 + v.getD i 0)) (by omega) (by omega), shr_28, and_limb, w64 (n := (i : Int) + 1) (by omega) (by omega), ni1]
      have hk5 : ∀ self w' c, Lin v (w.set (j + v.length) 268435455) 1 0 1 j w' c v.length → impl_sizeDiv_g5 C N S b d2 d4 ((j : Int), u, out) (q, left) self (c, (v.length : Int), w') = S ((j : Int) - 1, w'.set (j + v.length) 0, out.set j (q - 1)) := by
        intro self w' c hM
        have hw' := hM.len
        rw [List.length_set] at hw'
        obtain ⟨r1, r2, r3⟩ := hN2 w' c hM
        unfold impl_sizeDiv_g5 impl_sizeDiv_x5
        rw [hvd]
        dsimp only
        rw [if_neg (by omega), w64 (n := (j : Int) + (v.length : Int)) (by omega) (by omega), if_pos (by omega), if_pos (by omega), if_pos (by omega), if_pos (by omega), e2, if_pos (by omega), if_pos (by omega), r1, r2, w64 (n := 268435455 + 1) (by omega) (by omega), w64 (n := (j : Int) - 1) (by omega) (by omega), w64 (n := q - 1) (by omega) (by omega), and_limb, nat_i]
        rfl
      obtain ⟨w2, c2, hM, hW⟩ := lin_loop mo hv (by rw [List.length_set]; omega) (fun x => S ((j : Int) - 1, x.2.2.set (j + v.length) 0, out.set j (q - 1))) hs5 (fun self w' c hM => hk5 self w' c hM) v.length 0 _ 0 (by omega) (Lin.start mo ok1) N (by omega)
      refine ⟨w2.set (j + v.length) 0, q - 1, (hN2 w2 c2 hM).2.2, ?_⟩
      unfold impl_sizeDiv_g4 impl_sizeDiv_x4
      rw [hvd]
      dsimp only
      rw [if_neg (by omega), w64 (n := (j : Int) + (v.length : Int)) (by omega) (by omega), if_pos (by omega), if_pos (by omega), if_pos (by omega), if_pos (by omega), e2, cz, w64 (n := -1) (by omega) (by omega), if_pos (by omega), and_limb]
      exact hW
  -- the loop; its end hangs on what is left, so it is told as the function itself
  obtain ⟨w, c, hL, hW⟩ := lin_loop mq hv (by omega) (fun x => impl_sizeDiv_g4 C N S b d2 d4 ((j : Int), u, out) (q, left) (fun _ => none) x) hs (fun self w c hL => by
    unfold impl_sizeDiv_g4 impl_sizeDiv_x4
    rw [hvd]
    dsimp only
    rw [if_neg (by omega)]
    exact (if_neg (by omega)).symm) v.length 0 u 0 (by omega) (Lin.start mq h.ok) N (by omega)
  obtain ⟨u', q', f1, f2⟩ := fin (fun _ => none) w c hL
  exact ⟨u', q', f1, hW.trans f2⟩
end
end Go.Proofs.Ytnlgciomdghfiaa.Fw

namespace Go.Proofs.Ytnlgciomdghfiaa.Fw
open Go Go.RowKit Go.Proofs.Ytnlgciomdghfiaa.Limbs
set_option linter.unusedVariables false
set_option linter.unusedSimpArgs false

section
variable {U0 : Int} {v u out b d4 : List Int} {la j m : Nat} {d2 : Int}
/-- The guess is mended until it stands. -/
theorem guess_loop {C : Ca tb} {N : Nat} (hN : Big ≤ N) (hvd : (d4.take (b.length : Int).toNat).drop (0:Int).toNat = v) (hv : Ok v) (h : Long U0 v la (j + 1) u out) (h2 : v.length = m + 2) (htop : 268435456 ≤ 2 * v.getD (m + 1) 0) (hj : j + v.length ≤ la) (hla : la ≤ 1048576)
    (S : Int × List Int × List Int → Option (List Int × List Int)) : ∀ (d : Nat) (q left : Int), 268435456 ≤ left + d → Guess (u.getD (j + v.length) 0 * 268435456 + u.getD (j + (m + 1)) 0) (v.getD (m + 1) 0) (val (u.drop j)) (val v) q left → ∀ K, d < K →
    ∃ u' q', Long U0 v la j u' (out.set j q') ∧ iterO (impl_sizeDiv_g3 C N S b d2 d4 ((j : Int), u, out)) K (q, left) = S ((j : Int) - 1, u', out.set j q') := by
  intro d
  induction d using Nat.strongRecOn with
  | ind d ih =>
    intro q left hd hg K hK
    obtain ⟨K, rfl⟩ : ∃ k, K = k + 1 := ⟨K - 1, by omega⟩
    have rd := h.rd hv h2 htop hj
    have hbig := big_ge
    have hl := h.len
    have vp := rd.vpos
    have q0 := hg.q0 vp rd.u_nonneg
    have l0 := hg.l0
    have g1 := ok_getD h.ok (j + (m + 1))
    have g2 := ok_getD h.ok (j + v.length)
    have k0 := ok_getD hv m
    have k1 := ok_getD hv (m + 1)
    have g0 := ok_getD h.ok (j + m)
    rw [B_def] at g0 g1 g2 k0 k1
    have hqv : q * 134217728 ≤ q * v.getD (m + 1) 0 := Int.mul_le_mul_of_nonneg_left (by omega) q0
    have hgq := hg.eq
    have ht : u.getD (j + v.length) 0 * 268435456 + u.getD (j + (m + 1)) 0 ≤ 72057594037927936 := by omega
    have e1 : (v.length : Int) - 1 = ((m + 1 : Nat) : Int) := by omega
    have e2 : (v.length : Int) - 2 = (m : Int) := by omega
    have e3 : (j : Int) + (v.length : Int) - 2 = ((j + m : Nat) : Int) := by omega
    have step : (268435456 ≤ q ∨ left * 268435456 + u.getD (j + m) 0 < q * v.getD m 0) → left < 268435456 → ∃ u' q', Long U0 v la j u' (out.set j q') ∧ iterO (impl_sizeDiv_g3 C N S b d2 d4 ((j : Int), u, out)) K (q - 1, left + v.getD (m + 1) 0) = S ((j : Int) - 1, u', out.set j q') := by
      intro ht hlt
      exact ih (268435456 - (left + v.getD (m + 1) 0)).toNat (by omega) (q - 1) (left + v.getD (m + 1) 0) (by omega) (rd.step hg ht) K (by omega)
    rw [iterO_succ]
    generalize iterO (impl_sizeDiv_g3 C N S b d2 d4 ((j : Int), u, out)) K = T at step ⊢
    unfold impl_sizeDiv_g3 impl_sizeDiv_x3
    rw [hvd]
    dsimp only
    by_cases c1 : left < 268435456
    · by_cases c2 : q ≥ 268435456
      · rw [if_pos c1, if_pos c2, if_pos c2, if_pos c1, w64 (n := (v.length : Int) - 1) (by omega) (by omega), if_pos (by omega), if_pos (by omega), e1, nat_i, w64 (n := q - 1) (by omega) (by omega), w64 (n := left + v.getD (m + 1) 0) (by omega) (by omega)]
        exact step (.inl c2) c1
      · have m0 : 0 ≤ q * v.getD m 0 := Int.mul_nonneg q0 k0.1
        have m1 : q * v.getD m 0 ≤ 268435455 * 268435455 := Int.mul_le_mul (by omega) (by omega) k0.1 (by omega)
        rw [if_pos c1, if_neg c2, w64 (n := (v.length : Int) - 2) (by omega) (by omega), if_pos (by omega), if_pos (by omega), if_neg (by omega), w64 (n := (j : Int) + (v.length : Int)) (by omega) (by omega), w64 (n := (j : Int) + (v.length : Int) - 2) (by omega) (by omega), if_pos (by omega), if_pos (by omega), if_neg c2, if_pos c1, e2, e3, nat_i, nat_i, two_limbs l0 c1 g0.1 g0.2, w64 (n := q * v.getD m 0) (by omega) (by omega)]
        by_cases c3 : q * v.getD m 0 > left * 268435456 + u.getD (j + m) 0
        · rw [if_pos c3, w64 (n := (v.length : Int) - 1) (by omega) (by omega), if_pos (by omega), if_pos (by omega), e1, nat_i, w64 (n := q - 1) (by omega) (by omega), w64 (n := left + v.getD (m + 1) 0) (by omega) (by omega)]
          exact step (.inr c3) c1
        · obtain ⟨f1, f2, f3, f4⟩ := rd.done hg (by omega)
          rw [if_neg c3, (g4_all C N).2.2.1]
          exact round_fin hN hvd hv vp h hj hla f1 f2 f3 f4 left S
    · obtain ⟨f1, f2, f3, f4⟩ := rd.done hg (by omega)
      rw [if_neg c1, if_neg c1, (g4_all C N).2.2.2.2]
      exact round_fin hN hvd hv vp h hj hla f1 f2 f3 f4 left S
/-- What is left is brought back. -/
theorem back_from {C : Ca tb} {N : Nat} {k : Nat} (hk : k ≤ 28) (hd2 : d2 = ((28 - k : Nat) : Int)) (hvd : (d4.take (b.length : Int).toNat).drop (0:Int).toNat = v) (hu : Ok u) (hl : v.length ≤ u.length) (hul : u.length ≤ 1048600) (v2 : Int × List Int × List Int) : ∀ (d i : Nat) (w : List Int), i + d = v.length → w.length = u.length →
    w.take i = (unsh (2 ^ (28 - k)) (2 ^ k) (u.take v.length)).take i → (∀ q, i ≤ q → w.getD q 0 = u.getD q 0) → ∀ K, d < K →
    iterO (impl_sizeDiv_g16 C N b d2 d4 v2) K ((i : Int), w) = some (v2.2.2, unsh (2 ^ (28 - k)) (2 ^ k) (u.take v.length))
  | 0, i, w, hi, hw, ht, hz, K, hK => by
    obtain ⟨K, rfl⟩ : ∃ j, K = j + 1 := ⟨K - 1, by omega⟩
    have e : i = v.length := by omega
    subst e
    rw [iterO_succ]; unfold impl_sizeDiv_g16 impl_sizeDiv_x16
    rw [hvd]
    dsimp only
    rw [if_neg (by omega), if_pos (by omega), if_pos (by omega), if_pos (by omega), nat_i, ht]
    rw [List.take_of_length_le (by rw [unsh_length, List.length_take]; omega)]
    rfl
  | d + 1, i, w, hi, hw, ht, hz, K, hK => by
    obtain ⟨K, rfl⟩ : ∃ j, K = j + 1 := ⟨K - 1, by omega⟩
    have hp := pow28 hk
    have hp' := pow28 (k := 28 - k) (by omega)
    have ga := ok_getD hu i
    have gb := ok_getD hu (i + 1)
    rw [B_def] at ga gb
    have hul' : (unsh (2 ^ (28 - k)) (2 ^ k) (u.take v.length)).length = v.length := by rw [unsh_length, List.length_take]; omega
    have eb : (28:Int) - (28 - k : Nat) = (k : Int) := by omega
    have ec : (28:Int) - (k : Int) = ((28 - k : Nat) : Int) := by omega
    have or_eq : ∀ y : Int, 0 ≤ y → y < 268435456 → Go.bits .or .i64 (shr .i64 (u.getD i 0) (k : Int)) (shl .i64 y ((28 - k : Nat) : Int)) = u.getD i 0 / 2 ^ k + y * 2 ^ (28 - k) := by
      intro y y0 y1
      have m0 : 0 ≤ y * 2 ^ (28 - k) := Int.mul_nonneg y0 (by omega)
      have m1 : y * 2 ^ (28 - k) ≤ 268435456 * 268435456 := Int.mul_le_mul (by omega) hp'.2.1 (by omega) (by omega)
      have d0 : 0 ≤ u.getD i 0 / 2 ^ k := Int.ediv_nonneg ga.1 (by omega)
      have d1 : u.getD i 0 / 2 ^ k < 2 ^ (28 - k) := by rw [Int.ediv_lt_iff_lt_mul (by omega), Int.mul_comm, hp.2.2]; exact ga.2
      rw [shl_pow y0 y1 (by omega), shr_pow hk, or_comm_i64, or_i64_add (28 - k) m0 d0 (Int.mul_emod_left _ _) d1 (by omega)]
      omega
    have nx : ∀ x : Int, x = (unsh (2 ^ (28 - k)) (2 ^ k) (u.take v.length)).getD i 0 → iterO (impl_sizeDiv_g16 C N b d2 d4 v2) K (((i + 1 : Nat) : Int), w.set i x) = some (v2.2.2, unsh (2 ^ (28 - k)) (2 ^ k) (u.take v.length)) := by
      intro x hx
      refine back_from hk hd2 hvd hu hl hul v2 d (i + 1) (w.set i x) (by omega) (by simpa using hw) ?_ (fun q hq => by rw [getD_set_ne (by omega)]; exact hz q (by omega)) K (by omega)
      exact take_set_succ (by omega) (by omega) ht (by rw [hx, getD_get (by omega)])
    have ug : ∀ q, q < v.length → (u.take v.length).getD q 0 = u.getD q 0 := by
      intro q hq
      rw [List.getD_eq_getElem?_getD, List.getD_eq_getElem?_getD, List.getElem?_take_of_lt hq]
    have un := unsh_getD (2 ^ (28 - k)) (2 ^ k) (u.take v.length) i (by rw [List.length_take]; omega)
    rw [ug i (by omega), B_def] at un
    rw [iterO_succ]
    generalize iterO (impl_sizeDiv_g16 C N b d2 d4 v2) K = T at nx ⊢
    unfold impl_sizeDiv_g16 impl_sizeDiv_x16
    rw [hvd]
    dsimp only
    rw [if_pos (by omega), w64 (n := (i : Int) + 1) (by omega) (by omega), hd2, w64 (n := (28:Int) - (28 - k : Nat)) (by omega) (by omega), eb, w64 (n := (28:Int) - (k : Int)) (by omega) (by omega), ec]
    by_cases hc : (i : Int) + 1 < (v.length : Int)
    · rw [if_pos hc, if_pos (by omega), if_pos (by omega), if_pos (by omega), if_pos (by omega), if_neg (by omega), if_neg (by omega), if_pos (by omega), if_pos (by omega), ni1, nat_i, nat_i, hz i (Nat.le_refl _), hz (i + 1) (by omega), or_eq _ gb.1 gb.2, and_limb]
      rw [ug (i + 1) (by omega)] at un
      exact nx _ un.symm
    · have e0 : (u.take v.length).getD (i + 1) 0 = 0 := by
        rw [List.getD_eq_getElem?_getD, List.getElem?_eq_none (by rw [List.length_take]; omega)]; rfl
      rw [if_neg hc, if_pos (by omega), if_pos (by omega), if_neg (by omega), if_neg (by omega), if_pos (by omega), if_pos (by omega), nat_i, hz i (Nat.le_refl _), or_eq 0 (by omega) (by omega), and_limb, ni1]
      rw [e0] at un
      exact nx _ un.symm
/-- All rounds. -/
theorem rounds {C : Ca tb} {N : Nat} (hN : Big ≤ N) {k : Nat} (hk : k ≤ 28) (hd2 : d2 = ((28 - k : Nat) : Int)) (hvd : (d4.take (b.length : Int).toNat).drop (0:Int).toNat = v) (hv : Ok v) (h2 : v.length = m + 2) (htop : 268435456 ≤ 2 * v.getD (m + 1) 0) (hla : la ≤ 1048576) : ∀ (j : Nat) (u out : List Int), Long U0 v la j u out → j + v.length ≤ la + 1 → ∀ K, j < K →
    ∃ u' out', Long U0 v la 0 u' out' ∧ iterO (impl_sizeDiv_g2 C N b d2 d4) K ((j : Int) - 1, u, out) = some (out', unsh (2 ^ (28 - k)) (2 ^ k) (u'.take v.length))
  | 0, u, out, h, hj, K, hK => by
    obtain ⟨K, rfl⟩ : ∃ i, K = i + 1 := ⟨K - 1, by omega⟩
    have hbig := big_ge
    have hl := h.len
    refine ⟨u, out, h, ?_⟩
    rw [iterO_succ]; unfold impl_sizeDiv_g2 impl_sizeDiv_x2
    dsimp only
    rw [if_neg (by omega)]
    exact back_from hk hd2 hvd h.ok (by omega) (by omega) (_, u, out) v.length 0 u (by omega) rfl rfl (fun _ _ => rfl) N (by omega)
  | j + 1, u, out, h, hj, K, hK => by
    obtain ⟨K, rfl⟩ : ∃ i, K = i + 1 := ⟨K - 1, by omega⟩
    have hbig := big_ge
    have hl := h.len
    have rd := h.rd hv h2 htop (by omega)
    have g1 := ok_getD h.ok (j + (m + 1))
    have g2 := ok_getD h.ok (j + v.length)
    have k1 := ok_getD hv (m + 1)
    rw [B_def] at g1 g2 k1
    have t0 := rd.t0
    have ht : u.getD (j + v.length) 0 * 268435456 + u.getD (j + (m + 1)) 0 ≤ 72057594037927936 := by omega
    have q0 := Int.ediv_nonneg t0 (show 0 ≤ v.getD (m + 1) 0 by omega)
    have q1 := Int.ediv_le_self (v.getD (m + 1) 0) t0
    have r0 := Int.emod_nonneg (u.getD (j + v.length) 0 * 268435456 + u.getD (j + (m + 1)) 0) (show v.getD (m + 1) 0 ≠ 0 by omega)
    have r1 := Int.emod_lt_of_pos (u.getD (j + v.length) 0 * 268435456 + u.getD (j + (m + 1)) 0) (show 0 < v.getD (m + 1) 0 by omega)
    have hg := rd.start (q := (u.getD (j + v.length) 0 * 268435456 + u.getD (j + (m + 1)) 0) / v.getD (m + 1) 0) (left := (u.getD (j + v.length) 0 * 268435456 + u.getD (j + (m + 1)) 0) % v.getD (m + 1) 0) (by rw [Int.mul_comm]; exact Int.mul_ediv_add_emod _ _) r0 r1
    obtain ⟨u1, q', hL, hW⟩ := guess_loop (C := C) (d2 := d2) hN hvd hv h h2 htop (by omega) hla (iterO (impl_sizeDiv_g2 C N b d2 d4) K) 268435456 _ _ (by omega) hg N (by omega)
    obtain ⟨u', out', f1, f2⟩ := rounds hN hk hd2 hvd hv h2 htop hla j u1 (out.set j q') hL (by omega) K (by omega)
    refine ⟨u', out', f1, ?_⟩
    have e0 : ((j + 1 : Nat) : Int) - 1 = (j : Int) := by omega
    have e1 : (v.length : Int) - 1 = ((m + 1 : Nat) : Int) := by omega
    have e3 : (j : Int) + (v.length : Int) - 1 = ((j + (m + 1) : Nat) : Int) := by omega
    have e4 : (j : Int) + (v.length : Int) = ((j + v.length : Nat) : Int) := by omega
    rw [iterO_succ, e0]
    generalize iterO (impl_sizeDiv_g2 C N b d2 d4) K = T at hW f2 ⊢
    unfold impl_sizeDiv_g2 impl_sizeDiv_x2
    rw [hvd]
    dsimp only
    rw [if_pos (by omega), w64 (n := (j : Int) + (v.length : Int)) (by omega) (by omega), if_pos (by omega), if_pos (by omega), if_neg (by omega), w64 (n := (j : Int) + (v.length : Int) - 1) (by omega) (by omega), if_pos (by omega), if_pos (by omega), w64 (n := (v.length : Int) - 1) (by omega) (by omega), if_pos (by omega), if_pos (by omega), e1, nat_i, if_neg (by omega), if_pos (by omega), if_pos (by omega), if_neg (by omega),
      e3, e4, nat_i, nat_i, two_limbs g2.1 g2.2 g1.1 g1.2, tdiv_nn t0, tmod_nn t0, w64 (by omega) (by omega)]
    exact hW.trans f2
end
end Go.Proofs.Ytnlgciomdghfiaa.Fw

namespace Go.Proofs.Ytnlgciomdghfiaa.Fw
open Go Go.RowKit Go.Proofs.Ytnlgciomdghfiaa.Limbs
set_option linter.unusedVariables false
set_option linter.unusedSimpArgs false

theorem val_rep (k : Nat) : val (List.replicate k (0:Int)) = 0 := by
  have : ZeroFrom 0 (List.replicate k (0:Int)) := fun j _ => by
    by_cases h : j < k
    · rw [getD_get (by simpa using h)]; simp
    · exact getD_out (by simp; omega)
  rw [val_zeroFrom this]; simp
theorem rep_getD (k j : Nat) : (List.replicate k (0:Int)).getD j 0 = 0 := by
  by_cases h : j < k
  · rw [getD_get (by simpa using h)]; simp
  · exact getD_out (by simp; omega)
theorem ok_rep (k : Nat) : Ok (List.replicate k (0:Int)) := fun x hx => by rw [List.eq_of_mem_replicate hx]; exact ⟨Int.le_refl _, B_pos⟩
theorem norm_last {b : List Int} {m : Nat} (h : Norm b) (hl : b.length = m + 1) : 0 < b.getD m 0 := by
  have h1 := ok_getD h.ok m
  rcases norm_ge h with e | e
  · subst e; simp at hl
  · have t := take_lt h.ok (k := m) (by omega)
    have e2 : val b = val (b.take m) + B ^ m * b.getD m 0 := by rw [← val_take_succ, List.take_of_length_le (by omega)]
    rw [hl, Nat.add_sub_cancel] at e
    by_cases hz : b.getD m 0 = 0
    · rw [hz] at e2; simp at e2; omega
    · omega
theorem sizeDiv_ret {n : Nat} (hn : Big + 3 ≤ n) {a b : List Int} (ha : Norm a) (hb : Norm b) (hb0 : b ≠ []) (hla : a.length ≤ 1048576) (hlb : b.length ≤ 1048576) :
    ∃ q r, Ok q ∧ Ok r ∧ val a = val q * val b + val r ∧ val r < val b ∧ q.length ≤ a.length ∧ r.length ≤ b.length ∧ c_impl_sizeDiv (run tb orc n) a b = some (q, r) := by
  obtain ⟨n, rfl, hm⟩ := up hn
  have hbig := big_ge
  have hB := B_def
  have lb0 : 0 < b.length := List.length_pos_iff.2 hb0
  rw [impl_sizeDiv_eq]; unfold impl_sizeDiv_f impl_sizeDiv_x
  by_cases h1 : a.length < b.length
  · refine ⟨[], a, Ok.nil, ha.ok, by simp, val_lt_of_length ha hb h1, by simp, by omega, ?_⟩
    rw [if_pos (by omega), clone_ret (by omega) (by omega)]; rfl
  rw [if_neg (by omega)]
  by_cases h2 : b.length = 1
  · obtain ⟨y, rfl⟩ : ∃ y, b = [y] := by
      match b, h2 with
      | [y], _ => exact ⟨y, rfl⟩
    have hy := norm_last (m := 0) hb rfl
    have hy1 := ok_getD hb.ok 0
    have ey : ([y] : List Int).getD 0 0 = y := rfl
    rw [ey] at hy hy1
    obtain ⟨q, s, g1, g2, g3, g4, g5, g6⟩ := sizeDiv1_from (C := run tb orc n) (N := n) ha.ok ⟨hy, hy1.2⟩ (by omega) a.length (List.replicate a.length 0) 0 (Nat.le_refl _) (by simp) (ok_rep _) ⟨Int.le_refl _, hy⟩ (by
      rw [List.drop_of_length_le (Nat.le_refl _), List.drop_of_length_le (by simp)]; simp) (fun j _ => rep_getD _ _)
    refine ⟨q, [s], g1, Ok.cons g3 (by omega) Ok.nil, by rw [val_one, val_one]; exact g5, by rw [val_one, val_one]; exact g4, by omega, by simp, ?_⟩
    rw [if_pos (by simp), if_pos (by omega), if_pos (limB_lt (by omega)), nat_i, w64 (by omega) (by omega)]
    exact g6 n (by omega)
  rw [if_neg (by omega)]
  obtain ⟨m, hbm⟩ : ∃ m, b.length = m + 2 := ⟨b.length - 2, by omega⟩
  have y0 := norm_last (m := m + 1) hb hbm
  have y1 := ok_getD hb.ok (m + 1)
  rw [hB] at y1
  have e1 : (b.length : Int) - 1 = ((m + 1 : Nat) : Int) := by omega
  have nbp := nb_pos (n := (b.getD (m + 1) 0).toNat) (by omega)
  have nbl := nb_lt (b.getD (m + 1) 0).toNat
  have nbg := nb_le (n := (b.getD (m + 1) 0).toNat) (by omega)
  have nbb := nb_bound (n := (b.getD (m + 1) 0).toNat) (k := 28) (by omega)
  -- the number of bits, and what is left of 28
  obtain ⟨k, hk⟩ : ∃ k, nb (b.getD (m + 1) 0).toNat = 28 - k ∧ k ≤ 27 := ⟨28 - nb (b.getD (m + 1) 0).toNat, by omega, by omega⟩
  have hlen : c_bits_Len (run tb orc n) (b.getD (m + 1) 0) = some ((28 - k : Nat) : Int) := by rw [len_ret (by omega) (by omega) (by omega), hk.1]
  rw [w64 (n := (b.length : Int) - 1) (by omega) (by omega), if_pos (by omega), if_pos (by omega), e1, nat_i, wu64 (by omega) (by omega), hlen]
  simp only [Option.bind_some]
  have ek : (28:Int) - ((28 - k : Nat) : Int) = (k : Int) := by omega
  rw [w64 (n := (28:Int) - ((28 - k : Nat) : Int)) (by omega) (by omega), ek]
  obtain ⟨la, a1, a2, a3, a4, a5, a6⟩ := shifted_ret (n := n) (by omega) ha.ok (by omega) (show k ≤ 28 by omega)
  obtain ⟨lb, b1, b2, b3, b4, b5, b6⟩ := shifted_ret (n := n) (by omega) hb.ok (by omega) (show k ≤ 28 by omega)
  rw [a6, b6]
  simp only [Option.bind_some]
  have hp := pow28 (k := k) (by omega)
  have hp' := pow28 (k := 28 - k) (by omega)
  -- the size of the divisor
  have P := pow_pos' (m + 1)
  have tb := take_lt hb.ok (k := m + 1) (by omega)
  have vb : val b = val (b.take (m + 1)) + B ^ (m + 1) * b.getD (m + 1) 0 := by rw [← val_take_succ, List.take_of_length_le (by omega)]
  have yu : b.getD (m + 1) 0 + 1 ≤ 2 ^ (28 - k) := by
    rw [hk.1] at nbl
    have : ((2 ^ (28 - k) : Nat) : Int) = (2:Int) ^ (28 - k) := by simp
    omega
  have yl : (2:Int) ^ (28 - k) ≤ 2 * b.getD (m + 1) 0 := by
    rw [hk.1] at nbg nbp
    have e : 2 ^ (28 - k) = 2 * 2 ^ (28 - k - 1) := by
      rw [Nat.mul_comm, ← Nat.pow_succ]; congr 1; omega
    have : ((2 ^ (28 - k) : Nat) : Int) = (2:Int) ^ (28 - k) := by simp
    omega
  have u1 : B ^ (m + 1) * (b.getD (m + 1) 0 + 1) ≤ B ^ (m + 1) * 2 ^ (28 - k) := Int.mul_le_mul_of_nonneg_left yu (by omega)
  have u2 : B ^ (m + 1) * 2 ^ (28 - k) ≤ B ^ (m + 1) * (2 * b.getD (m + 1) 0) := Int.mul_le_mul_of_nonneg_left yl (by omega)
  have u3 : B ^ (m + 1) * 1 ≤ B ^ (m + 1) * b.getD (m + 1) 0 := Int.mul_le_mul_of_nonneg_left (by omega) (by omega)
  rw [Int.mul_add, Int.mul_one] at u1
  have e28 : B ^ (m + 1) * 2 ^ (28 - k) * 2 ^ k = B ^ (m + 1) * B := by rw [Int.mul_assoc, Int.mul_comm (2 ^ (28 - k)), hp.2.2, hB]
  have vlt : val b * 2 ^ k < B ^ (m + 2) := by
    have : val b * 2 ^ k < B ^ (m + 1) * 2 ^ (28 - k) * 2 ^ k := Int.mul_lt_mul_of_pos_right (by omega) hp.1
    rw [e28, ← Int.pow_succ] at this
    exact this
  have vge : B ^ (m + 1) * B ≤ 2 * val b * 2 ^ k := by
    have e2 : B ^ (m + 1) * (2 * b.getD (m + 1) 0) = 2 * (B ^ (m + 1) * b.getD (m + 1) 0) := by rw [Int.mul_left_comm]
    have : B ^ (m + 1) * 2 ^ (28 - k) * 2 ^ k ≤ 2 * val b * 2 ^ k := Int.mul_le_mul_of_nonneg_right (by omega) (by omega)
    rw [e28] at this
    exact this
  -- the divisor
  have lbz : lb.getD (m + 2) 0 = 0 := by
    have e : val lb = val (lb.take (m + 2)) + B ^ (m + 2) * lb.getD (m + 2) 0 := by rw [← val_take_succ, List.take_of_length_le (by omega)]
    rw [hbm] at b2 b3
    have t0 := val_nonneg b2
    have P2 := pow_pos' (m + 2)
    by_cases hz : lb.getD (m + 2) 0 ≤ 0
    · omega
    · have : B ^ (m + 2) * 1 ≤ B ^ (m + 2) * lb.getD (m + 2) 0 := Int.mul_le_mul_of_nonneg_left (by omega) (by omega)
      omega
  obtain ⟨v, hv⟩ : ∃ v, v = lb.take (m + 2) := ⟨_, rfl⟩
  have hvd : (lb.take (b.length : Int).toNat).drop (0:Int).toNat = v := by rw [hv, nat_i, hbm]; rfl
  have okv : Ok v := by rw [hv, ← hbm]; exact b2
  have lv : v.length = m + 2 := by rw [hv, List.length_take]; omega
  have vv : val v = val b * 2 ^ k := by
    have e : val lb = val (lb.take (m + 2)) + B ^ (m + 2) * lb.getD (m + 2) 0 := by rw [← val_take_succ, List.take_of_length_le (by omega)]
    rw [hv, ← b5, e, lbz]; simp
  have htop : 268435456 ≤ 2 * v.getD (m + 1) 0 := by
    have tv := take_lt okv (k := m + 1) (by omega)
    have e : val v = val (v.take (m + 1)) + B ^ (m + 1) * v.getD (m + 1) 0 := by rw [← val_take_succ, List.take_of_length_le (by omega)]
    have g : 268435456 < 2 * v.getD (m + 1) 0 + 2 := by
      refine lt_of_pow P (show (0:Int) ≤ 0 by omega) ?_
      rw [← hB, Int.zero_add]
      have e2 : B ^ (m + 1) * (2 * v.getD (m + 1) 0 + 2) = 2 * (B ^ (m + 1) * v.getD (m + 1) 0) + 2 * B ^ (m + 1) := by
        rw [Int.mul_add, Int.mul_left_comm, Int.mul_comm (B ^ (m + 1)) 2]
      rw [e2]
      have : 2 * val b * 2 ^ k = 2 * val v := by rw [vv, Int.mul_assoc]
      omega
    omega
  -- the start
  obtain ⟨j, hj⟩ : ∃ j, j + (m + 2) = a.length + 1 := ⟨a.length + 1 - (m + 2), by omega⟩
  have okla : Ok la := by
    have e : la = la.take a.length ++ [la.getD a.length 0] := by
      have := List.take_succ_eq_append_getElem (l := la) (i := a.length) (by omega)
      rw [List.take_of_length_le (by omega)] at this
      rw [getD_get (by omega)]; exact this
    rw [e]
    exact a2.snoc a3 (by rw [hB]; omega)
  have hst : Long (val a * 2 ^ k) v a.length j la (List.replicate (a.length - v.length + 1) 0) := by
    refine ⟨a1, by simp, okla, ok_rep _, ?_, fun i hi => getD_out (by omega), fun i _ => rep_getD _ _, by rw [val_rep, a5]; simp⟩
    rw [a5, vv]
    have g1 : val a < B ^ a.length := val_lt ha.ok
    have g2 : B ^ (m + 1) * B ^ j ≤ val b * B ^ j := Int.mul_le_mul_of_nonneg_right (by omega) (Int.le_of_lt (pow_pos' j))
    rw [← Int.pow_add, show m + 1 + j = a.length by omega] at g2
    have g3 : val a * 2 ^ k < val b * B ^ j * 2 ^ k := Int.mul_lt_mul_of_pos_right (by omega) hp.1
    have e : val b * 2 ^ k * B ^ j = val b * B ^ j * 2 ^ k := by rw [Int.mul_assoc, Int.mul_assoc, Int.mul_comm (2 ^ k)]
    rw [e]; exact g3
  obtain ⟨u', out', hL, hW⟩ := rounds (C := run _ _ n) (N := n) (b := b) (d4 := lb) (show Big ≤ n by omega) (show k ≤ 28 by omega) rfl hvd okv lv htop hla j la _ hst (by omega) n (by omega)
  have hll := hL.len
  have hlo := hL.lo
  have hz : ZeroFrom v.length u' := by have := hL.z; rw [Nat.zero_add] at this; exact this
  have hD : (2:Int) ^ k * 2 ^ (28 - k) = B := by rw [hp.2.2, hB]
  have hvr : val (unsh (2 ^ (28 - k)) (2 ^ k) (u'.take v.length)) = val u' / 2 ^ k := by
    rw [val_unsh hD hp'.1 hp.1 (ok_take hL.ok _), ← val_zeroFrom hz]
  have hU := hL.v
  have hlt := hL.lt
  rw [vv, Int.pow_zero, Int.mul_one] at hlt
  rw [vv, ← Int.mul_assoc] at hU
  have hr : val u' = (val a - val out' * val b) * 2 ^ k := by rw [Int.sub_mul]; omega
  have hvr' : val u' / 2 ^ k = val a - val out' * val b := by rw [hr]; exact Int.mul_ediv_cancel _ (by omega)
  refine ⟨out', unsh (2 ^ (28 - k)) (2 ^ k) (u'.take v.length), hL.oko, unsh_ok _ _ _, by rw [hvr, hvr']; omega, ?_, by omega, by rw [unsh_length, List.length_take]; omega, ?_⟩
  · rw [hvr, Int.ediv_lt_iff_lt_mul hp.1]; exact hlt
  · rw [hvd]
    have e5 : (a.length : Int) - (v.length : Int) = (j : Int) - 1 := by omega
    have e6 : (j : Int) - 1 + 1 = ((a.length - v.length + 1 : Nat) : Int) := by omega
    rw [if_pos (by omega), if_pos (by omega), if_pos (by omega), if_pos (by omega), w64 (n := (a.length : Int) - (v.length : Int)) (by omega) (by omega), e5, w64 (n := (j : Int) - 1 + 1) (by omega) (by omega), e6, nat_i, if_pos (by omega), if_pos (limB_lt (by omega))]
    exact hW
end Go.Proofs.Ytnlgciomdghfiaa.Fw

namespace Go.Proofs.Ytnlgciomdghfiaa.Fw
open Go Go.RowKit Go.Proofs.Ytnlgciomdghfiaa.Limbs
set_option linter.unusedVariables false
set_option linter.unusedSimpArgs false

theorem wholeOf_small {n : Nat} (hn : Big + 1 ≤ n) {x : Int} (hx : x = 1 ∨ x = 2) : c_impl_wholeOf (run tb orc n) x = some (false, [x]) := by
  obtain ⟨n, rfl, hm⟩ := up hn
  have hbig := big_ge
  obtain ⟨n, rfl⟩ : ∃ k, n = k + 2 := ⟨n - 2, by omega⟩
  rw [impl_wholeOf_eq]; unfold impl_wholeOf_f impl_wholeOf_x
  rw [if_neg (by omega), wu64 (by omega) (by omega)]
  have e1 : Go.bits .and .u64 x 268435455 = x := by
    rw [and_u64]
    rcases hx with rfl | rfl
    · rfl
    · rfl
  have e2 : shr .u64 x (28:Int) = 0 := by
    rcases hx with rfl | rfl
    · rfl
    · rfl
  have s1 : ∀ T, impl_wholeOf_g2 (run tb orc (n + 2)) (n + 2) x T (x, []) = T (0, [x]) := by
    intro T
    unfold impl_wholeOf_g2 impl_wholeOf_x2
    dsimp only
    rw [if_pos (by omega), if_pos (lim_lt (by simp)), if_neg (by omega), e1, e2, w64 (by omega) (by omega)]
    rfl
  have s2 : ∀ T, impl_wholeOf_g2 (run tb orc (n + 2)) (n + 2) x T (0, [x]) = some (false, [x]) := by
    intro T
    unfold impl_wholeOf_g2 impl_wholeOf_x2
    dsimp only
    rw [if_neg (by omega), decide_eq_false (by omega)]
  show iterO _ (n + 2) (x, []) = _
  rw [iterO_succ, s1, iterO_succ, s2]
theorem can_false {r : List Int} (h : Norm r) : Can false r := ⟨h, fun _ => rfl⟩
theorem negW_ret {n : Nat} (hn : Big + 1 ≤ n) {s : Bool} {r : List Int} : c_impl_negW (run tb orc n) s r = some (!s && decide (0 < r.length), r) := by
  obtain ⟨n, rfl, hm⟩ := up hn
  rw [impl_negW_eq]; unfold impl_negW_f impl_negW_x
  cases s with
  | false =>
    simp only [Bool.not_false, if_true, Bool.true_and]
    by_cases h : 0 < r.length
    · rw [decide_eq_true (by omega : (r.length : Int) > 0), decide_eq_true h]
    · rw [decide_eq_false (by omega : ¬ (r.length : Int) > 0), decide_eq_false h]
  | true => rw [if_neg (by simp)]; rfl
theorem subW_ret {n : Nat} (hn : Big + 5 ≤ n) {n1 n2 : Bool} {a b : List Int} (ha : Can n1 a) (hb : Can n2 b) (hm : max a.length b.length ≤ 1048600) :
    ∃ s r, Can s r ∧ sv s r = sv n1 a - sv n2 b ∧ r.length ≤ max a.length b.length + 1 ∧ c_impl_subW (run tb orc n) n1 a n2 b = some (s, r) := by
  obtain ⟨n, rfl, hn'⟩ := up hn
  have hc : Can (!n2 && decide (0 < b.length)) b := ⟨hb.1, fun e => by subst e; simp⟩
  have hv : sv (!n2 && decide (0 < b.length)) b = - sv n2 b := by
    by_cases h : b = []
    · subst h; unfold sv; simp
    · rw [decide_eq_true (List.length_pos_iff.2 h), Bool.and_true]
      unfold sv; cases n2 <;> simp
  obtain ⟨s, r, h1, h2, h3, h4⟩ := addW_ret (n := n) (by omega) ha hc hm
  refine ⟨s, r, h1, by rw [h2, hv]; omega, h3, ?_⟩
  rw [impl_subW_eq]; unfold impl_subW_f impl_subW_x
  rw [negW_ret (by omega)]
  simp only [Option.bind_some]
  rw [h4]; rfl
theorem divW_ret {n : Nat} (hn : Big + 6 ≤ n) {s : Bool} {a b : List Int} (ha : Can s a) (hb : Norm b) (hb0 : b ≠ []) (hla : a.length ≤ 1048576) (hlb : b.length ≤ 1048576) :
    ∃ t q r, DownOk s a b t q r ∧ q.length ≤ a.length + 2 ∧ r.length ≤ b.length + 1 ∧ c_impl_divW (run tb orc n) s a false b = some ((t, q), false, r) := by
  obtain ⟨n, rfl, hm⟩ := up hn
  obtain ⟨q, r, h1, h2, h3, h4, h5, h6, h7⟩ := sizeDiv_ret (n := n) (by omega) ha.1 hb hb0 hla hlb
  have tq := trim_length_le q
  have tr := trim_length_le r
  have nq := trim_norm h1
  have nr := trim_norm h2
  have r0 := val_nonneg h2
  have q0 := val_nonneg h1
  rw [impl_divW_eq]; unfold impl_divW_f impl_divW_x
  rw [h7]
  simp only [Option.bind_some]
  rw [trimmed_ret (by omega) (by omega), trimmed_ret (by omega) (by omega)]
  simp only [Option.bind_some]
  have es : sgn false (Limbs.trim r) = false := rfl
  rw [es]
  cases s with
  | false =>
    refine ⟨false, Limbs.trim q, Limbs.trim r, ⟨can_false nq, nr, ?_, by rw [val_trim]; exact h4⟩, by omega, by omega, ?_⟩
    · rw [sv_false, sv_false, val_trim, val_trim]; exact h3
    · rw [if_neg (by simp)]; rfl
  | true =>
    by_cases hr : 0 < (Limbs.trim r).length
    · have rp : 0 < val r := by rw [← val_trim]; exact nr.pos (List.length_pos_iff.1 hr)
      obtain ⟨t1, q1, g1, g2, g3, g4⟩ := subW_ret (n := n) (by omega) (can_sgn (s := true) nq) (can_false norm_one) (by simp; omega)
      obtain ⟨t2, r2, k1, k2, k3, k4⟩ := subW_ret (n := n) (by omega) (can_false hb) (can_false nr) (by omega)
      rw [sv_false, sv_false, val_trim] at k2
      have et2 : t2 = false := by
        cases t2 with
        | false => rfl
        | true => rw [sv_true] at k2; have := val_nonneg k1.1.ok; omega
      subst et2
      rw [sv_false] at k2
      rw [sv_sgn, sv_true, sv_false, val_trim, val_one] at g2
      refine ⟨t1, q1, r2, ⟨g1, k1.1, ?_, by omega⟩, by simp at g3; omega, by omega, ?_⟩
      · rw [g2, k2, sv_true, h3, Int.sub_mul, Int.neg_mul, Int.one_mul]; omega
      · rw [if_pos rfl, if_pos (by omega), wholeOf_small (by omega) (.inl rfl)]
        simp only [Option.bind_some]
        rw [g4, k4]; rfl
    · have er : Limbs.trim r = [] := List.eq_nil_of_length_eq_zero (by omega)
      have rz : val r = 0 := by rw [← val_trim, er]; rfl
      refine ⟨sgn true (Limbs.trim q), Limbs.trim q, Limbs.trim r, ⟨can_sgn nq, nr, ?_, by rw [val_trim]; exact h4⟩, by omega, by omega, ?_⟩
      · rw [sv_sgn, sv_true, sv_true, val_trim, val_trim, h3, rz, Int.neg_mul]; omega
      · rw [if_pos rfl, if_neg (by omega)]
/-- What may be divided. -/
def fracB (s1 : Bool) (a : List Int) (s2 : Bool) (b : List Int) : Bool := goodB s1 a && (goodB s2 b && (!s2 && decide (0 < b.length)))
theorem frac_i {n : Nat} (hn : Big + 7 ≤ n) {s1 s2 : Bool} {a b : List Int} (ha : a.length < 1099511627776) (hb : b.length < 1099511627776) : c_impl_isFraction (run tb orc n) s1 a s2 b = some (fracB s1 a s2 b) := by
  obtain ⟨n, rfl, hm⟩ := up hn
  rw [impl_isFraction_eq]; unfold impl_isFraction_f impl_isFraction_x fracB
  rw [good_i (by omega) ha]
  cases goodB s1 a with
  | false => rfl
  | true =>
    rw [good_i (by omega) hb]
    cases goodB s2 b with
    | false => rfl
    | true =>
      cases s2 with
      | true => rfl
      | false =>
        simp only [Option.bind_some, Bool.not_false, if_true, Bool.true_and]
        congr 1; exact decide_eq_decide.2 (by omega)
theorem frac_s {n : Nat} (hn : Big + 3 ≤ n) {s1 s2 : Bool} {a b : List Int} (ha : a.length < 1099511627776) (hb : b.length < 1099511627776) : c_spec_l2Divides (run tb orc n) s1 a s2 b = some (fracB s1 a s2 b) := by
  obtain ⟨n, rfl, hm⟩ := up hn
  rw [spec_l2Divides_eq]; unfold spec_l2Divides_f spec_l2Divides_x fracB
  rw [good_s (by omega) ha]
  cases goodB s1 a with
  | false => rfl
  | true =>
    rw [good_s (by omega) hb]
    cases goodB s2 b with
    | false => rfl
    | true =>
      cases s2 with
      | true => rfl
      | false =>
        simp only [Option.bind_some, Bool.not_false, if_true, Bool.true_and]
        congr 1; exact decide_eq_decide.2 (by omega)
theorem frac_can {s1 s2 : Bool} {a b : List Int} (h : fracB s1 a s2 b = true) : Can s1 a ∧ a.length ≤ 40 ∧ s2 = false ∧ Norm b ∧ b.length ≤ 40 ∧ b ≠ [] := by
  unfold fracB at h
  simp only [Bool.and_eq_true, Bool.not_eq_true', decide_eq_true_eq] at h
  obtain ⟨h1, h2, h3, h4⟩ := h
  obtain ⟨c1, l1⟩ := can_of_good h1
  obtain ⟨c2, l2⟩ := can_of_good h2
  exact ⟨c1, l1, h3, c2.1, l2, List.length_pos_iff.1 h4⟩
def downTold (t : Bool) (q r : List Int) : (Bool × List Int) × (Bool × List Int) × Bool := if q.length ≤ 40 then ((t, q), (false, r), true) else ((false, []), (false, []), false)
/-- Both sides say the same. -/
theorem divWholes_both (s1 : Bool) {a : List Int} (s2 : Bool) {b : List Int} (hla : a.length ≤ 1048576) (hlb : b.length ≤ 1048576) :
    ∃ p : (Bool × List Int) × (Bool × List Int) × Bool, p.1.2.length ≤ 40 ∧ p.2.1.2.length ≤ 41 ∧ ∀ n, Big + 9 ≤ n → c_impl_DivWholes (run tb orc n) s1 a s2 b = some p ∧ c_spec_DivWholes (run tb orc n) s1 a s2 b = some p := by
  cases g : fracB s1 a s2 b with
  | true =>
    obtain ⟨ca, la, rfl, nb, lb, b0⟩ := frac_can g
    obtain ⟨t, q, r, h1, h2, h3, _⟩ := divW_ret (n := Big + 6) (Nat.le_refl _) ca nb b0 hla hlb
    refine ⟨downTold t q r, by unfold downTold; split <;> simp_all, by unfold downTold; split <;> simp_all; omega, fun n hn => ?_⟩
    obtain ⟨n, rfl, hm⟩ := up hn
    obtain ⟨t', q', r', h1', h2', h3', h4'⟩ := divW_ret (n := n) (by omega) ca nb b0 hla hlb
    obtain ⟨t'', q'', r'', h1'', h2'', h3'', h4''⟩ := l2Down_ret (n := n) (by omega) ca nb b0 hla hlb
    obtain ⟨rfl, rfl, rfl⟩ := h1'.unique h1
    obtain ⟨rfl, rfl, rfl⟩ := h1''.unique h1'
    unfold downTold
    constructor
    · rw [impl_DivWholes_eq]; unfold impl_DivWholes_f impl_DivWholes_x
      rw [frac_i (by omega) (by omega) (by omega), g]
      simp only [Option.bind_some, Bool.not_true, Bool.false_eq_true, if_false]
      rw [h4']
      simp only [Option.bind_some]
      by_cases hq : q''.length ≤ 40
      · rw [if_neg (by omega), if_pos hq, copiedW_ret (by omega) (by omega), copiedW_ret (by omega) (by omega)]; rfl
      · rw [if_pos (by omega), if_neg hq]
    · rw [spec_DivWholes_eq]; unfold spec_DivWholes_f spec_DivWholes_x
      rw [frac_s (by omega) (by omega) (by omega), g, l2In_ret (by omega)]
      simp only [Option.bind_some, Bool.not_true, Bool.false_eq_true, if_false]
      rw [h4'']
      simp only [Option.bind_some]
      rw [l2Out_ret (by omega), l2Out_ret (by omega)]
      simp only [Option.bind_some]
      have er : told false r'' = ((false, r''), true) := by unfold told; rw [if_pos (by omega)]
      rw [er]
      by_cases hq : q''.length ≤ 40
      · have eq : told t'' q'' = ((t'', q''), true) := by unfold told; rw [if_pos hq]
        rw [eq, if_pos hq, if_neg (by simp)]
      · have eq : told t'' q'' = ((false, []), false) := by unfold told; rw [if_neg hq]
        rw [eq, if_neg hq, if_pos (by simp)]
  | false =>
    refine ⟨((false, []), (false, []), false), by simp, by simp, fun n hn => ?_⟩
    obtain ⟨n, rfl, hm⟩ := up hn
    constructor
    · rw [impl_DivWholes_eq]; unfold impl_DivWholes_f impl_DivWholes_x
      rw [frac_i (by omega) (by omega) (by omega), g]; rfl
    · rw [spec_DivWholes_eq]; unfold spec_DivWholes_f spec_DivWholes_x
      rw [frac_s (by omega) (by omega) (by omega), g]; rfl
theorem ok_two : Ok [(2:Int)] := Ok.cons (by omega) (by rw [B_def]; omega) Ok.nil
theorem timesW_two {n : Nat} (hn : Big + 3 ≤ n) {s : Bool} {a : List Int} (ha : Ok a) (hla : a.length ≤ 1048576) :
    ∃ r, Norm r ∧ val r = val a * 2 ∧ r.length ≤ a.length + 1 ∧ c_impl_timesW (run tb orc n) s a 2 = some (sgn s r, r) := by
  obtain ⟨n, rfl, hm⟩ := up hn
  obtain ⟨r, h1, h2, h3, h4⟩ := mulW_ret (n := n) (by omega) (s1 := s) (s2 := false) ha ok_two hla (by simp)
  refine ⟨r, h1, by rw [h2, val_one], by simpa using h3, ?_⟩
  rw [impl_timesW_eq]; unfold impl_timesW_f impl_timesW_x
  rw [wholeOf_small (by omega) (.inr rfl)]
  simp only [Option.bind_some]
  rw [h4]
  simp
/-- Both sides say the same. -/
theorem roundWholes_both (s1 : Bool) {a : List Int} (s2 : Bool) {b : List Int} (hla : a.length ≤ 1048576) (hlb : b.length ≤ 1048576) :
    ∃ p : (Bool × List Int) × Bool, p.1.2.length ≤ 40 ∧ ∀ n, Big + 10 ≤ n → c_impl_RoundWholes (run tb orc n) s1 a s2 b = some p ∧ c_spec_RoundWholes (run tb orc n) s1 a s2 b = some p := by
  cases g : fracB s1 a s2 b with
  | true =>
    obtain ⟨ca, la, rfl, nb, lb, b0⟩ := frac_can g
    have vb := nb.pos b0
    -- what both say
    have imp : ∀ n, Big + 8 ≤ n → ∃ c d t q r, Can c d ∧ sv c d = sv s1 a * 2 + val b ∧ ∃ b2, Norm b2 ∧ val b2 = val b * 2 ∧ DownOk c d b2 t q r ∧ c_impl_roundW (run tb orc n) s1 a false b = some (t, q) := by
      intro n hn
      obtain ⟨n, rfl, hm⟩ := up hn
      obtain ⟨a2, x1, x2, x3, x4⟩ := timesW_two (n := n) (by omega) (s := s1) ca.1.ok hla
      obtain ⟨b2, y1, y2, y3, y4⟩ := timesW_two (n := n) (by omega) (s := false) nb.ok hlb
      obtain ⟨c, d, z1, z2, z3, z4⟩ := addW_ret (n := n) (by omega) (can_sgn (s := s1) x1) (can_false nb) (by omega)
      have hb2 : b2 ≠ [] := by rintro rfl; simp at y2; omega
      obtain ⟨t, q, r, w1, w2, w3, w4⟩ := divW_ret (n := n) (by omega) z1 y1 hb2 (by omega) (by omega)
      refine ⟨c, d, t, q, r, z1, ?_, b2, y1, y2, w1, ?_⟩
      · rw [z2, sv_sgn, sv_false]; unfold sv; rw [x2]; split
        · rw [Int.neg_mul]
        · rfl
      · have es : sgn false b2 = false := rfl
        rw [impl_roundW_eq]; unfold impl_roundW_f impl_roundW_x
        rw [x4]
        simp only [Option.bind_some]
        rw [z4, y4]
        simp only [Option.bind_some]
        rw [es, w4]; rfl
    have spc : ∀ n, Big + 8 ≤ n → ∃ c d t q r, Can c d ∧ sv c d = sv s1 a * 2 + val b ∧ ∃ b2, Norm b2 ∧ val b2 = val b * 2 ∧ DownOk c d b2 t q r ∧ c_spec_l2Near (run tb orc n) s1 a b = some (t, q) := by
      intro n hn
      obtain ⟨n, rfl, hm⟩ := up hn
      obtain ⟨a2, x1, x2, x3, x4⟩ := l2Times_ret (n := n) (by omega) (s1 := s1) (s2 := false) ca.1.ok ok_two hla (by simp)
      obtain ⟨b2, y1, y2, y3, y4⟩ := l2Mul_ret (n := n) (by omega) nb.ok ok_two hlb (by simp)
      rw [val_one] at x2 y2
      simp at x3 y3
      obtain ⟨c, d, z1, z2, z3, z4⟩ := l2Plus_ret (n := n) (by omega) (can_sgn (s := s1 != false) x1) (can_false nb) (by omega)
      have hb2 : b2 ≠ [] := by rintro rfl; simp at y2; omega
      obtain ⟨t, q, r, w1, w2, w3, w4⟩ := l2Down_ret (n := n) (by omega) z1 y1 hb2 (by omega) (by omega)
      refine ⟨c, d, t, q, r, z1, ?_, b2, y1, y2, w1, ?_⟩
      · have e : (s1 != false) = s1 := by cases s1 <;> rfl
        rw [z2, sv_sgn, sv_false, e]; unfold sv; rw [x2]; split
        · rw [Int.neg_mul]
        · rfl
      · rw [spec_l2Near_eq]; unfold spec_l2Near_f spec_l2Near_x
        rw [x4]
        simp only [Option.bind_some]
        rw [z4, y4]
        simp only [Option.bind_some]
        rw [w4]; rfl
    have uni : ∀ {c d t q r b2 c' d' t' q' r' b2'}, Can c d → sv c d = sv s1 a * 2 + val b → Norm b2 → val b2 = val b * 2 → DownOk c d b2 t q r → Can c' d' → sv c' d' = sv s1 a * 2 + val b → Norm b2' → val b2' = val b * 2 → DownOk c' d' b2' t' q' r' → t' = t ∧ q' = q := by
      intro c d t q r b2 c' d' t' q' r' b2' h1 h2 h3 h4 h5 h1' h2' h3' h4' h5'
      obtain ⟨rfl, rfl⟩ := can_inj h1 h1' (by rw [h2, h2'])
      obtain rfl := norm_inj h3 h3' (by rw [h4, h4'])
      obtain ⟨e1, e2, _⟩ := h5'.unique h5
      exact ⟨e1, e2⟩
    obtain ⟨c, d, t, q, r, h1, h2, b2, h3, h4, h5, _⟩ := imp (Big + 8) (Nat.le_refl _)
    refine ⟨told t q, told_len _ _, fun n hn => ?_⟩
    obtain ⟨n, rfl, hm⟩ := up hn
    constructor
    · obtain ⟨c', d', t', q', r', h1', h2', b2', h3', h4', h5', h6'⟩ := imp n (by omega)
      obtain ⟨rfl, rfl⟩ := uni h1 h2 h3 h4 h5 h1' h2' h3' h4' h5'
      rw [impl_RoundWholes_eq]; unfold impl_RoundWholes_f impl_RoundWholes_x
      rw [frac_i (by omega) (by omega) (by omega), g]
      simp only [Option.bind_some, Bool.not_true, Bool.false_eq_true, if_false]
      rw [h6']
      simp only [Option.bind_some]
      rw [kept_ret (by omega)]; rfl
    · obtain ⟨c', d', t', q', r', h1', h2', b2', h3', h4', h5', h6'⟩ := spc n (by omega)
      obtain ⟨rfl, rfl⟩ := uni h1 h2 h3 h4 h5 h1' h2' h3' h4' h5'
      rw [spec_RoundWholes_eq]; unfold spec_RoundWholes_f spec_RoundWholes_x
      rw [frac_s (by omega) (by omega) (by omega), g, l2In_ret (by omega)]
      simp only [Option.bind_some, Bool.not_true, Bool.false_eq_true, if_false]
      rw [h6']
      simp only [Option.bind_some]
      rw [l2Out_ret (by omega)]; rfl
  | false =>
    refine ⟨((false, []), false), by simp, fun n hn => ?_⟩
    obtain ⟨n, rfl, hm⟩ := up hn
    constructor
    · rw [impl_RoundWholes_eq]; unfold impl_RoundWholes_f impl_RoundWholes_x
      rw [frac_i (by omega) (by omega) (by omega), g]; rfl
    · rw [spec_RoundWholes_eq]; unfold spec_RoundWholes_f spec_RoundWholes_x
      rw [frac_s (by omega) (by omega) (by omega), g]; rfl
end Go.Proofs.Ytnlgciomdghfiaa.Fw

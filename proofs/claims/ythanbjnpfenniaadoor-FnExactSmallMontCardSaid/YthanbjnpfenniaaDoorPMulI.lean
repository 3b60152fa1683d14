/- Products of whole numbers: the program's, and both told. -/
import Derived.Test.YthanbjnpfenniaaDoorPGood
import Derived.Test.YthanbjnpfenniaaDoorPPow
import Derived.Test.YthanbjnpfenniaaDoorEqW
namespace Go.Proofs.YthanbjnpfenniaaDoor.Fw
open Go Go.RowKit Go.Proofs.YthanbjnpfenniaaDoor.Limbs
set_option linter.unusedVariables false

theorem val_set : ∀ {l : List Int} {k : Nat} {x : Int}, k < l.length → val (l.set k x) = val l + B ^ k * (x - l.getD k 0)
  | [], k, x, h => by simp at h
  | y :: r, 0, x, h => by
    simp only [List.set_cons_zero, val_cons, List.getD_cons_zero]; simp; omega
  | y :: r, k + 1, x, h => by
    simp only [List.set_cons_succ, val_cons, List.getD_cons_succ]
    rw [val_set (by simpa using h), Int.mul_add, Int.pow_succ, Int.mul_comm (B ^ k) B, Int.mul_assoc]; omega
theorem ok_getD {l : List Int} (h : Ok l) (i : Nat) : 0 ≤ l.getD i 0 ∧ l.getD i 0 < B := by
  by_cases hi : i < l.length
  · rw [getD_get hi]; exact h _ (List.getElem_mem hi)
  · rw [List.getD_eq_getElem?_getD, List.getElem?_eq_none (by omega)]; exact ⟨Int.le_refl _, B_pos⟩
theorem ok_set {l : List Int} (h : Ok l) {k : Nat} {x : Int} (h0 : 0 ≤ x) (h1 : x < B) : Ok (l.set k x) := by
  intro y hy
  rcases List.mem_or_eq_of_mem_set hy with hy | rfl
  · exact h y hy
  · exact ⟨h0, h1⟩
theorem val_take_succ (l : List Int) (i : Nat) : val (l.take (i + 1)) = val (l.take i) + B ^ i * l.getD i 0 := by
  by_cases hi : i < l.length
  · rw [List.take_succ_eq_append_getElem hi, val_snoc, getD_get hi, List.length_take, Nat.min_eq_left (by omega)]
  · rw [List.take_of_length_le (by omega), List.take_of_length_le (by omega), List.getD_eq_getElem?_getD, List.getElem?_eq_none (by omega)]; simp
/-- Behind a place all is 0. -/
def ZeroFrom (k : Nat) (l : List Int) : Prop := ∀ j, k ≤ j → l.getD j 0 = 0
theorem getD_set_ne {l : List Int} {k j : Nat} {x : Int} (h : k ≠ j) : (l.set k x).getD j 0 = l.getD j 0 := by
  rw [List.getD_eq_getElem?_getD, List.getD_eq_getElem?_getD, List.getElem?_set_ne h]
theorem getD_set_eq {l : List Int} {k : Nat} {x : Int} (h : k < l.length) : (l.set k x).getD k 0 = x := by
  rw [List.getD_eq_getElem?_getD, List.getElem?_set_self (by simpa using h)]; rfl
theorem set_getD_self {l : List Int} {k : Nat} (h : k < l.length) : l.set k (l.getD k 0) = l := by
  rw [getD_get h]; exact List.set_getElem_self h

/-- The inner loop's state: the carry, the place, the limbs. -/
structure MulIn (a b : List Int) (i : Nat) (out : List Int) (c : Int) (j : Nat) : Prop where
  len : out.length = a.length + b.length
  ok : Ok out
  c0 : 0 ≤ c
  c1 : c < B
  z : ZeroFrom (i + b.length) out
  v : val out + B ^ (i + j) * c = val (a.take i) * val b + B ^ i * a.getD i 0 * val (b.take j)
theorem MulIn.sum {a b : List Int} {i : Nat} {out : List Int} {c : Int} {j : Nat} (h : MulIn a b i out c j) (ha : Ok a) (hb : Ok b) :
    0 ≤ a.getD i 0 * b.getD j 0 ∧ a.getD i 0 * b.getD j 0 ≤ 268435455 * 268435455 ∧ 0 ≤ out.getD (i + j) 0 ∧ out.getD (i + j) 0 ≤ 268435455 := by
  have h1 := ok_getD ha i
  have h2 := ok_getD hb j
  have h3 := ok_getD h.ok (i + j)
  rw [B_def] at h1 h2 h3
  have h4 : 0 ≤ a.getD i 0 * b.getD j 0 := Int.mul_nonneg h1.1 h2.1
  have h5 : a.getD i 0 * b.getD j 0 ≤ 268435455 * 268435455 := Int.mul_le_mul (by omega) (by omega) h2.1 (by omega)
  exact ⟨h4, h5, h3.1, by omega⟩
theorem MulIn.step {a b : List Int} {i : Nat} {out : List Int} {c : Int} {j : Nat} (h : MulIn a b i out c j) (ha : Ok a) (hb : Ok b) (hi : i < a.length) (hj : j < b.length) :
    MulIn a b i (out.set (i + j) ((c + (out.getD (i + j) 0 + a.getD i 0 * b.getD j 0)) % 268435456)) ((c + (out.getD (i + j) 0 + a.getD i 0 * b.getD j 0)) / 268435456) (j + 1) := by
  obtain ⟨s1, s2, s3, s4⟩ := h.sum ha hb
  have c0 := h.c0
  have c1 := h.c1
  rw [B_def] at c1
  have hl := h.len
  generalize hp : a.getD i 0 * b.getD j 0 = p at *
  generalize ht : c + (out.getD (i + j) 0 + p) = t at *
  refine ⟨by simpa using h.len, ok_set h.ok (by omega) (by rw [B_def]; omega), by omega, by rw [B_def]; omega, fun k hk => ?_, ?_⟩
  · rw [getD_set_ne (by omega)]; exact h.z k hk
  · have hv := h.v
    have ed := Int.emod_add_mul_ediv t 268435456
    rw [val_set (by omega), val_take_succ, show i + (j + 1) = (i + j) + 1 from by omega, Int.pow_succ, Int.mul_add, Int.mul_assoc (B ^ i) (a.getD i 0) (B ^ j * b.getD j 0)]
    have e1 : a.getD i 0 * (B ^ j * b.getD j 0) = B ^ j * p := by rw [← hp, ← Int.mul_assoc, Int.mul_comm (a.getD i 0), Int.mul_assoc]
    rw [e1, ← Int.mul_assoc (B ^ i) (B ^ j), ← Int.pow_add]
    have e2 : B ^ (i + j) * B * (t / 268435456) = B ^ (i + j) * (B * (t / 268435456)) := Int.mul_assoc _ _ _
    rw [e2]
    have e3 : B ^ (i + j) * (t % 268435456 - out.getD (i + j) 0) + B ^ (i + j) * (B * (t / 268435456)) = B ^ (i + j) * (c + p) := by
      rw [← Int.mul_add]; congr 1; rw [B_def]; omega
    rw [Int.mul_add] at e3
    omega
/-- The outer loop's state. -/
structure MulOut (a b : List Int) (i : Nat) (out : List Int) : Prop where
  len : out.length = a.length + b.length
  ok : Ok out
  z : ZeroFrom (i + b.length) out
  v : val out = val (a.take i) * val b
theorem MulOut.start (a b : List Int) : MulOut a b 0 (List.replicate (a.length + b.length) 0) := by
  have e : ∀ n, val (List.replicate n 0) = 0 := by
    intro n
    induction n with
    | zero => rfl
    | succ n ih => rw [List.replicate_succ, val_cons, ih]; simp
  refine ⟨by simp, fun x hx => ?_, fun j _ => ?_, by rw [e]; simp⟩
  · rw [(List.mem_replicate.1 hx).2]; exact ⟨Int.le_refl _, B_pos⟩
  · rw [List.getD_eq_getElem?_getD, List.getElem?_replicate]; split <;> rfl
theorem MulOut.inn {a b : List Int} {i : Nat} {out : List Int} (h : MulOut a b i out) : MulIn a b i out 0 0 :=
  ⟨h.len, h.ok, Int.le_refl _, B_pos, h.z, by rw [h.v]; simp⟩
theorem MulIn.out {a b : List Int} {i : Nat} {out : List Int} {c : Int} (h : MulIn a b i out c b.length) (hi : i < a.length) : MulOut a b (i + 1) (out.set (i + b.length) c) := by
  have hl := h.len
  refine ⟨by simpa using h.len, ok_set h.ok h.c0 h.c1, fun k hk => ?_, ?_⟩
  · rw [getD_set_ne (by omega)]; exact h.z k (by omega)
  · have hv := h.v
    rw [List.take_of_length_le (Nat.le_refl _)] at hv
    rw [val_set (by omega), h.z _ (Nat.le_refl _), Int.sub_zero, hv, val_take_succ, Int.add_mul]
theorem MulOut.done {a b : List Int} {out : List Int} (h : MulOut a b a.length out) : val out = val a * val b := by
  rw [h.v, List.take_of_length_le (Nat.le_refl _)]
/-- Both inner loops: from its start it comes to its end. -/
theorem mul_inner {R : Type} {a b : List Int} (ha : Ok a) (hb : Ok b) {i : Nat} (hi : i < a.length) (K : Int × Int × List Int → Option R) {G : (Int × Int × List Int → Option R) → Int × Int × List Int → Option R}
    (hs : ∀ self out c j, MulIn a b i out c j → j < b.length → G self (c, (j : Int), out) = self ((c + (out.getD (i + j) 0 + a.getD i 0 * b.getD j 0)) / 268435456, ((j + 1 : Nat) : Int), out.set (i + j) ((c + (out.getD (i + j) 0 + a.getD i 0 * b.getD j 0)) % 268435456)))
    (hk : ∀ self v, v.2.1 = (b.length : Int) → G self v = K v) : ∀ (d j : Nat) (out : List Int) (c : Int), j + d = b.length → MulIn a b i out c j → ∀ n, d < n →
      ∃ out' c', MulIn a b i out' c' b.length ∧ iterO G n (c, (j : Int), out) = K (c', (b.length : Int), out')
  | 0, j, out, c, hj, h, n, hn => by
    obtain ⟨n, rfl⟩ : ∃ m, n = m + 1 := ⟨n - 1, by omega⟩
    have e : j = b.length := by omega
    subst e
    exact ⟨out, c, h, hk _ _ rfl⟩
  | d + 1, j, out, c, hj, h, n, hn => by
    obtain ⟨n, rfl⟩ : ∃ m, n = m + 1 := ⟨n - 1, by omega⟩
    obtain ⟨out', c', h1, h2⟩ := mul_inner ha hb hi K hs hk d (j + 1) _ _ (by omega) (h.step ha hb hi (by omega)) n (by omega)
    exact ⟨out', c', h1, (hs _ _ _ _ h (by omega)).trans h2⟩
end Go.Proofs.YthanbjnpfenniaaDoor.Fw

namespace Go.Proofs.YthanbjnpfenniaaDoor.Fw
open Go Go.RowKit Go.Proofs.YthanbjnpfenniaaDoor.Limbs
set_option linter.unusedVariables false

/-- The loop that leaves noughts behind away: over a length. -/
theorem trim_loop {R : Type} {l : List Int} (K : Nat → Option R) {G : (Int → Option R) → Int → Option R}
    (hs : ∀ self (m : Nat), m < l.length → l.getD m 0 = 0 → G self ((m + 1 : Nat) : Int) = self (m : Int))
    (hk : ∀ self (m : Nat), m ≤ l.length → (m = 0 ∨ l.getD (m - 1) 0 ≠ 0) → G self (m : Int) = K m) : ∀ (m : Nat), m ≤ l.length → Limbs.trim (l.take m) = Limbs.trim l → ∀ n, m < n → iterO G n (m : Int) = K (Limbs.trim l).length
  | 0, hm, ht, n, hn => by
    obtain ⟨n, rfl⟩ : ∃ m, n = m + 1 := ⟨n - 1, by omega⟩
    rw [← ht]
    exact hk _ 0 hm (.inl rfl)
  | m + 1, hm, ht, n, hn => by
    obtain ⟨n, rfl⟩ : ∃ m, n = m + 1 := ⟨n - 1, by omega⟩
    have hlt : m < l.length := by omega
    rw [List.take_succ_eq_append_getElem hlt] at ht
    by_cases h0 : l.getD m 0 = 0
    · refine (hs _ m hlt h0).trans ?_
      refine trim_loop K hs hk m (by omega) ?_ n (by omega)
      rw [getD_get hlt] at h0
      rw [h0, trim_snoc_zero] at ht
      exact ht
    · have e : (Limbs.trim l).length = m + 1 := by
        rw [← ht, trim_snoc_ne _ (by rwa [getD_get hlt] at h0)]
        simp; omega
      rw [e]
      exact hk _ (m + 1) hm (.inr h0)
theorem l2Trim_from : ∀ (m : Nat) {l : List Int}, l.length = m → m < 1099511627776 → ∀ (C : Ca tb) (N n : Nat), m < n → iterO (spec_l2Trim_g1 C N) n l = some (Limbs.trim l)
  | 0, l, hl, _, C, N, n, hn => by
    obtain ⟨n, rfl⟩ : ∃ m, n = m + 1 := ⟨n - 1, by omega⟩
    obtain rfl := List.eq_nil_of_length_eq_zero hl
    rfl
  | m + 1, l, hl, hb, C, N, n, hn => by
    obtain ⟨n, rfl⟩ : ∃ m, n = m + 1 := ⟨n - 1, by omega⟩
    show spec_l2Trim_x1 C _ l = _
    unfold spec_l2Trim_x1
    have e : ((l.length : Int) - 1) = (m : Nat) := by omega
    rw [if_pos (by omega), w64 (by omega) (by omega), e, if_pos (by omega), if_pos (by omega), nat_i]
    have hsn : l = l.take m ++ [l[m]] := by rw [← List.take_succ_eq_append_getElem (by omega), List.take_of_length_le (by omega)]
    rw [getD_get (by omega)]
    by_cases h0 : l[m] = 0
    · rw [if_pos h0, if_pos (by omega), if_pos (by omega), if_pos (by omega), if_pos (by omega)]
      show iterO (spec_l2Trim_g1 C N) n (l.take m) = _
      rw [l2Trim_from m (by simp; omega) (by omega) C N n (by omega)]
      conv => rhs; rw [hsn, h0, trim_snoc_zero]
    · rw [if_neg h0]
      conv => rhs; rw [hsn, trim_snoc_ne _ h0]
      rw [← hsn]
theorem l2Trim_ret {n : Nat} (hn : Big + 1 ≤ n) {l : List Int} (hl : l.length < 1099511627776) : c_spec_l2Trim (run tb orc n) l = some (Limbs.trim l) := by
  obtain ⟨n, rfl, hn⟩ := up hn
  have hb := big_ge
  rw [spec_l2Trim_eq]; unfold spec_l2Trim_f spec_l2Trim_x
  exact l2Trim_from l.length rfl hl _ _ n (by omega)
/-- What comes of a state of the outer loop. -/
theorem l2Mul_from {n : Nat} (hn : Big + 1 ≤ n) {a b : List Int} (ha : Ok a) (hb : Ok b) (hla : a.length ≤ 1048576) (hlb : b.length ≤ 1048576) : ∀ (d i : Nat) (out : List Int), i + d = a.length → MulOut a b i out → ∀ K, d < K →
    ∃ r, Norm r ∧ val r = val a * val b ∧ r.length ≤ a.length + b.length ∧ iterO (spec_l2Mul_g1 (run tb orc n) n a b) K ((i : Int), out) = some r
  | 0, i, out, hi, h, K, hK => by
    obtain ⟨K, rfl⟩ : ∃ j, K = j + 1 := ⟨K - 1, by omega⟩
    have e : i = a.length := by omega
    subst e
    refine ⟨Limbs.trim out, trim_norm h.ok, by rw [val_trim, h.done], by have := trim_length_le out; have := h.len; omega, ?_⟩
    rw [iterO_succ]; unfold spec_l2Mul_g1 spec_l2Mul_x1
    dsimp only
    rw [if_neg (by omega), l2Trim_ret hn (by have := h.len; omega)]
    rfl
  | d + 1, i, out, hi, h, K, hK => by
    obtain ⟨K, rfl⟩ : ∃ j, K = j + 1 := ⟨K - 1, by omega⟩
    have hb' := big_ge
    have hlt : i < a.length := by omega
    generalize hS : iterO (spec_l2Mul_g1 (run tb orc n) n a b) K = S
    have ih : ∀ out', MulOut a b (i + 1) out' → ∃ r, Norm r ∧ val r = val a * val b ∧ r.length ≤ a.length + b.length ∧ S (((i + 1 : Nat) : Int), out') = some r := by
      intro out' h'
      rw [← hS]
      exact l2Mul_from hn ha hb hla hlb d (i + 1) out' (by omega) h' K (by omega)
    have hS' : iterO (spec_l2Mul_g1 (run tb orc n) n a b) (K + 1) ((i : Int), out) = spec_l2Mul_g1 (run tb orc n) n a b S ((i : Int), out) := by rw [← hS]; rfl
    rw [hS']
    have hs : ∀ self out_ c j, MulIn a b i out_ c j → j < b.length → spec_l2Mul_g2 (run tb orc n) n S a b ((i : Int), out) self (c, (j : Int), out_) = self ((c + (out_.getD (i + j) 0 + a.getD i 0 * b.getD j 0)) / 268435456, ((j + 1 : Nat) : Int), out_.set (i + j) ((c + (out_.getD (i + j) 0 + a.getD i 0 * b.getD j 0)) % 268435456)) := by
      intro self o c j hm hj
      have hl := hm.len
      obtain ⟨s1, s2, s3, s4⟩ := hm.sum ha hb
      have c0 := hm.c0
      have c1 := hm.c1
      rw [B_def] at c1
      unfold spec_l2Mul_g2 spec_l2Mul_x2
      dsimp only
      have e2 : ((i : Int) + (j : Int)).toNat = i + j := by omega
      rw [if_pos (by omega), if_pos (by omega), if_pos (by omega), w64 (n := (i : Int) + (j : Int)) (by omega) (by omega), if_pos (by omega), if_pos (by omega), if_neg (by omega), if_pos (by omega), if_pos (by omega), if_neg (by omega), e2, nat_i, nat_i,
        w64 (n := a.getD i 0 * b.getD j 0) (by omega) (by omega), w64 (n := o.getD (i + j) 0 + a.getD i 0 * b.getD j 0) (by omega) (by omega), w64 (n := c + (o.getD (i + j) 0 + a.getD i 0 * b.getD j 0)) (by omega) (by omega), tdiv_nn (by omega), tmod_nn (by omega), w64 (by omega) (by omega), w64 (n := (j : Int) + 1) (by omega) (by omega), ni1]
    have hk : ∀ self v, v.2.1 = (b.length : Int) → spec_l2Mul_g2 (run tb orc n) n S a b ((i : Int), out) self v = iterO (spec_l2Mul_g3 (run tb orc n) n S a b ((i : Int), out)) n (v.1, wr .i64 ((i : Int) + (b.length : Int)), v.2.2) := by
      intro self v hv
      unfold spec_l2Mul_g2 spec_l2Mul_x2
      rw [if_neg (by omega)]
    obtain ⟨out', c', h1, h2⟩ := mul_inner ha hb hlt (fun v => iterO (spec_l2Mul_g3 (run tb orc n) n S a b ((i : Int), out)) n (v.1, wr .i64 ((i : Int) + (b.length : Int)), v.2.2)) (G := spec_l2Mul_g2 (run tb orc n) n S a b ((i : Int), out)) hs hk b.length 0 out 0 (by omega) h.inn n (by omega)
    · have hl := h1.len
      have c1 := h1.c1
      have c0 := h1.c0
      rw [B_def] at c1
      obtain ⟨r, r1, r2, r3, r4⟩ := ih _ (h1.out hlt)
      refine ⟨r, r1, r2, r3, ?_⟩
      have e0 : spec_l2Mul_g1 (run tb orc n) n a b S ((i : Int), out) = iterO (spec_l2Mul_g2 (run tb orc n) n S a b ((i : Int), out)) n ((0 : Int), (0 : Int), out) := by
        unfold spec_l2Mul_g1 spec_l2Mul_x1
        rw [if_pos (by simp; omega), if_pos (by simp), if_pos (by simp; omega)]
      rw [e0]
      refine h2.trans ?_
      dsimp only
      rw [w64 (by omega) (by omega)]
      obtain ⟨m, hm⟩ : ∃ m, n = m + 2 := ⟨n - 2, by omega⟩
      have stop : ∀ self k o, spec_l2Mul_g3 (run tb orc n) n S a b ((i : Int), out) self ((0 : Int), k, o) = S (((i + 1 : Nat) : Int), o) := by
        intro self k o
        unfold spec_l2Mul_g3 spec_l2Mul_x3
        rw [if_neg (by simp)]
        dsimp only
        rw [w64 (by omega) (by omega), ni1]
      have hz := h1.z (i + b.length) (Nat.le_refl _)
      by_cases hc : c' = 0
      · subst hc
        have e1 : out'.set (i + b.length) 0 = out' := by
          conv => lhs; rw [← hz]
          exact set_getD_self (by omega)
        rw [e1] at r4
        have : ∀ q, q = n → iterO (spec_l2Mul_g3 (run tb orc n) n S a b ((i : Int), out)) q ((0 : Int), (i : Int) + (b.length : Int), out') = some r := by
          intro q hq
          obtain ⟨q, rfl⟩ : ∃ j, q = j + 1 := ⟨q - 1, by omega⟩
          exact (stop _ _ _).trans r4
        exact this n rfl
      · have step : ∀ self, spec_l2Mul_g3 (run tb orc n) n S a b ((i : Int), out) self (c', (i : Int) + (b.length : Int), out') = self ((0 : Int), (i : Int) + (b.length : Int) + 1, out'.set (i + b.length) c') := by
          intro self
          unfold spec_l2Mul_g3 spec_l2Mul_x3
          dsimp only
          have e2 : ((i : Int) + (b.length : Int)).toNat = i + b.length := by omega
          rw [if_pos (by omega), if_pos (by omega), if_pos (by omega), if_neg (by omega), if_pos (by omega), if_pos (by omega), if_neg (by omega), e2, hz, Int.add_zero, w64 (n := c') (by omega) (by omega), tdiv_nn c0, tmod_nn c0, Int.ediv_eq_zero_of_lt c0 c1, Int.emod_eq_of_lt c0 c1, w64 (n := 0) (by omega) (by omega), w64 (by omega) (by omega)]
        have : ∀ q, q = n → iterO (spec_l2Mul_g3 (run tb orc n) n S a b ((i : Int), out)) q (c', (i : Int) + (b.length : Int), out') = some r := by
          intro q hq
          obtain ⟨q, rfl⟩ : ∃ j, q = j + 2 := ⟨q - 2, by omega⟩
          refine (step _).trans ?_
          exact (stop _ _ _).trans r4
        exact this n rfl
theorem l2Mul_ret {n : Nat} (hn : Big + 2 ≤ n) {a b : List Int} (ha : Ok a) (hb : Ok b) (hla : a.length ≤ 1048576) (hlb : b.length ≤ 1048576) :
    ∃ r, Norm r ∧ val r = val a * val b ∧ r.length ≤ a.length + b.length ∧ c_spec_l2Mul (run tb orc n) a b = some r := by
  obtain ⟨n, rfl, hm⟩ := up hn
  have hb' := big_ge
  obtain ⟨r, h1, h2, h3, h4⟩ := l2Mul_from hm ha hb hla hlb a.length 0 _ (by omega) (MulOut.start a b) n (by omega)
  refine ⟨r, h1, h2, h3, ?_⟩
  rw [spec_l2Mul_eq]; unfold spec_l2Mul_f spec_l2Mul_x
  rw [w64 (by omega) (by omega)]
  have e : ((a.length : Int) + (b.length : Int)).toNat = a.length + b.length := by omega
  rw [if_pos (by omega), e, if_pos (limB_lt (by omega))]
  exact h4
end Go.Proofs.YthanbjnpfenniaaDoor.Fw

namespace Go.Proofs.YthanbjnpfenniaaDoor.Fw
open Go Go.RowKit Go.Proofs.YthanbjnpfenniaaDoor.Limbs
set_option linter.unusedVariables false

/-- A sign, but of 0. -/
def sgn (s : Bool) (r : List Int) : Bool := s && decide (0 < r.length)
theorem trimmed_i {n : Nat} (hn : Big + 1 ≤ n) {s : Bool} {l : List Int} (hl : l.length < 1099511627776) : c_impl_trimmed (run tb orc n) s l = some (sgn s (Limbs.trim l), Limbs.trim l) := by
  obtain ⟨n, rfl, hm⟩ := up hn
  have hbig := big_ge
  rw [impl_trimmed_eq]; unfold impl_trimmed_f impl_trimmed_x
  have fin : ∀ m : Nat, m ≤ l.length → (if s = true then (if 0 ≤ (0:Int) then (if (0:Int) ≤ (m : Int) then (if (m : Int) ≤ (m : Int) then (if (m : Int) ≤ (l.length : Int) then (some ((decide ((m : Int) > (0:Int)), (l.take (m : Int).toNat).drop (0:Int).toNat))) else none) else none) else none) else none) else if 0 ≤ (0:Int) then (if (0:Int) ≤ (m : Int) then (if (m : Int) ≤ (m : Int) then (if (m : Int) ≤ (l.length : Int) then (some ((false, (l.take (m : Int).toNat).drop (0:Int).toNat))) else none) else none) else none) else none) = some (s && decide (0 < m), l.take m) := by
    intro m hm
    have h1 : (0 : Int) ≤ (m : Int) := by omega
    have h2 : (m : Int) ≤ (l.length : Int) := by omega
    cases s with
    | true =>
      rw [if_pos rfl, if_pos (Int.le_refl _), if_pos h1, if_pos (Int.le_refl _), if_pos h2, nat_i]
      simp
    | false =>
      rw [if_neg (by simp), if_pos (Int.le_refl _), if_pos h1, if_pos (Int.le_refl _), if_pos h2, nat_i, Bool.false_and]
      simp
  have h := trim_loop (l := l) (fun m => some (s && decide (0 < m), l.take m)) (G := impl_trimmed_g1 (run tb orc n) n s l) ?_ ?_ l.length (Nat.le_refl _) (by rw [List.take_of_length_le (Nat.le_refl _)]) n (by omega)
  · refine h.trans ?_
    have e := trim_eq_take l
    rw [← e]; rfl
  · intro self m hm h0
    unfold impl_trimmed_g1 impl_trimmed_x1
    rw [if_pos (by omega)]
    have e : ((m + 1 : Nat) : Int) - 1 = (m : Int) := by omega
    rw [e, w64 (by omega) (by omega), if_pos (by omega), if_pos (by omega), nat_i, if_pos h0]
  · intro self m hm h0
    unfold impl_trimmed_g1 impl_trimmed_x1
    by_cases hz : m = 0
    · subst hz
      rw [if_neg (by omega)]
      exact fin 0 hm
    · have h1 : l.getD (m - 1) 0 ≠ 0 := h0.resolve_left hz
      rw [if_pos (by omega)]
      have e : ((m : Int) - 1) = ((m - 1 : Nat) : Int) := by omega
      rw [e, w64 (by omega) (by omega), if_pos (by omega), if_pos (by omega), nat_i, if_neg h1]
      exact fin m hm
theorem mulW_from {n : Nat} (hn : Big + 1 ≤ n) {s1 s2 : Bool} {a b : List Int} (ha : Ok a) (hb : Ok b) (hla : a.length ≤ 1048576) (hlb : b.length ≤ 1048576) : ∀ (d i : Nat) (out : List Int), i + d = a.length → MulOut a b i out → ∀ K, d < K →
    ∃ r, Norm r ∧ val r = val a * val b ∧ r.length ≤ a.length + b.length ∧ iterO (impl_mulW_g1 (run tb orc n) n s1 a s2 b) K ((i : Int), out) = some (sgn (s1 != s2) r, r)
  | 0, i, out, hi, h, K, hK => by
    obtain ⟨K, rfl⟩ : ∃ j, K = j + 1 := ⟨K - 1, by omega⟩
    have hb' := big_ge
    have hl := h.len
    have e : i = a.length := by omega
    subst e
    refine ⟨Limbs.trim out, trim_norm h.ok, by rw [val_trim, h.done], by have := trim_length_le out; omega, ?_⟩
    rw [iterO_succ]; unfold impl_mulW_g1 impl_mulW_x1
    dsimp only
    rw [if_neg (by omega), trimmed_i hn (by omega)]
    rfl
  | d + 1, i, out, hi, h, K, hK => by
    obtain ⟨K, rfl⟩ : ∃ j, K = j + 1 := ⟨K - 1, by omega⟩
    have hb' := big_ge
    have hlt : i < a.length := by omega
    generalize hS : iterO (impl_mulW_g1 (run tb orc n) n s1 a s2 b) K = S
    have ih : ∀ out', MulOut a b (i + 1) out' → ∃ r, Norm r ∧ val r = val a * val b ∧ r.length ≤ a.length + b.length ∧ S (((i + 1 : Nat) : Int), out') = some (sgn (s1 != s2) r, r) := by
      intro out' h'
      rw [← hS]
      exact mulW_from hn ha hb hla hlb d (i + 1) out' (by omega) h' K (by omega)
    rw [iterO_succ, hS]
    have hs : ∀ self out_ c j, MulIn a b i out_ c j → j < b.length → impl_mulW_g2 (run tb orc n) n S s1 a s2 b ((i : Int), out) self (c, (j : Int), out_) = self ((c + (out_.getD (i + j) 0 + a.getD i 0 * b.getD j 0)) / 268435456, ((j + 1 : Nat) : Int), out_.set (i + j) ((c + (out_.getD (i + j) 0 + a.getD i 0 * b.getD j 0)) % 268435456)) := by
      intro self o c j hm hj
      have hl := hm.len
      obtain ⟨q1, q2, q3, q4⟩ := hm.sum ha hb
      have c0 := hm.c0
      have c1 := hm.c1
      rw [B_def] at c1
      unfold impl_mulW_g2 impl_mulW_x2
      dsimp only
      have e2 : ((i : Int) + (j : Int)).toNat = i + j := by omega
      rw [if_pos (by omega), if_pos (by omega), if_pos (by omega), w64 (n := (i : Int) + (j : Int)) (by omega) (by omega), if_pos (by omega), if_pos (by omega), if_pos (by omega), if_pos (by omega), if_neg (by omega), e2, nat_i, nat_i,
        w64 (n := a.getD i 0 * b.getD j 0) (by omega) (by omega), w64 (n := o.getD (i + j) 0 + a.getD i 0 * b.getD j 0) (by omega) (by omega), w64 (n := c + (o.getD (i + j) 0 + a.getD i 0 * b.getD j 0)) (by omega) (by omega), shr_28, and_limb, w64 (n := (j : Int) + 1) (by omega) (by omega), ni1]
    have hk : ∀ self v, v.2.1 = (b.length : Int) → impl_mulW_g2 (run tb orc n) n S s1 a s2 b ((i : Int), out) self v = if 0 ≤ wr .i64 ((i : Int) + (b.length : Int)) then (if wr .i64 ((i : Int) + (b.length : Int)) < (v.2.2.length : Int) then S (wr .i64 ((i : Int) + (1:Int)), v.2.2.set ((wr .i64 ((i : Int) + (b.length : Int))).toNat) v.1) else none) else none := by
      intro self v hv
      unfold impl_mulW_g2 impl_mulW_x2
      rw [if_neg (by omega)]
    obtain ⟨out', c', h1, h2⟩ := mul_inner ha hb hlt (fun v => if 0 ≤ wr .i64 ((i : Int) + (b.length : Int)) then (if wr .i64 ((i : Int) + (b.length : Int)) < (v.2.2.length : Int) then S (wr .i64 ((i : Int) + (1:Int)), v.2.2.set ((wr .i64 ((i : Int) + (b.length : Int))).toNat) v.1) else none) else none) (G := impl_mulW_g2 (run tb orc n) n S s1 a s2 b ((i : Int), out)) hs hk b.length 0 out 0 (by omega) h.inn n (by omega)
    have hl := h1.len
    obtain ⟨r, r1, r2, r3, r4⟩ := ih _ (h1.out hlt)
    refine ⟨r, r1, r2, r3, ?_⟩
    unfold impl_mulW_g1 impl_mulW_x1
    dsimp only
    rw [if_pos (by omega), if_pos (by omega), if_pos (by omega)]
    refine h2.trans ?_
    dsimp only
    have e2 : ((i : Int) + (b.length : Int)).toNat = i + b.length := by omega
    rw [w64 (by omega) (by omega), if_pos (by omega), if_pos (by omega), w64 (by omega) (by omega), e2, ni1]
    exact r4
theorem mulW_ret {n : Nat} (hn : Big + 2 ≤ n) {s1 s2 : Bool} {a b : List Int} (ha : Ok a) (hb : Ok b) (hla : a.length ≤ 1048576) (hlb : b.length ≤ 1048576) :
    ∃ r, Norm r ∧ val r = val a * val b ∧ r.length ≤ a.length + b.length ∧ c_impl_mulW (run tb orc n) s1 a s2 b = some (sgn (s1 != s2) r, r) := by
  obtain ⟨n, rfl, hm⟩ := up hn
  have hb' := big_ge
  obtain ⟨r, h1, h2, h3, h4⟩ := mulW_from (n := n) (by omega) (s1 := s1) (s2 := s2) ha hb hla hlb a.length 0 _ (by omega) (MulOut.start a b) n (by omega)
  refine ⟨r, h1, h2, h3, ?_⟩
  rw [impl_mulW_eq]; unfold impl_mulW_f impl_mulW_x
  rw [w64 (by omega) (by omega)]
  have e : ((a.length : Int) + (b.length : Int)).toNat = a.length + b.length := by omega
  rw [if_pos (by omega), e, if_pos (limB_lt (by omega))]
  exact h4
end Go.Proofs.YthanbjnpfenniaaDoor.Fw

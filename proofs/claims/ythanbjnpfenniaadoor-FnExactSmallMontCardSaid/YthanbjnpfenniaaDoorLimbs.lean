/- Numbers in limbs of 28 bits, the least first: values, plain lists, and that a value has one list without noughts behind. No program in it. -/
namespace Go.Proofs.YthanbjnpfenniaaDoor.Limbs

def B : Int := 268435456
theorem B_def : B = 268435456 := rfl
theorem B_pos : 0 < B := by decide

def val : List Int → Int
  | [] => 0
  | x :: xs => x + B * val xs

@[simp] theorem val_nil : val [] = 0 := rfl
theorem val_cons (x : Int) (xs : List Int) : val (x :: xs) = x + B * val xs := rfl
theorem val_one (x : Int) : val [x] = x := by rw [val_cons, val_nil, Int.mul_zero, Int.add_zero]

/-- Each limb from 0 to B - 1. -/
def Ok (xs : List Int) : Prop := ∀ x, x ∈ xs → 0 ≤ x ∧ x < B

theorem Ok.nil : Ok [] := fun _ h => by simp at h
theorem Ok.cons {x : Int} {xs : List Int} (h0 : 0 ≤ x) (h1 : x < B) (h : Ok xs) : Ok (x :: xs) := by
  intro y hy
  rcases List.mem_cons.1 hy with rfl | hy
  · exact ⟨h0, h1⟩
  · exact h y hy
theorem Ok.head {x : Int} {xs : List Int} (h : Ok (x :: xs)) : 0 ≤ x ∧ x < B := h x (List.mem_cons_self ..)
theorem Ok.tail {x : Int} {xs : List Int} (h : Ok (x :: xs)) : Ok xs := fun y hy => h y (List.mem_cons_of_mem _ hy)
theorem Ok.append {xs ys : List Int} (h : Ok xs) (k : Ok ys) : Ok (xs ++ ys) := by
  intro y hy
  rcases List.mem_append.1 hy with hy | hy
  · exact h y hy
  · exact k y hy
theorem Ok.left {xs ys : List Int} (h : Ok (xs ++ ys)) : Ok xs := fun y hy => h y (List.mem_append_left _ hy)
theorem Ok.right {xs ys : List Int} (h : Ok (xs ++ ys)) : Ok ys := fun y hy => h y (List.mem_append_right _ hy)
theorem Ok.snoc {x : Int} {xs : List Int} (h : Ok xs) (h0 : 0 ≤ x) (h1 : x < B) : Ok (xs ++ [x]) := h.append (Ok.cons h0 h1 Ok.nil)

theorem pow_pos' (n : Nat) : 0 < B ^ n := Int.pow_pos B_pos

theorem val_append : ∀ xs ys : List Int, val (xs ++ ys) = val xs + B ^ xs.length * val ys
  | [], ys => by simp
  | x :: xs, ys => by
    rw [List.cons_append, val_cons, val_append xs ys, val_cons, List.length_cons, Int.pow_succ, Int.mul_add, Int.mul_comm (B ^ xs.length) B, Int.mul_assoc]
    omega
theorem val_snoc (xs : List Int) (x : Int) : val (xs ++ [x]) = val xs + B ^ xs.length * x := by rw [val_append, val_one]

theorem val_nonneg : ∀ {xs : List Int}, Ok xs → 0 ≤ val xs
  | [], _ => by simp
  | x :: xs, h => by
    have h1 := h.head
    have h2 := val_nonneg h.tail
    have := Int.mul_nonneg (Int.le_of_lt B_pos) h2
    rw [val_cons]; omega
theorem val_lt : ∀ {xs : List Int}, Ok xs → val xs < B ^ xs.length
  | [], _ => by simp
  | x :: xs, h => by
    have h1 := h.head
    have h2 := val_lt h.tail
    rw [val_cons, List.length_cons, Int.pow_succ]
    have h3 : B * (val xs + 1) ≤ B * B ^ xs.length := Int.mul_le_mul_of_nonneg_left (by omega) (Int.le_of_lt B_pos)
    rw [Int.mul_add, Int.mul_one] at h3
    rw [Int.mul_comm (B ^ xs.length) B]
    omega

/-- The last limb is not 0. -/
def NoTail (xs : List Int) : Prop := ∀ ys y, xs = ys ++ [y] → y ≠ 0

structure Norm (xs : List Int) : Prop where
  ok : Ok xs
  tail : NoTail xs

theorem Norm.nil : Norm [] := ⟨Ok.nil, fun ys y h => by simp at h⟩

theorem snoc_cases (xs : List Int) : xs = [] ∨ ∃ ys y, xs = ys ++ [y] := by
  rcases List.eq_nil_or_concat xs with h | ⟨ys, y, h⟩
  · exact Or.inl h
  · exact Or.inr ⟨ys, y, by rw [h, List.concat_eq_append]⟩

theorem val_ge {xs : List Int} {x : Int} (h : Norm (xs ++ [x])) : B ^ xs.length ≤ val (xs ++ [x]) := by
  have h0 := val_nonneg h.ok.left
  have h1 := h.ok x (by simp)
  have h2 := h.tail xs x rfl
  have h3 : B ^ xs.length * 1 ≤ B ^ xs.length * x := Int.mul_le_mul_of_nonneg_left (by omega) (Int.le_of_lt (pow_pos' _))
  rw [val_snoc]; omega

theorem Norm.pos {xs : List Int} (h : Norm xs) (hne : xs ≠ []) : 0 < val xs := by
  rcases snoc_cases xs with e | ⟨ys, y, rfl⟩
  · exact absurd e hne
  · have := val_ge h
    have := pow_pos' ys.length
    omega
theorem Norm.eq_nil {xs : List Int} (h : Norm xs) (hv : val xs = 0) : xs = [] := by
  by_cases e : xs = []
  · exact e
  · have := h.pos e; omega

theorem pow_le_pow {m n : Nat} (h : m ≤ n) : B ^ m ≤ B ^ n := by
  obtain ⟨k, rfl⟩ : ∃ k, n = m + k := ⟨n - m, by omega⟩
  rw [Int.pow_add]
  have h1 := pow_pos' m
  have h2 := pow_pos' k
  have : B ^ m * 1 ≤ B ^ m * B ^ k := Int.mul_le_mul_of_nonneg_left (by omega) (Int.le_of_lt h1)
  omega
theorem pow_lt_pow {m n : Nat} (h : B ^ m < B ^ n) : m < n := by
  by_cases hc : m < n
  · exact hc
  · have := pow_le_pow (show n ≤ m by omega); omega

theorem ok_inj : ∀ {xs ys : List Int}, Ok xs → Ok ys → xs.length = ys.length → val xs = val ys → xs = ys
  | [], [], _, _, _, _ => rfl
  | [], _ :: _, _, _, h, _ => by simp at h
  | _ :: _, [], _, _, h, _ => by simp at h
  | x :: xs, y :: ys, hx, hy, hl, hv => by
    have h1 := hx.head
    have h2 := hy.head
    rw [val_cons, val_cons] at hv
    have hB := B_def
    have e : x = y := by
      have e1 : (x + B * val xs) % B = x := by rw [Int.add_mul_emod_self_left]; exact Int.emod_eq_of_lt h1.1 h1.2
      have e2 : (y + B * val ys) % B = y := by rw [Int.add_mul_emod_self_left]; exact Int.emod_eq_of_lt h2.1 h2.2
      rw [hv, e2] at e1; exact e1.symm
    subst e
    have : val xs = val ys := by
      rw [hB] at hv; omega
    rw [ok_inj hx.tail hy.tail (by simpa using hl) this]

/-- A number from 0 on has one list without noughts behind. -/
theorem norm_inj {xs ys : List Int} (hx : Norm xs) (hy : Norm ys) (h : val xs = val ys) : xs = ys := by
  have key : ∀ {xs ys : List Int}, Norm xs → Norm ys → val xs = val ys → xs.length ≤ ys.length := by
    intro xs ys hx hy h
    rcases snoc_cases xs with rfl | ⟨as, a, rfl⟩
    · simp
    · have g1 := val_ge hx
      have g2 := val_lt hy.ok
      have := pow_lt_pow (show B ^ as.length < B ^ ys.length by omega)
      simp; omega
  have l1 := key hx hy h
  have l2 := key hy hx h.symm
  exact ok_inj hx.ok hy.ok (by omega) h

/-- Lengths tell sizes. -/
theorem val_lt_of_length {xs ys : List Int} (hx : Norm xs) (hy : Norm ys) (h : xs.length < ys.length) : val xs < val ys := by
  rcases snoc_cases ys with rfl | ⟨bs, b, rfl⟩
  · simp at h
  · have g1 := val_ge hy
    have g2 := val_lt hx.ok
    have := pow_le_pow (show xs.length ≤ bs.length by simp at h; omega)
    omega

/-- The list without noughts behind. -/
def trim : List Int → List Int
  | [] => []
  | x :: xs => match trim xs with
    | [] => if x = 0 then [] else [x]
    | y :: ys => x :: y :: ys

theorem trim_cons (x : Int) (xs : List Int) : trim (x :: xs) = if trim xs = [] then (if x = 0 then [] else [x]) else x :: trim xs := by
  show (match trim xs with
    | [] => if x = 0 then [] else [x]
    | y :: ys => x :: y :: ys) = _
  cases trim xs <;> simp
theorem val_trim : ∀ xs : List Int, val (trim xs) = val xs
  | [] => rfl
  | x :: xs => by
    have ih := val_trim xs
    rw [trim_cons]
    by_cases h : trim xs = []
    · rw [if_pos h]
      rw [h] at ih
      rw [val_cons, ← ih]
      by_cases hx : x = 0
      · rw [if_pos hx, hx]; simp
      · rw [if_neg hx, val_one]; simp
    · rw [if_neg h, val_cons, val_cons, ih]
theorem trim_mem : ∀ {xs : List Int} {y : Int}, y ∈ trim xs → y ∈ xs
  | [], _, h => h
  | x :: xs, y, h => by
    rw [trim_cons] at h
    by_cases e : trim xs = []
    · rw [if_pos e] at h
      by_cases hx : x = 0
      · rw [if_pos hx] at h; simp at h
      · rw [if_neg hx] at h; simp at h; simp [h]
    · rw [if_neg e] at h
      rcases List.mem_cons.1 h with rfl | h
      · simp
      · exact List.mem_cons_of_mem _ (trim_mem h)
theorem trim_ok {xs : List Int} (h : Ok xs) : Ok (trim xs) := fun y hy => h y (trim_mem hy)
theorem trim_tail : ∀ xs : List Int, NoTail (trim xs)
  | [] => fun ys y h => by simp [trim] at h
  | x :: xs => by
    have ih := trim_tail xs
    intro ys y h
    rw [trim_cons] at h
    by_cases e : trim xs = []
    · rw [if_pos e] at h
      by_cases hx : x = 0
      · rw [if_pos hx] at h; simp at h
      · rw [if_neg hx] at h
        cases ys with
        | nil => simp at h; omega
        | cons z zs => simp at h
    · rw [if_neg e] at h
      cases ys with
      | nil => simp at h; exact absurd h.2 e
      | cons z zs =>
        simp at h
        exact ih zs y h.2
theorem trim_norm {xs : List Int} (h : Ok xs) : Norm (trim xs) := ⟨trim_ok h, trim_tail xs⟩
theorem trim_of_noTail : ∀ {xs : List Int}, NoTail xs → trim xs = xs
  | [], _ => rfl
  | x :: xs, h => by
    have ht : NoTail xs := fun ys y e => h (x :: ys) y (by rw [e]; rfl)
    have ih := trim_of_noTail ht
    rw [trim_cons, ih]
    by_cases e : xs = []
    · subst e
      rw [if_pos rfl, if_neg (h [] x rfl)]
    · rw [if_neg e]
theorem trim_snoc_zero (xs : List Int) : trim (xs ++ [0]) = trim xs := by
  induction xs with
  | nil => rfl
  | cons x xs ih => rw [List.cons_append, trim_cons, trim_cons, ih]
theorem trim_snoc_ne (xs : List Int) {x : Int} (h : x ≠ 0) : trim (xs ++ [x]) = xs ++ [x] :=
  trim_of_noTail (fun ys y e => by
    have := List.append_inj_right' e rfl
    simp at this; rw [← this]; exact h)
theorem trim_length_le : ∀ xs : List Int, (trim xs).length ≤ xs.length
  | [] => Nat.le_refl _
  | x :: xs => by
    have ih := trim_length_le xs
    rw [trim_cons]
    split
    · split <;> simp
    · simp; omega
/-- What is trimmed is a beginning of the list. -/
theorem trim_eq_take : ∀ xs : List Int, trim xs = xs.take (trim xs).length
  | [] => rfl
  | x :: xs => by
    have ih := trim_eq_take xs
    rw [trim_cons]
    split
    · split <;> simp
    · rw [List.length_cons, List.take_succ_cons, ← ih]

end Go.Proofs.YthanbjnpfenniaaDoor.Limbs

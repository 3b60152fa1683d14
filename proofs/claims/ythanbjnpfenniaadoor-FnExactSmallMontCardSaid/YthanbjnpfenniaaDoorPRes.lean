/- A whole number modulo a word: both sides. -/
import Derived.Test.YthanbjnpfenniaaDoorPGood
import Derived.Test.YthanbjnpfenniaaDoorPPow
import Derived.Test.YthanbjnpfenniaaDoorEqM
namespace Go.Proofs.YthanbjnpfenniaaDoor.Fw
open Go Go.RowKit Go.Proofs.YthanbjnpfenniaaDoor.Limbs
set_option linter.unusedVariables false

/-- Limbs modulo p, from the top. -/
def wordM (p : Int) : List Int → Int
  | [] => 0
  | d :: t => (wordM p t * 268435456 + d) % p
theorem wordM_val {p : Int} : ∀ (l : List Int), wordM p l % p = val l % p
  | [] => rfl
  | d :: t => by
    show (wordM p t * 268435456 + d) % p % p = (d + B * val t) % p
    rw [Int.emod_emod_of_dvd _ (Int.dvd_refl p), Int.add_emod, Int.mul_emod, wordM_val t, ← Int.mul_emod, ← Int.add_emod, B_def]
    congr 1; omega
theorem wordM_rng {p : Int} (hp : 0 < p) : ∀ (l : List Int), 0 ≤ wordM p l ∧ wordM p l < p
  | [] => ⟨Int.le_refl _, hp⟩
  | d :: t => ⟨Int.emod_nonneg _ (by omega), Int.emod_lt_of_pos _ hp⟩
theorem wordM_is {p : Int} (hp : 0 < p) (l : List Int) : wordM p l = val l % p := by
  rw [← wordM_val, Int.emod_eq_of_lt (wordM_rng hp l).1 (wordM_rng hp l).2]
theorem wordM_drop {p : Int} {l : List Int} {i : Nat} (h : i < l.length) : wordM p (l.drop i) = (wordM p (l.drop (i + 1)) * 268435456 + l.getD i 0) % p := by
  rw [List.drop_eq_getElem_cons h, getD_get h]; rfl
def resP (p : Int) (s : Bool) (l : List Int) : Int := if s = true then -wordM p l % p else wordM p l
theorem resP_rng {p : Int} (hp : 0 < p) (s : Bool) (l : List Int) : 0 ≤ resP p s l ∧ resP p s l < p := by
  unfold resP
  split
  · exact ⟨Int.emod_nonneg _ (by omega), Int.emod_lt_of_pos _ hp⟩
  · exact wordM_rng hp l
theorem shl_28 {x : Int} (h0 : 0 ≤ x) (h1 : x ≤ 268435456) : shl .i64 x (28 : Int) = x * 268435456 := by
  unfold shl
  rw [show min (28 : Int).toNat IntKind.i64.bits = 28 from rfl, show (2 : Int) ^ 28 = 268435456 from rfl]
  exact w64 (by omega) (by omega)
theorem or_limb {x y : Int} (h0 : 0 ≤ x) (h1 : x ≤ 268435456) (h2 : 0 ≤ y) (h3 : y < 268435456) : Go.bits .or .i64 (shl .i64 x (28 : Int)) y = x * 268435456 + y := by
  rw [shl_28 h0 h1]
  exact or_i64_add 28 (by omega) h2 (by rw [show (2 : Int) ^ 28 = 268435456 from rfl]; omega) (by rw [show (2 : Int) ^ 28 = 268435456 from rfl]; omega) (by omega)
theorem modW_ret {n : Nat} (hn : Big + 2 ≤ n) {p : Int} (hp : 0 < p) (hp' : p ≤ 268435456) {s : Bool} {l : List Int} (hl : Ok l) (hL : l.length < 1099511627776) : c_impl_modW (run tb orc n) s l p = some (resP p s l) := by
  obtain ⟨n, rfl, hq⟩ := up (k := 1) hn
  have hbig := big_ge
  rw [impl_modW_eq]; unfold impl_modW_f impl_modW_x
  rw [w64 (by omega) (by omega)]
  have := iter_eq (G := impl_modW_g1 (run tb orc n) n s l p) (fun _ => some (resP p s l)) (fun v => ∃ i : Nat, i ≤ l.length ∧ v.2 = (i : Int) - 1 ∧ v.1 = wordM p (l.drop i)) (fun v => (v.2 + 1).toNat) ?_ n (0, (l.length : Int) - 1) ⟨l.length, by omega, rfl, by rw [List.drop_of_length_le (by omega)]; rfl⟩ (by simp; omega)
  · exact this
  · rintro ⟨r, j⟩ self ⟨i, hi, hj, hr⟩ hs
    simp only at hj hr hs
    show impl_modW_x1 _ _ _ _ _ _ = _
    unfold impl_modW_x1
    dsimp only
    cases i with
    | zero =>
      have hr' : r = wordM p l := hr
      rw [if_neg (by omega)]
      unfold resP
      have := wordM_rng hp l
      cases s with
      | true => rw [if_pos rfl, if_pos rfl, hr', w64 (by omega) (by omega), mod_ret hq hp (by omega), Int.zero_sub]; rfl
      | false => rw [if_neg (by simp), if_neg (by simp), hr']
    | succ i =>
      have e : j = (i : Int) := by omega
      have rr := wordM_rng hp (l.drop (i + 1))
      have ro := hl (l.getD i 0) (by rw [getD_get (by omega)]; exact List.getElem_mem _)
      rw [B_def] at ro
      rw [if_pos (by omega), if_neg (by omega), if_pos (by omega), if_pos (by omega), if_neg (by omega), e, nat_i, or_limb (by omega) (by omega) (by omega) (by omega), tmod_nn (by omega), w64 (by omega) (by omega)]
      refine hs _ ⟨i, by omega, rfl, ?_⟩ (by simp only; omega)
      rw [wordM_drop (by omega), hr]
theorem l2Word_ret {n : Nat} (hn : Big + 1 ≤ n) {p : Int} (hp : 0 < p) (hp' : p ≤ 268435456) {l : List Int} (hl : Ok l) (hL : l.length < 1099511627776) : c_spec_l2Word (run tb orc n) l p = some (wordM p l) := by
  obtain ⟨n, rfl, hq⟩ := up hn
  have hbig := big_ge
  rw [spec_l2Word_eq]; unfold spec_l2Word_f spec_l2Word_x
  rw [w64 (by omega) (by omega)]
  have := iter_eq (G := spec_l2Word_g1 (run tb orc n) n l p) (fun _ => some (wordM p l)) (fun v => ∃ i : Nat, i ≤ l.length ∧ v.2 = (i : Int) - 1 ∧ v.1 = wordM p (l.drop i)) (fun v => (v.2 + 1).toNat) ?_ n (0, (l.length : Int) - 1) ⟨l.length, by omega, rfl, by rw [List.drop_of_length_le (by omega)]; rfl⟩ (by simp; omega)
  · exact this
  · rintro ⟨r, j⟩ self ⟨i, hi, hj, hr⟩ hs
    simp only at hj hr hs
    show spec_l2Word_x1 _ _ _ _ _ = _
    unfold spec_l2Word_x1
    dsimp only
    cases i with
    | zero =>
      have hr' : r = wordM p l := hr
      rw [if_neg (by omega), hr']
    | succ i =>
      have e : j = (i : Int) := by omega
      have rr := wordM_rng hp (l.drop (i + 1))
      have ro := hl (l.getD i 0) (by rw [getD_get (by omega)]; exact List.getElem_mem _)
      rw [B_def] at ro
      rw [if_pos (by omega), if_pos (by omega), if_pos (by omega), if_neg (by omega), e, nat_i, w64 (n := r * 268435456) (by omega) (by omega), w64 (n := r * 268435456 + l.getD i 0) (by omega) (by omega), tmod_nn (by omega), w64 (by omega) (by omega)]
      refine hs _ ⟨i, by omega, rfl, ?_⟩ (by simp only; omega)
      rw [wordM_drop (by omega), hr]
theorem neg_res {p x : Int} (hp : 0 < p) (h0 : 0 ≤ x) (h1 : x < p) : (-x) % p = if x > 0 then p - x else x := by
  split
  · rw [← Int.add_emod_right, show -x + p = p - x by omega, Int.emod_eq_of_lt (by omega) (by omega)]
  · have : x = 0 := by omega
    subst this; simp
end Go.Proofs.YthanbjnpfenniaaDoor.Fw

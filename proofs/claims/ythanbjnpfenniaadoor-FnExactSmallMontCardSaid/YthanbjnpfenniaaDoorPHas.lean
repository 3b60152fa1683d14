/- What two bases share; inverses modulo what shares no divisor. -/
import Derived.Test.YthanbjnpfenniaaDoorPFast
namespace Go.Proofs.YthanbjnpfenniaaDoor.Fw
open Go Go.RowKit Go.Proofs.YthanbjnpfenniaaDoor.Limbs
set_option linter.unusedVariables false

theorem l6Has_ret {n : Nat} (hn : Big + 1 ≤ n) {l : List Int} {x : Int} (hl : l.length < 1099511627776) : c_spec_l6Has (run tb orc n) l x = some (l.contains x) := by
  obtain ⟨n, rfl, hq⟩ := up hn
  have hbig := big_ge
  rw [spec_l6Has_eq]; unfold spec_l6Has_f spec_l6Has_x
  refine (all_idx (fun i => decide (l.getD i 0 ≠ x)) (some false) (some true) (len := l.length) (G := spec_l6Has_g1 (run tb orc n) n l x) (fun self i hi => ?_) (fun self => ?_) l.length 0 (by omega) n (by omega)).trans ?_
  · show spec_l6Has_x1 _ _ _ _ _ = _
    unfold spec_l6Has_x1
    rw [if_pos (by omega), if_pos (by omega), if_pos (by omega), nat_i, w64 (by omega) (by omega), ni1]
    by_cases c : l.getD i 0 = x
    · rw [if_pos c, decide_eq_false (fun h => h c), if_neg (by simp)]
    · rw [if_neg c, decide_eq_true c, if_pos rfl]
  · show spec_l6Has_x1 _ _ _ _ _ = _
    unfold spec_l6Has_x1
    rw [if_neg (by omega)]
  · by_cases h : x ∈ l
    · obtain ⟨i, hi, e⟩ := List.mem_iff_getElem.1 h
      rw [if_neg (fun hh => by
        have := of_decide_eq_true (allN_iff.1 hh i (Nat.zero_le _) (by omega))
        rw [getD_get hi] at this
        exact this e)]
      rw [List.contains_iff_mem.2 h]
    · rw [if_pos (allN_iff.2 fun i _ hi => by
        rw [decide_eq_true_eq, getD_get (by omega)]
        exact fun e => h (e ▸ List.getElem_mem _))]
      have : l.contains x = false := by
        cases hc : l.contains x with
        | false => rfl
        | true => exact absurd (List.contains_iff_mem.1 hc) h
      rw [this]
def apartB (l t : List Int) : Bool := allN (fun i => !t.contains (l.getD i 0)) 0 l.length
theorem apart_iff {l t : List Int} : apartB l t = true ↔ ∀ x ∈ l, x ∉ t := by
  unfold apartB
  rw [allN_iff]
  constructor
  · intro h x hx ht
    obtain ⟨i, hi, rfl⟩ := List.mem_iff_getElem.1 hx
    have := h i (Nat.zero_le _) (by omega)
    rw [getD_get hi, List.contains_iff_mem.2 ht] at this
    cases this
  · intro h i _ hi
    have := h (l.getD i 0) (by rw [getD_get (by omega)]; exact List.getElem_mem _)
    cases hc : t.contains (l.getD i 0) with
    | false => rfl
    | true => exact absurd (List.contains_iff_mem.1 hc) this
theorem apart_comm (l t : List Int) : apartB l t = apartB t l := by
  have : apartB l t = true ↔ apartB t l = true := by
    rw [apart_iff, apart_iff]
    exact ⟨fun h x hx ht => h x ht hx, fun h x hx ht => h x ht hx⟩
  cases h1 : apartB l t <;> cases h2 : apartB t l <;> simp_all
/-- No divisor in common. -/
def Cop (a p : Int) : Prop := ∀ d : Int, d ∣ p → d ∣ a % p → d ∣ 1
open Classical in
noncomputable def invC (a p : Int) : Int := if h : 2 ≤ p ∧ p ≤ 268435456 ∧ Cop a p then Classical.choose (inverse_both h.1 h.2.1 h.2.2) else 0
theorem invC_is {a p : Int} (h1 : 2 ≤ p) (h2 : p ≤ 268435456) (h3 : Cop a p) : 0 ≤ invC a p ∧ invC a p < p ∧ a * invC a p % p = 1 ∧ ∀ n, Big + 2 ≤ n → c_impl_inverse (run tb orc n) a p = some (invC a p, true) ∧ c_spec_l1Inv (run tb orc n) a p = some (invC a p) := by
  unfold invC
  rw [dif_pos ⟨h1, h2, h3⟩]
  exact Classical.choose_spec (inverse_both h1 h2 h3)
theorem cop_mod {a p : Int} (h : Cop a p) : Cop (a % p) p := fun d d1 d2 => h d d1 (by rwa [Int.emod_emod_of_dvd _ (Int.dvd_refl p)] at d2)
/-- The product of a basis. -/
noncomputable def prodAll (l : List Int) : Int := prodEx l l.length
theorem prodAll_i {n : Nat} (hn : Big + 4 ≤ n) {l : List Int} (hB : Basis l) : ∃ r, Norm r ∧ val r = prodAll l ∧ r.length ≤ 21 ∧ c_impl_product (run tb orc n) l (-1) = some (false, r) :=
  product_ret hn (fun j hj => by have := brng hB hj; omega) hB.len (i' := l.length) fun j hj => by omega
theorem prodAll_s {n : Nat} (hn : Big + 3 ≤ n) {l : List Int} (hB : Basis l) : ∃ r, Norm r ∧ val r = prodAll l ∧ r.length ≤ 21 ∧ c_spec_l4Product (run tb orc n) l = some r :=
  prodS_ret hn (fun j hj => by have := brng hB hj; omega) hB.len
theorem prodAll_not_dvd {l : List Int} (h : Basis l) {p : Int} (hp : primeB p = true) (hn : p ∉ l) : ¬ p ∣ prodAll l := by
  have hr := (primeB_iff.1 hp).1
  refine ex_not_dvd hp l.length 0 1 (fun k _ hk _ hd => hn ?_) (fun hd => ?_)
  · rw [pr_dvd_eq hp (h.prime (by omega)) hd, getD_get (by omega)]
    exact List.getElem_mem _
  · have := Int.le_of_dvd (by omega) hd
    omega
theorem prodAll_cop {l : List Int} (h : Basis l) {p : Int} (hp : primeB p = true) (hn : p ∉ l) : Cop (prodAll l) p := coprime_pr hp (prodAll_not_dvd h hp hn)
end Go.Proofs.YthanbjnpfenniaaDoor.Fw

/- slices.IndexFunc and slices.ContainsFunc on slices of whole numbers, of whatever function value whose calls tell a plain predicate and only draw: the first place, and whether there is one. -/
import Derived.Test.YtajlgfjmocgoeacProg
import Derived.WalkKit
import Derived.RowKit
import Derived.RowKit3
import Derived.Deep.LoopGhost
import Derived.Deep.Draws
import Derived.Deep.QuietTactic
import Derived.BigQuiet
import Derived.KernelRfl
import Derived.Shelf.Abstract
import Derived.Outline
import Derived.Test.YtajlgfjmocgoeacWWords
import Derived.Test.YtajlgfjmocgoeacWMore
namespace Go.Proofs.Ytajlgfjmocgoeac.Hand
open Go.RowKit Go.Proofs.YtajlgfjmocgoeacW.PrintWords Go.Proofs.YtajlgfjmocgoeacW.PrintLast Go.Proofs.YtajlgfjmocgoeacW.PrintMore
set_option linter.unusedVariables false
set_option linter.unusedSimpArgs false

/-- The first place, from i on, at which p holds; -1 if none. -/
def idx (p : Int → Bool) : List Int → Int → Int
  | [], _ => -1
  | x :: xs, i => if p x = true then i else idx p xs (i + 1)
theorem idx_any (p : Int → Bool) : ∀ (l : List Int) (i : Int), 0 ≤ i → decide (0 ≤ idx p l i) = l.any p
  | [], _, _ => by simp [idx]
  | x :: xs, i, h => by
    unfold idx
    cases hp : p x with
    | true => simp [hp, h]
    | false =>
      rw [if_neg (by simp)]
      rw [idx_any p xs (i + 1) (by omega), List.any_cons, hp, Bool.false_or]
theorem idx_step (p : Int → Bool) : ∀ (l : List Int) (k : Nat) (i : Int), (∀ j, j < k → p (l.getD j 0) = false) → k < l.length → p (l.getD k 0) = true → idx p l i = i + k
  | [], k, _, _, h, _ => absurd h (by simp)
  | x :: xs, 0, i, _, _, h => by
    unfold idx
    have : p x = true := by simpa using h
    rw [if_pos this]; simp
  | x :: xs, k + 1, i, hn, hk, h => by
    unfold idx
    have h0 : p x = false := by simpa using hn 0 (by omega)
    rw [if_neg (by rw [h0]; simp)]
    rw [idx_step p xs k (i + 1) (fun j hj => by simpa using hn (j + 1) (by omega)) (by simpa using hk) (by simpa using h)]
    omega
theorem idx_none (p : Int → Bool) : ∀ (l : List Int) (i : Int), (∀ j, j < l.length → p (l.getD j 0) = false) → idx p l i = -1
  | [], _, _ => rfl
  | x :: xs, i, h => by
    unfold idx
    have h0 : p x = false := by simpa using h 0 (by simp)
    rw [if_neg (by rw [h0]; simp)]
    exact idx_none p xs (i + 1) (fun j hj => by simpa using h (j + 1) (by simpa using hj))

/-- In every world in which all that lies in w lies unturned a call of g, bound to lb, tells p of a number; it may draw. -/
def Tells (g : Nat) (lb : Array Value) (p : Int → Bool) (w : World) : Prop :=
  ∀ (x : Int) (W : World), Below w.heap.size w W → Calls Try.prog g (#[.int .i64 x] ++ lb) W fun e W' => e = .returned (.bool (p x)) ∧ Drawn0 W W'

set_option maxHeartbeats 8000000 in
set_option maxRecDepth 100000 in
theorem indexFunc_calls (g : Nat) (lb : Array Value) (p : Int → Bool) (eg : ∀ args w, (callFunc g args).run Try.prog w = .ok (.enter g args) w)
    (A0 : Option Addr) (c0 : Nat) (l0 : List Int) (w : World) (hp : Tells g lb p w) (hr0 : Kd.C (Kd.int .i64) w A0 l0.length l0) (hc0 : l0.length ≤ c0) :
    Calls Try.prog 86 #[.slice A0 l0.length c0, .func (.func g) #[] lb] w fun e w' => e = .returned (.int .i64 (idx p l0 0)) ∧ Drawn0 w w' := by
  have HR0 := Aside0.mk hr0
  have hpAt : ∀ (x : Int) (q : Nat), Calls Try.prog g (#[.int .i64 x] ++ lb) (w.drewN q) fun e w' => e = .returned (.bool (p x)) ∧ Drawn0 (w.drewN q) w' := fun x q => hp x _ (pw_below_drewN (Below.refl _ w) q)
  clear hp
  have hmax : l0.length ≤ 9223372036854775807 := hr0.2.1
  clear hr0 hc0
  go_enter Try.func86, Try.ntmps86
  go_wp2
  go_loopg [5, 8] l0.length (fun gg _ s8 wr => ∃ kk : Nat, kk ≤ l0.length ∧ l0.length - kk ≤ gg ∧ s8 = .int .i64 kk ∧ Aside0 (∀ j, j < kk → p (l0.getD j 0) = false) ∧ Drawn0 w wr)
  case atStart => exact ⟨0, Nat.zero_le _, by omega, rfl, ⟨fun j hj => absurd hj (Nat.not_lt_zero _)⟩, Drawn0.refl _⟩
  case round =>
    obtain ⟨kk, hkk, hg, rfl, A, ⟨q, rfl⟩⟩ := hrel
    by_cases hlt : kk < l0.length
    · have hltz : (kk : Int) < (l0.length : Int) := by omega
      obtain ⟨ad, e120, hcell⟩ := Kd.at_int HR0.out kk (by omega) hltz
      cases e120
      have hrd : rd l0 kk = l0.getD kk 0 := by simp [rd]
      rw [hrd, Int.toNat_natCast] at hcell
      clear hrd HR0
      generalize hy : l0.getD kk 0 = y at hcell
      have B := Aside0.mk hy
      clear hy
      have hcall := hpAt y
      clear hpAt
      cases hq : p y with
      | true =>
        rw [hq] at hcall
        go_wp2_with (go_at_fn g; refine (hcall _).mono ?_; rintro e w' ⟨rfl, ⟨q', rfl⟩⟩)
        go_ret
        refine ⟨?_, by repeat (first | exact Drawn0.refl _ | apply Drawn0.step)⟩
        rw [idx_step p l0 kk 0 A.out hlt (by rw [B.out]; exact hq)]
        simp
      | false =>
        rw [hq] at hcall
        go_wp2_with (go_at_fn g; refine (hcall _).mono ?_; rintro e w' ⟨rfl, ⟨q', rfl⟩⟩)
        go_roundg (l0.length - (kk + 1))
        case measure => omega
        case rel =>
          refine ⟨kk + 1, by omega, by omega, by go_num, ⟨fun j hj => ?_⟩, by repeat (first | exact Drawn0.refl _ | apply Drawn0.step)⟩
          by_cases e : j = kk
          · subst e
            rw [B.out]; exact hq
          · exact A.out j (by omega)
    · have hltz : ¬ (kk : Int) < (l0.length : Int) := by omega
      have : kk = l0.length := by omega
      subst this
      clear HR0
      go_wp2
      go_ret
      refine ⟨?_, by repeat (first | exact Drawn0.refl _ | apply Drawn0.step)⟩
      rw [idx_none p l0 0 A.out]
      rfl

set_option maxHeartbeats 4000000 in
set_option maxRecDepth 100000 in
theorem containsFunc_calls (g : Nat) (lb : Array Value) (p : Int → Bool) (eg : ∀ args w, (callFunc g args).run Try.prog w = .ok (.enter g args) w)
    (A0 : Option Addr) (c0 : Nat) (l0 : List Int) (w : World) (hp : Tells g lb p w) (hr0 : Kd.C (Kd.int .i64) w A0 l0.length l0) (hc0 : l0.length ≤ c0) :
    Calls Try.prog 75 #[.slice A0 l0.length c0, .func (.func g) #[] lb] w fun e w' => e = .returned (.bool (l0.any p)) ∧ Drawn0 w w' := by
  have hcon := indexFunc_calls g lb p eg A0 c0 l0 w hp hr0 hc0
  have hany := idx_any p l0 0 (by omega)
  clear hp hr0 hc0
  generalize l0.any p = b at hany ⊢
  generalize idx p l0 0 = r at hcon hany
  subst hany
  go_enter Try.func75, Try.ntmps75
  go_wp2_with (go_at_call 86; refine hcon.mono ?_; rintro e w' ⟨rfl, ⟨q, rfl⟩⟩)
  go_ret
  exact ⟨by first | rfl | (simp; done) | (simp [*]; done), ⟨⟨q, rfl⟩⟩⟩
end Go.Proofs.Ytajlgfjmocgoeac.Hand

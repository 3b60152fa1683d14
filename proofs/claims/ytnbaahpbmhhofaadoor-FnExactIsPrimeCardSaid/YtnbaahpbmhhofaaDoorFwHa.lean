/- One operation of the interpreter is what the machine does: slices that stand in the elements of an array of ours. -/
import Derived.Test.YtnbaahpbmhhofaaDoorFwH
namespace Go.Proofs.YtnbaahpbmhhofaaDoor.Fw
open Go Go.RowKit
set_option linter.unusedVariables false
set_option linter.unusedSimpArgs false

theorem RelX.slAt {w : World} : ∀ {t : Ty} {c : Nat} {x : t.D} {k : IntKind} {m : List Int} {us : List Value} {S : List Nat}, Fw.slAt t c x = some (k, m) → RelX w t x us S →
    ∃ v, us[c]? = some v ∧ ((m = [] ∧ ∃ A, v = .slice A 0 0) ∨ (m ≠ [] ∧ ∃ (b cap : Nat) (cs : Array Value) (tid : TypeId), v = .slice (some ⟨b, 0, none⟩) m.length cap ∧ w.heap[b]? = some (.cells cs tid (0, 0)) ∧ m.length ≤ cs.size ∧ b ∈ S))
  | .int _, _, _, _, _, _, _, h, _ => by simp [Fw.slAt] at h
  | .bool, _, _, _, _, _, _, h, _ => by simp [Fw.slAt] at h
  | .str, _, _, _, _, _, _, h, _ => by simp [Fw.slAt] at h
  | .sl e, c, x, k, m, us, S, h, hr => by
    cases e <;> try (simp [Fw.slAt] at h; done)
    rename_i k'
    cases c with
    | succ c => simp [Fw.slAt] at h
    | zero =>
      simp only [Fw.slAt, Option.some.injEq, Prod.mk.injEq] at h
      obtain ⟨rfl, rfl⟩ := h
      simp only [RelX] at hr
      rcases hr with ⟨h1, _, A, rfl⟩ | ⟨h1, b, cap, cs, tid, ss, rfl, h2, h3, h4, h5, h6, h7⟩
      · exact ⟨_, rfl, .inl ⟨h1, A, rfl⟩⟩
      · refine ⟨_, rfl, .inr ⟨h1, b, cap, cs, tid, rfl, h3, ?_, by rw [h5]; simp⟩⟩
        simp only [Ty.size] at h4
        omega
  | .pr a b, c, x, k, m, us, S, h, hr => by
    simp only [RelX] at hr
    obtain ⟨va, vb, Sa, Sb, rfl, rfl, h1, h2⟩ := hr
    simp only [Fw.slAt] at h
    split at h
    · rename_i hc
      have hc : c < a.size := Nat.le_of_ble_eq_true hc
      obtain ⟨v, h3, h4⟩ := RelX.slAt h h1
      refine ⟨v, by rw [List.getElem?_append_left (by rw [h1.len]; exact hc)]; exact h3, h4.imp id ?_⟩
      rintro ⟨h5, b', cap, cs, tid, h6, h7, h8, h9⟩
      exact ⟨h5, b', cap, cs, tid, h6, h7, h8, List.mem_append.2 (.inl h9)⟩
    · rename_i hc
      have hc : ¬ c < a.size := fun h => hc (Nat.ble_eq_true_of_le h)
      obtain ⟨v, h3, h4⟩ := RelX.slAt h h2
      refine ⟨v, by rw [List.getElem?_append_right (by rw [h1.len]; omega), h1.len]; exact h3, h4.imp id ?_⟩
      rintro ⟨h5, b', cap, cs, tid, h6, h7, h8, h9⟩
      exact ⟨h5, b', cap, cs, tid, h6, h7, h8, List.mem_append.2 (.inr h9)⟩
theorem RelX.slSet {w w' : World} {b : Nat} {cs cs' : Array Value} {tid : TypeId} {n cap j : Nat} {y : Int} {k : IntKind} (hb : w.heap[b]? = some (.cells cs tid (0, 0))) (hb' : w'.heap[b]? = some (.cells cs' tid (0, 0))) (hsz : cs'.size = cs.size)
    (hcs : ∀ i, cs'[i]? = if i = j then some (.int k y) else cs[i]?) (hw : ∀ p, p ≠ b → w'.heap[p]? = w.heap[p]?) :
    ∀ {t : Ty} {c : Nat} {x : t.D} {m : List Int} {us : List Value} {S : List Nat}, Fw.slAt t c x = some (k, m) → RelX w t x us S → S.Nodup → us[c]? = some (.slice (some ⟨b, 0, none⟩) n cap) → j < m.length → RelX w' t (Fw.slSet t c x j y) us S
  | .int _, _, _, _, _, _, h, _, _, _, _ => by simp [Fw.slAt] at h
  | .bool, _, _, _, _, _, h, _, _, _, _ => by simp [Fw.slAt] at h
  | .str, _, _, _, _, _, h, _, _, _, _ => by simp [Fw.slAt] at h
  | .sl e, c, x, m, us, S, h, hr, hn, hu, hj => by
    cases e <;> try (simp [Fw.slAt] at h; done)
    rename_i k'
    cases c with
    | succ c => simp [Fw.slAt] at h
    | zero =>
      simp only [Fw.slAt, Option.some.injEq, Prod.mk.injEq] at h
      obtain ⟨rfl, rfl⟩ := h
      simp only [RelX] at hr
      rcases hr with ⟨h1, _, A, rfl⟩ | ⟨h1, b0, cap0, cs0, tid0, ss, rfl, h2, h3, h4, h5, h6, h7⟩
      · rw [h1] at hj; simp at hj
      · simp at hu
        obtain ⟨rfl, rfl, rfl⟩ := hu
        rw [hb] at h3
        cases h3
        simp only [Fw.slSet, RelX]
        refine .inr ⟨by intro e; exact h1 (List.eq_nil_of_length_eq_zero (by simpa using congrArg List.length e)), b0, cap0, cs', tid, ss, by simp, by simpa using h2, hb', by rw [hsz]; exact h4, h5, by simpa using h6, fun i z hz => ?_⟩
        have hi : i < x.length := by have := (List.getElem?_eq_some_iff.1 hz).1; simpa using this
        obtain ⟨us0, u1, u2⟩ := h7 i _ (List.getElem?_eq_getElem hi)
        rw [List.getElem?_set] at hz
        have e1 : ss.getD i [] = [] := u1.2
        have e2 : us0 = [.int k' x[i]] := u1.1
        have e3 := u2 0 _ (by rw [e2]; rfl)
        simp only [Ty.size, Nat.mul_one, Nat.add_zero] at e3
        by_cases hij : j = i
        · subst hij
          rw [if_pos rfl, if_pos hi] at hz
          cases hz
          refine ⟨[.int k' y], ⟨rfl, e1⟩, fun q u hq => ?_⟩
          cases q with
          | succ q => simp at hq
          | zero => simp at hq; subst hq; simp only [Ty.size, Nat.mul_one, Nat.add_zero]; rw [hcs, if_pos rfl]
        · rw [if_neg hij, List.getElem?_eq_getElem hi] at hz
          cases hz
          refine ⟨[.int k' x[i]], ⟨rfl, e1⟩, fun q u hq => ?_⟩
          cases q with
          | succ q => simp at hq
          | zero => simp at hq; subst hq; simp only [Ty.size, Nat.mul_one, Nat.add_zero]; rw [hcs, if_neg (fun e => hij e.symm)]; exact e3
  | .pr a b2, c, x, m, us, S, h, hr, hn, hu, hj => by
    have hb0 : ∀ {t : Ty} {c : Nat} {x : t.D} {m : List Int} {us : List Value} {S : List Nat}, Fw.slAt t c x = some (k, m) → RelX w t x us S → us[c]? = some (.slice (some ⟨b, 0, none⟩) n cap) → j < m.length → b ∈ S := by
      intro t c x m us S h hr hu hj
      obtain ⟨v, h1, h2⟩ := RelX.slAt h hr
      rw [hu] at h1
      cases h1
      rcases h2 with ⟨h2, _⟩ | ⟨_, b', cap', cs', tid', h3, _, _, h4⟩
      · rw [h2] at hj; simp at hj
      · simp at h3
        rw [h3.1]; exact h4
    simp only [RelX] at hr ⊢
    obtain ⟨va, vb, Sa, Sb, rfl, rfl, h1, h2⟩ := hr
    rw [List.nodup_append] at hn
    obtain ⟨n1, n2, n3⟩ := hn
    simp only [Fw.slAt] at h
    simp only [Fw.slSet]
    split at h
    · rename_i hc
      have hc' : c < a.size := Nat.le_of_ble_eq_true hc
      rw [if_pos hc]
      rw [List.getElem?_append_left (by rw [h1.len]; exact hc')] at hu
      have hbS := hb0 h h1 hu hj
      exact ⟨va, vb, Sa, Sb, rfl, rfl, RelX.slSet hb hb' hsz hcs hw h h1 n1 hu hj, h2.mono fun p hp => hw p (fun e => by subst e; exact n3 _ hbS _ hp rfl)⟩
    · rename_i hc
      have hc' : ¬ c < a.size := fun h => hc (Nat.ble_eq_true_of_le h)
      rw [if_neg hc]
      rw [List.getElem?_append_right (by rw [h1.len]; omega), h1.len] at hu
      have hbS := hb0 h h2 hu hj
      exact ⟨va, vb, Sa, Sb, rfl, rfl, h1.mono fun p hp => hw p (fun e => by subst e; exact n3 _ hp _ hbS rfl), RelX.slSet hb hb' hsz hcs hw h h2 n2 hu hj⟩
/-- No block twice: elements' blocks are apart. -/
theorem flat_apart : ∀ {ss : List (List Nat)} {i j b : Nat}, ss.flatten.Nodup → i ≠ j → b ∈ ss.getD i [] → b ∉ ss.getD j []
  | [], i, j, b, _, _, h => by simp at h
  | s :: r, i, j, b, hn, hij, h => by
    rw [List.flatten_cons, List.nodup_append] at hn
    obtain ⟨n1, n2, n3⟩ := hn
    intro h'
    cases i with
    | zero =>
      cases j with
      | zero => exact hij rfl
      | succ j => exact n3 b (by simpa using h) b (getD_mem_flatten (by simpa using h')) rfl
    | succ i =>
      cases j with
      | zero => exact n3 b (by simpa using h') b (getD_mem_flatten (by simpa using h)) rfl
      | succ j => exact flat_apart (i := i) (j := j) n2 (fun e => hij (by rw [e])) (by simpa using h) (by simpa using h')
theorem flat_set : ∀ {ss : List (List Nat)} {j : Nat} {S : List Nat}, ss.flatten.Nodup → S.Nodup → (∀ b ∈ S, b ∉ ss.flatten) → (ss.set j S).flatten.Nodup ∧ ∀ b ∈ (ss.set j S).flatten, b ∈ ss.flatten ∨ b ∈ S
  | [], j, S, _, _, _ => by simp
  | s :: r, 0, S, hn, hS, hd => by
    rw [List.flatten_cons, List.nodup_append] at hn
    obtain ⟨n1, n2, n3⟩ := hn
    simp only [List.set_cons_zero, List.flatten_cons]
    refine ⟨List.nodup_append.2 ⟨hS, n2, fun b hb c hc e => hd b hb (by subst e; simp only [List.flatten_cons, List.mem_append]; exact .inr hc)⟩, fun b hb => ?_⟩
    rcases List.mem_append.1 hb with h | h
    · exact .inr h
    · exact .inl (List.mem_append.2 (.inr h))
  | s :: r, j + 1, S, hn, hS, hd => by
    rw [List.flatten_cons, List.nodup_append] at hn
    obtain ⟨n1, n2, n3⟩ := hn
    simp only [List.set_cons_succ, List.flatten_cons]
    have hd' : ∀ b ∈ S, b ∉ s ∧ b ∉ r.flatten := fun b hb => by have := hd b hb; simp only [List.flatten_cons, List.mem_append] at this; exact ⟨fun h => this (.inl h), fun h => this (.inr h)⟩
    obtain ⟨k1, k2⟩ := flat_set (j := j) n2 hS (fun b hb => (hd' b hb).2)
    refine ⟨List.nodup_append.2 ⟨n1, k1, fun b hb c hc e => ?_⟩, fun b hb => ?_⟩
    · subst e
      rcases k2 b hc with h | h
      · exact n3 b hb b h rfl
      · exact (hd' b h).1 hb
    · rcases List.mem_append.1 hb with h | h
      · exact .inl (List.mem_append.2 (.inl h))
      · rcases k2 b h with h | h
        · exact .inl (List.mem_append.2 (.inr h))
        · exact .inr h
/-- An element's cells are put in. -/
theorem cells_set {n i : Nat} {cur us : List Value} (hlen : us.length = n) (hroom : i * n + n ≤ cur.length) :
    (∀ (m : Nat) u, us[m]? = some u → (cur.take (i * n) ++ us ++ cur.drop (i * n + us.length)).toArray[i * n + m]? = some u) ∧
    (∀ (j m : Nat) u, i ≠ j → m < n → cur[j * n + m]? = some u → (cur.take (i * n) ++ us ++ cur.drop (i * n + us.length)).toArray[j * n + m]? = some u) := by
  constructor
  · intro m u hm
    have hm' : m < us.length := (List.getElem?_eq_some_iff.1 hm).1
    rw [List.getElem?_toArray, List.append_assoc, List.getElem?_append_right (by simp; omega), List.getElem?_append_left (by simp; omega)]
    simp only [List.length_take]
    rw [show i * n + m - min (i * n) cur.length = m by omega]
    exact hm
  · intro j m u hij hm hcur
    rw [List.getElem?_toArray, List.append_assoc]
    rcases Nat.lt_or_gt_of_ne hij with h | h
    · have : (i + 1) * n ≤ j * n := Nat.mul_le_mul_right _ h
      rw [Nat.add_mul] at this
      rw [List.getElem?_append_right (by simp; omega), List.getElem?_append_right (by simp; omega)]
      simp only [List.length_take, List.getElem?_drop]
      rw [show i * n + us.length + (j * n + m - min (i * n) cur.length - us.length) = j * n + m by omega]
      exact hcur
    · have : (j + 1) * n ≤ i * n := Nat.mul_le_mul_right _ h
      rw [Nat.add_mul] at this
      rw [List.getElem?_append_left (by simp; omega), List.getElem?_take, if_pos (by omega)]
      exact hcur
end Go.Proofs.YtnbaahpbmhhofaaDoor.Fw

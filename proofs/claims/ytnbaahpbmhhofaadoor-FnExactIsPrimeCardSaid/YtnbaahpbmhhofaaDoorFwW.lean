/- Regions of open order: what was told of each operation. -/
import Derived.Test.YtnbaahpbmhhofaaDoorFwV
import Derived.Orders
namespace Go.Proofs.YtnbaahpbmhhofaaDoor.Fw
open Go Go.RowKit
set_option linter.unusedVariables false
set_option linter.unusedSimpArgs false

/-- What was told of one operation. -/
structure Eff where
  σ : St
  rc : Rec
  v : AV
  u : List (Nat × AO)
  go : Bool
def effOf (e : Eff) (σ : St) : St := ⟨putT σ.t e.rc.dst e.v, applyU e.u σ.H⟩
/-- The state behind those that are done, in the order of the text. -/
def stD (D : Nat → Bool) : Nat → List Eff → St → St
  | _, [], σ => σ
  | k, e :: r, σ => stD D (k + 1) r (if D k = true then effOf e σ else σ)
structure EffOk (T : Tb) (Ca : Ca T) (fid : FuncId) (all : List Oper) (an : List (List Nat)) (N0 : Nat) (pre : List Rec) (o : Oper) (e : Eff) : Prop where
  dst : e.rc.dst = o.dst
  cnt : e.rc.cnt = newCnt T fid o
  wr : e.rc.wr = e.u.map (·.1)
  mu : e.rc.mu = muOf e.rc.nid e.rc.cnt e.u
  keys : keysOk N0 e.rc.nid e.rc.cnt (visIn (an.getD pre.length []) pre) e.u = true
  gd : (o.guard = none ∧ e.go = true) ∨ (∃ j w g b, o.guard = some (j, w) ∧ dstOf all j = some g ∧ e.rc.reads.contains g = true ∧ boolOf (tvOf e.σ g) = some b ∧ e.go = (b == w)) ∨ ∃ j w g l, o.guard = some (j, w) ∧ dstOf all j = some g ∧ e.rc.reads.contains g = true ∧ tvOf e.σ g = .tup l ∧ e.go = false
  run : e.go = true → ∀ {H : Nat → AO}, Msk (maskH (look e.σ.H) N0 e.rc.nid e.rc.cnt (visIn (an.getD pre.length []) pre) e.rc.tc) H → ∀ {β : Type} (k' : AV → List (Nat × AO) → Option β), stepE T Ca fid (tvM e.rc.reads (tvOf e.σ)) H e.rc.nid o k' = k' e.v e.u
  idle : e.go = false → e.v = .tup [] ∧ e.u = []

/-- What was told of a part of a region. -/
inductive Told (T : Tb) (Ca : Ca T) (fid : FuncId) (all : List Oper) (an : List (List Nat)) (N0 : Nat) : List Rec → Nat → St → List Oper → List Eff → St → List Rec → Prop
  | nil (rs : List Rec) (nid : Nat) (σ : St) : Told T Ca fid all an N0 rs nid σ [] [] σ rs
  | cons {rs : List Rec} {nid : Nat} {σ : St} {o : Oper} {r : List Oper} {e : Eff} {es : List Eff} {ρ : St} {rs' : List Rec} : e.σ = σ → e.rc.nid = nid → EffOk T Ca fid all an N0 rs o e →
      Told T Ca fid all an N0 (rs ++ [e.rc]) (nid + newCnt T fid o) (effOf e σ) r es ρ rs' → Told T Ca fid all an N0 rs nid σ (o :: r) (e :: es) ρ rs'

section
variable {P : Program} {T : Tb} {α : Type} {r : α}
theorem boolOf_beq (b w : Bool) : True := trivial
theorem drawStep_told {Ca : Ca T} {fid : FuncId} {all : List Oper} {an : List (List Nat)} {N0 : Nat} {o : Oper} {g : List Tmp} {σ : St} {nid : Nat} {rs : List Rec} {k : St → Rec → Option α} (h : drawStep T Ca fid an N0 o g σ nid rs k = some r)
    (hg : (o.guard = none ∧ g = []) ∨ ∃ j w t b, o.guard = some (j, w) ∧ dstOf all j = some t ∧ g = [t] ∧ boolOf (tvOf σ t) = some b ∧ (b == w) = true) :
    ∃ e, e.σ = σ ∧ e.rc.nid = nid ∧ EffOk T Ca fid all an N0 rs o e ∧ k (effOf e σ) e.rc = some r := by
  unfold drawStep at h
  obtain ⟨v, u, h1, h2⟩ := step_spec h
  split at h1 <;> try (cases h1; done)
  rename_i hk
  refine ⟨⟨σ, ⟨o.dst, readsOf o g, u.map (fun q : Nat × AO => q.1), muOf nid (newCnt T fid o) u, tchOf (tvM (readsOf o g) (tvOf σ)) o, nid, newCnt T fid o⟩, v, u, true⟩, rfl, rfl, ?_, h1⟩
  refine ⟨rfl, rfl, rfl, rfl, hk, ?_, fun _ {H} hm {β} k' => h2 hm k', fun h => by cases h⟩
  rcases hg with ⟨h3, h4⟩ | ⟨j, w, t, b, h3, h4, h5, h6, h7⟩
  · exact .inl ⟨h3, rfl⟩
  · exact .inr (.inl ⟨j, w, t, b, h3, h4, by simp [readsOf, h5], h6, h7.symm⟩)
def KnOk (σ : St) (kn : List (Tmp × Bool)) : Prop := ∀ q, q ∈ kn → boolOf (tvOf σ q.1) = some q.2
theorem knOf_ok {σ : St} : ∀ {kn : List (Tmp × Bool)} {g : Tmp} {b : Bool}, KnOk σ kn → knOf kn g = some b → boolOf (tvOf σ g) = some b
  | [], _, _, _, h => by cases h
  | q :: r, g, b, hk, h => by
    simp only [knOf] at h
    split at h
    · rename_i e
      have : q.1 = g := Nat.eq_of_beq_eq_true e
      have h1 := hk q (by simp)
      cases h
      rw [← this]; exact h1
    · exact knOf_ok (fun q hq => hk q (List.mem_cons_of_mem _ hq)) h
theorem knCut_mem : ∀ {d : Tmp} {kn : List (Tmp × Bool)} {q : Tmp × Bool}, q ∈ knCut (some d) kn → q ∈ kn ∧ q.1 ≠ d
  | d, [], q, h => by simp [knCut] at h
  | d, p :: r, q, h => by
    simp only [knCut] at h
    split at h
    · have := knCut_mem h
      exact ⟨List.mem_cons_of_mem _ this.1, this.2⟩
    · rename_i e
      rcases List.mem_cons.1 h with h | h
      · subst h
        refine ⟨by simp, fun e2 => ?_⟩
        rw [e2] at e
        rw [Nat.beq_refl] at e; cases e
      · have := knCut_mem h
        exact ⟨List.mem_cons_of_mem _ this.1, this.2⟩
theorem KnOk.put {σ : St} {kn : List (Tmp × Bool)} (h : KnOk σ kn) (dst : Option Tmp) (v : AV) (H' : List AO) : KnOk ⟨putT σ.t dst v, H'⟩ (knCut dst kn) := by
  cases dst with
  | none =>
    intro q hq
    exact h q (by cases kn <;> exact hq)
  | some d =>
    intro q hq
    obtain ⟨h1, h2⟩ := knCut_mem hq
    have h3 := h q h1
    have h4 := setT_get σ.t d v q.1
    have h5 : tvOf ⟨putT σ.t (some d) v, H'⟩ q.1 = tvOf σ q.1 := by
      simp only [tvOf, putT, List.getD_eq_getElem?_getD, h4]
      rw [if_neg (fun e => h2 e.1)]
    rw [h5]; exact h3
theorem execDraw_told {Ca : Ca T} {fid : FuncId} {all : List Oper} {an : List (List Nat)} {N0 : Nat} {k : St → Option α} : ∀ (rest : List Oper) {σ : St} {nid : Nat} {rs : List Rec} {kn : List (Tmp × Bool)}, KnOk σ kn → execDraw T Ca fid all an N0 rest σ nid rs kn k = some r →
    ∃ es ρ rs', Told T Ca fid all an N0 rs nid σ rest es ρ rs' ∧ k ρ = some r ∧ allPairs an rs' all.length = true ∧ backOk all 0 = true
  | [], σ, nid, rs, kn, hkn, h => by
    simp only [execDraw] at h
    split at h <;> try (cases h; done)
    rename_i h1
    rw [Bool.and_eq_true] at h1
    exact ⟨[], σ, rs, .nil _ _ _, h, h1.1, h1.2⟩
  | o :: rest, σ, nid, rs, kn, hkn, h => by
    have go : ∀ {g : List Tmp} {kn : List (Tmp × Bool)}, KnOk σ kn → ((o.guard = none ∧ g = []) ∨ ∃ j w t b, o.guard = some (j, w) ∧ dstOf all j = some t ∧ g = [t] ∧ boolOf (tvOf σ t) = some b ∧ (b == w) = true) →
        drawStep T Ca fid an N0 o g σ nid rs (fun ρ rc => execDraw T Ca fid all an N0 rest ρ (nid + newCnt T fid o) (rs ++ [rc]) (knCut o.dst kn) k) = some r →
        ∃ es ρ rs', Told T Ca fid all an N0 rs nid σ (o :: rest) es ρ rs' ∧ k ρ = some r ∧ allPairs an rs' all.length = true ∧ backOk all 0 = true := by
      intro g kn hkn hg h
      obtain ⟨e, h1, h2, h3, h4⟩ := drawStep_told h hg
      obtain ⟨es, ρ, rs', h5, h6⟩ := execDraw_told rest (by unfold effOf; rw [h3.dst]; exact hkn.put _ _ _) h4
      exact ⟨e :: es, ρ, rs', .cons h1 h2 h3 h5, h6⟩
    have stay : ∀ {j : Nat} {w : Bool} {t : Tmp} {kn : List (Tmp × Bool)}, KnOk σ kn → o.guard = some (j, w) → dstOf all j = some t → ((∃ b, boolOf (tvOf σ t) = some b ∧ (b == w) = false) ∨ ∃ l, tvOf σ t = .tup l) →
        execDraw T Ca fid all an N0 rest ⟨putT σ.t o.dst (.tup []), σ.H⟩ (nid + newCnt T fid o) (rs ++ [⟨o.dst, [t], [], false, .none, nid, newCnt T fid o⟩]) (knCut o.dst kn) k = some r →
        ∃ es ρ rs', Told T Ca fid all an N0 rs nid σ (o :: rest) es ρ rs' ∧ k ρ = some r ∧ allPairs an rs' all.length = true ∧ backOk all 0 = true := by
      intro j w t kn hkn h1 h2 h3 h
      obtain ⟨es, ρ, rs', h5, h6⟩ := execDraw_told rest (hkn.put _ _ _) h
      refine ⟨⟨σ, ⟨o.dst, [t], [], false, .none, nid, newCnt T fid o⟩, .tup [], [], false⟩ :: es, ρ, rs', .cons rfl rfl ?_ h5, h6⟩
      refine ⟨rfl, rfl, rfl, by simp [muOf], by simp [keysOk], .inr ?_, fun h => (by cases h), fun _ => ⟨rfl, rfl⟩⟩
      rcases h3 with ⟨b, h3, h4⟩ | ⟨l, h3⟩
      · exact .inl ⟨j, w, t, b, h1, h2, by simp, h3, h4.symm⟩
      · exact .inr ⟨j, w, t, l, h1, h2, by simp, h3, rfl⟩
    have cons : ∀ {t : Tmp} {b : Bool}, boolOf (tvOf σ t) = some b → KnOk σ ((t, b) :: kn) := by
      intro t b hb q hq
      rcases List.mem_cons.1 hq with hq | hq
      · subst hq; exact hb
      · exact hkn q hq
    simp only [execDraw] at h
    split at h
    · rename_i hgd
      exact go hkn (.inl ⟨hgd, rfl⟩) h
    · rename_i j w hgd
      split at h <;> try (cases h; done)
      rename_i t ht
      split at h
      · rename_i b hb
        have hb' := knOf_ok hkn hb
        split at h
        · rename_i hbw
          exact go hkn (.inr ⟨j, w, t, b, hgd, ht, rfl, hb', hbw⟩) h
        · rename_i hbw
          exact stay hkn hgd ht (.inl ⟨b, hb', hbw⟩) h
      · rcases testG_some h with ⟨l, hl, h⟩ | ⟨b, _, hb, h⟩
        · exact stay hkn hgd ht (.inr ⟨l, hl⟩) h
        · cases hbw : (b == w) with
          | true => rw [hbw] at h; exact go (cons hb) (.inr ⟨j, w, t, b, hgd, ht, rfl, hb, hbw⟩) (by simpa using h)
          | false => rw [hbw] at h; exact stay (cons hb) hgd ht (.inl ⟨b, hb, hbw⟩) (by simpa using h)
end

/-! ### the told list, place by place -/
theorem stD_append (D : Nat → Bool) : ∀ (xs : List Eff) (k : Nat) (ys : List Eff) (σ : St), stD D k (xs ++ ys) σ = stD D (k + xs.length) ys (stD D k xs σ)
  | [], k, ys, σ => rfl
  | x :: r, k, ys, σ => by
    simp only [List.cons_append, stD]
    rw [stD_append D r, List.length_cons, show k + 1 + r.length = k + (r.length + 1) by omega]
structure ToldAt (T : Tb) (Ca : Ca T) (fid : FuncId) (all : List Oper) (an : List (List Nat)) (N0 : Nat) (es : List Eff) (σ0 : St) (j : Nat) (o : Oper) (e : Eff) : Prop where
  ok : EffOk T Ca fid all an N0 ((es.take j).map (·.rc)) o e
  st : e.σ = stD (fun k => decide (k < j)) 0 es σ0
theorem stD_all {D : Nat → Bool} : ∀ {es : List Eff} {k : Nat} {σ : St}, (∀ i, i < es.length → D (k + i) = true) → stD D k es σ = es.foldl (fun σ e => effOf e σ) σ
  | [], k, σ, _ => rfl
  | e :: r, k, σ, h => by
    have h0 := h 0 (by simp)
    simp only [Nat.add_zero] at h0
    simp only [stD, List.foldl_cons, h0, if_true]
    exact stD_all fun i hi => by have := h (i + 1) (by simpa using hi); rwa [show k + (i + 1) = k + 1 + i by omega] at this
theorem stD_none {D : Nat → Bool} : ∀ {es : List Eff} {k : Nat} {σ : St}, (∀ i, i < es.length → D (k + i) = false) → stD D k es σ = σ
  | [], k, σ, _ => rfl
  | e :: r, k, σ, h => by
    have h0 := h 0 (by simp)
    simp only [Nat.add_zero] at h0
    simp only [stD, h0]
    exact stD_none fun i hi => by have := h (i + 1) (by simpa using hi); rwa [show k + (i + 1) = k + 1 + i by omega] at this
theorem stD_congr {D D' : Nat → Bool} : ∀ {es : List Eff} {k : Nat} {σ : St}, (∀ i, i < es.length → D (k + i) = D' (k + i)) → stD D k es σ = stD D' k es σ
  | [], k, σ, _ => rfl
  | e :: r, k, σ, h => by
    have h0 := h 0 (by simp)
    simp only [Nat.add_zero] at h0
    simp only [stD, h0]
    exact stD_congr fun i hi => by have := h (i + 1) (by simpa using hi); rwa [show k + (i + 1) = k + 1 + i by omega] at this
theorem stD_below {es : List Eff} {σ : St} {j : Nat} (hj : j ≤ es.length) : stD (fun k => decide (k < j)) 0 es σ = (es.take j).foldl (fun σ e => effOf e σ) σ := by
  conv => lhs; rw [← List.take_append_drop j es]
  rw [stD_append, stD_none, stD_all]
  · intro i hi; simp at hi ⊢; omega
  · intro i hi; simp; omega

section
variable {T : Tb} {Ca : Ca T} {fid : FuncId} {all : List Oper} {an : List (List Nat)} {N0 : Nat}
theorem Told.facts : ∀ {rs : List Rec} {nid : Nat} {σ : St} {ops : List Oper} {es : List Eff} {ρ : St} {rs' : List Rec}, Told T Ca fid all an N0 rs nid σ ops es ρ rs' →
    es.length = ops.length ∧ rs' = rs ++ es.map (·.rc) ∧ ρ = es.foldl (fun σ e => effOf e σ) σ ∧
    (∀ (j : Nat) (e : Eff), es[j]? = some e → ∃ o, ops[j]? = some o ∧ EffOk T Ca fid all an N0 (rs ++ (es.take j).map (·.rc)) o e ∧ e.σ = (es.take j).foldl (fun σ e => effOf e σ) σ ∧ nid ≤ e.rc.nid) ∧
    (∀ (i j : Nat) (e f : Eff), i < j → es[i]? = some e → es[j]? = some f → e.rc.nid + e.rc.cnt ≤ f.rc.nid) := by
  intro rs nid σ ops es ρ rs' h
  induction h with
  | nil rs nid σ => exact ⟨rfl, by simp, rfl, fun j e h => by simp at h, fun i j e f _ h => by simp at h⟩
  | @cons rs nid σ o r e es ρ rs' h1 h2 h3 h4 ih =>
    obtain ⟨i1, i2, i3, i4, i5⟩ := ih
    refine ⟨by simp [i1], by rw [i2]; simp, i3, fun j x hx => ?_, fun i j x y hij hx hy => ?_⟩
    · cases j with
      | zero =>
        simp at hx; subst hx
        exact ⟨o, rfl, by simpa using h3, by simpa using h1, by omega⟩
      | succ j =>
        simp only [List.getElem?_cons_succ] at hx
        obtain ⟨o', a1, a2, a3, a4⟩ := i4 j x hx
        exact ⟨o', by simpa using a1, by simpa using a2, by simpa using a3, by omega⟩
    · cases j with
      | zero => omega
      | succ j =>
        simp only [List.getElem?_cons_succ] at hy
        cases i with
        | zero =>
          simp at hx; subst hx
          obtain ⟨o', a1, a2, a3, a4⟩ := i4 j y hy
          rw [h3.cnt, h2]; exact a4
        | succ i => exact i5 i j x y (by omega) (by simpa using hx) hy
end
end Go.Proofs.YtnbaahpbmhhofaaDoor.Fw

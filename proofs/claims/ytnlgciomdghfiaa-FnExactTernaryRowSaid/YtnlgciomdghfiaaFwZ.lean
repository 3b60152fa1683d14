/- Code: what the interpreter tells is what the machine does. -/
import Derived.Test.YtnlgciomdghfiaaFwY
namespace Go.Proofs.Ytnlgciomdghfiaa.Fw
open Go Go.RowKit
set_option linter.unusedVariables false
set_option linter.unusedSimpArgs false

/-! ### at a loop's head -/
theorem plain_rel {C C' : Cx} (hF : ∀ b, C.F b → C'.F b) (hG : ∀ b, C.G b → C'.G b) (hw : C'.w = C.w) : ∀ (d : Nat) {x : AV} {v : Value}, plainA d x = true → RelA C x v → RelA C' x v := by
  intro d
  induction d with
  | zero =>
    intro x v hp h
    cases x <;> simp only [plainA, Bool.false_eq_true] at hp <;> simp only [RelA] at h ⊢ <;> first | exact h | exact h.mono hF (fun _ _ => by rw [hw])
  | succ d ih =>
    have sub : ∀ {l : List AV} {vs : List Value}, l.all (plainA d) = true → RelL C l vs → RelL C' l vs := by
      intro l
      induction l with
      | nil => intro vs _ h; simpa [RelL] using h
      | cons x r ihr =>
        intro vs hp h
        simp only [List.all_cons, Bool.and_eq_true] at hp
        simp only [RelL] at h ⊢
        obtain ⟨v, vr, rfl, h1, h2⟩ := h
        exact ⟨v, vr, rfl, ih hp.1 h1, ihr hp.2 h2⟩
    have subR : ∀ {l : List AV} {b off : Nat}, l.all (plainA d) = true → RelR C b l off → RelR C' b l off := by
      intro l
      induction l with
      | nil => intro b off _ h; simp [RelR]
      | cons x r ihr =>
        intro b off hp h
        simp only [List.all_cons, Bool.and_eq_true] at hp
        simp only [RelR] at h ⊢
        obtain ⟨⟨u, h1, h2, h3⟩, h4⟩ := h
        exact ⟨⟨u, by rw [hw]; exact h1, h2, ih hp.1 h3⟩, ihr hp.2 h4⟩
    intro x v hp h
    cases x <;> simp only [plainA, Bool.false_eq_true] at hp <;> simp only [RelA] at h ⊢ <;> try exact h
    · exact h.mono hF (fun _ _ => by rw [hw])
    · obtain ⟨b, off, rfl, hb, h⟩ := h
      exact ⟨b, off, rfl, hb.imp (hF b) (hG b), subR hp h⟩
    · obtain ⟨vs, h1, h2, h3⟩ := h
      exact ⟨vs, h1, h2, sub hp h3⟩
    · obtain ⟨vs, h1, h3⟩ := h
      exact ⟨vs, h1, sub hp h3⟩
    · obtain ⟨vs, h1, h3⟩ := h
      exact ⟨vs, h1, sub hp h3⟩
def leafA : AV → Bool
  | .agg _ => false
  | .tup _ => false
  | .fn _ _ => false
  | _ => true
/-- A walk through values, with other words for what is at the leaves. -/
theorem mapA_rel' {C C' : Cx} {f : AV → AV} (hf : ∀ x v, leafA x = true → RelA C x v → RelA C' (f x) v) : ∀ (d : Nat) {x : AV} {v : Value}, RelA C x v → RelA C' (mapA f d x) v := by
  intro d
  induction d with
  | zero =>
    intro x v h
    cases x <;> simp only [mapA] <;> first | exact hf _ _ rfl h | simp only [RelA]
  | succ d ih =>
    have sub : ∀ {l : List AV} {vs : List Value}, RelL C l vs → RelL C' (l.map (mapA f d)) vs := fun h => mapL_rel (fun x v h => ih h) h
    intro x v h
    cases x <;> simp only [mapA] <;> try exact hf _ _ rfl h
    · simp only [RelA] at h ⊢
      obtain ⟨vs, h1, h2, h3⟩ := h
      exact ⟨vs, h1, h2, sub h3⟩
    · simp only [RelA] at h ⊢
      obtain ⟨vs, h1, h3⟩ := h
      exact ⟨vs, h1, sub h3⟩
    · simp only [RelA] at h ⊢
      obtain ⟨vs, h1, h3⟩ := h
      exact ⟨vs, h1, sub h3⟩
theorem trimO_get (r0 : Nat) (f : AV → AV) : ∀ (i n : Nat) (l : List AO) (k : Nat), (trimO r0 f i n l)[k]? = if k < n then (l[k]?).map fun x => match x with
    | .arr t l ver dp => .arr t l (verOf r0 (i + k) ver) dp
    | .box cells => .box (cells.map f)
    | x => x else none
  | i, 0, l, k => by simp [trimO]
  | i, n + 1, [], k => by simp [trimO]
  | i, n + 1, x :: r, 0 => by simp only [trimO, List.getElem?_cons_zero, Nat.zero_lt_succ, if_true, Option.map_some, Nat.add_zero]; cases x <;> rfl
  | i, n + 1, x :: r, k + 1 => by
    simp only [trimO, List.getElem?_cons_succ]
    rw [trimO_get r0 f (i + 1) n r k, show i + 1 + k = i + (k + 1) by omega]
    by_cases h : k < n
    · rw [if_pos h, if_pos (by omega)]
    · rw [if_neg h, if_neg (by omega)]
theorem trimT_get (f : AV → AV) (keep : List Tmp) : ∀ (l : List AV) (i k : Nat), (trimT f keep i l)[k]? = (l[k]?).map fun x => if keep.contains (i + k) = true then f x else .top
  | [], i, k => by simp [trimT]
  | x :: r, i, 0 => by simp [trimT]
  | x :: r, i, k + 1 => by
    simp only [trimT, List.getElem?_cons_succ]
    rw [trimT_get f keep r (i + 1) k, show i + 1 + k = i + (k + 1) by omega]
theorem trimT_len (f : AV → AV) (keep : List Tmp) : ∀ (l : List AV) (i : Nat), (trimT f keep i l).length = l.length
  | [], i => rfl
  | x :: r, i => by simp [trimT, trimT_len f keep r]

theorem Sim.trim {base : Nat} {C0 C : Cx} {σ : St} {a : Act} (h : Sim base C σ a) (ht : To base C0 C) {h0 : Nat} (hh : ∀ o, h0 ≤ o → C0.H o = .hole) {r0 : Nat} (hr : ∀ o, r0 ≤ o → C0.H o = .hole) (keep : List Tmp) :
    ∃ C', C'.w = C.w ∧ To base C0 C' ∧ Sim base C' (Fw.trim r0 keep h0 σ) a := by
  have hg := h.good
  let f := mapA (trimA r0 (look σ.H) h0) depth
  let H2 : Nat → AO := look (trimO r0 f 0 h0 σ.H)
  let C' : Cx := { C with H := H2 }
  have hH2 : ∀ o, H2 o = if o < h0 then (match C.H o with
      | .arr t l ver dp => .arr t l (verOf r0 o ver) dp
      | .box cells => .box (cells.map f)
      | x => x) else .hole := by
    intro o
    show look (trimO r0 f 0 h0 σ.H) o = _
    rw [h.H]
    simp only [look, List.getD_eq_getElem?_getD, trimO_get, Nat.zero_add]
    by_cases ho : o < h0
    · rw [if_pos ho, if_pos ho]
      cases σ.H[o]? <;> rfl
    · rw [if_neg ho, if_neg ho]; rfl
  have hf0 : ∀ x v, leafA x = true → RelA C x v → RelA C' (trimA r0 C.H h0 x) v := by
    intro x v hlf hx
    cases x <;> try (cases hlf; done)
    case top => simp only [trimA, RelA]
    case osl o ver =>
      simp only [trimA]
      split
      · rename_i ho
        split <;> try (simp only [RelA]; done)
        rename_i t l cur dp hH
        split <;> try (simp only [RelA]; done)
        rename_i hv
        subst hv
        simp only [RelA, OslOk, hH] at hx ⊢
        have : C'.H o = .arr t l (verOf r0 o cur) dp := by show H2 o = _; rw [hH2, if_pos ho, hH]
        rw [this]
        refine ⟨hx.1, .inr ⟨rfl, ?_⟩⟩
        rcases hx.2 with h | ⟨_, h⟩
        · omega
        · exact h
      · simp only [RelA]
    case bptr o off =>
      simp only [trimA]
      split
      · rename_i ho
        simp only [RelA, BptrOk] at hx ⊢
        refine ⟨hx.1, ?_⟩
        have : C'.H o = _ := hH2 o
        rw [this, if_pos ho]
        have hx2 := hx.2
        cases hH : C.H o <;> rw [hH] at hx2 <;> first | exact hx2.elim | exact hx2
      · simp only [RelA]
    case mth f o off =>
      simp only [trimA]
      split
      · rename_i ho
        simp only [RelA, BptrOk] at hx ⊢
        obtain ⟨p, hp, hx⟩ := hx
        refine ⟨p, hp, hx.1, ?_⟩
        have : C'.H o = _ := hH2 o
        rw [this, if_pos ho]
        have hx2 := hx.2
        cases hH : C.H o <;> rw [hH] at hx2 <;> first | exact hx2.elim | exact hx2
      · simp only [RelA]
    case eptr => simp only [trimA, RelA]
    case ref cells =>
      simp only [trimA]
      split
      · rename_i hp
        exact plain_rel (C := C) (C' := C') (fun _ h => h) (fun _ h => h) rfl (depth + 1) (x := .ref cells) (by simpa only [plainA] using hp) hx
      · simp only [RelA]
    all_goals
      simp only [trimA]
      simp only [RelA] at hx ⊢
      exact hx
  have hf : ∀ x v, RelA C x v → RelA C' (f x) v := by
    intro x v hx
    have : f = mapA (trimA r0 C.H h0) depth := by show mapA (trimA r0 (look σ.H) h0) depth = _; rw [h.H]
    rw [this]
    exact mapA_rel' hf0 depth hx
  have hext : Ext C0 C' := by
    refine ⟨ht.ext.F, ht.ext.G, ht.ext.heap, fun o => ?_⟩
    have hob := ht.ext.obj o
    simp only [ObjExt] at hob ⊢
    have : C'.H o = _ := hH2 o
    rw [this]
    by_cases ho : o < h0
    · rw [if_pos ho]
      by_cases hro : r0 ≤ o
      · rw [hr o hro]; trivial
      · simp only [verOf, if_neg hro]
        cases h1 : C0.H o <;> cases h2 : C.H o <;> rw [h1, h2] at hob <;> first | exact hob | trivial
    · rw [if_neg ho, hh o (by omega)]; trivial
  have hbl : ∀ o, blks C' o = if o < h0 then blks C o else [] := by
    intro o
    have : C'.H o = _ := hH2 o
    simp only [blks, this]
    by_cases ho : o < h0
    · rw [if_pos ho, if_pos ho]
      cases hH : C.H o <;> rfl
    · rw [if_neg ho, if_neg ho]
  have hmem : ∀ {o b}, b ∈ blks C' o → b ∈ blks C o := by
    intro o b hb
    rw [hbl] at hb
    split at hb
    · exact hb
    · cases hb
  have hgood : Good base C' := by
    refine ⟨fun o => ?_, fun o b hb => hg.low o b (hmem hb), fun o => ?_, fun o p b hop h1 h2 => hg.dj o p b hop (hmem h1) (hmem h2), hg.fz, hg.gz⟩
    · have : C'.H o = _ := hH2 o
      rw [this]
      by_cases ho : o < h0
      · rw [if_pos ho]
        have hob := hg.ob o
        cases hH : C.H o <;> rw [hH] at hob
        · trivial
        · trivial
        · simp only [ObjOk] at hob ⊢
          obtain ⟨cs, tid, a1, a2, a3⟩ := hob
          exact ⟨cs, tid, a1, a2, mapL_rel hf a3⟩
        · exact hob
      · rw [if_neg ho]; trivial
    · rw [hbl]; split
      · exact hg.nd o
      · exact List.nodup_nil
  refine ⟨C', rfl, ⟨hext, ht.size, ht.bel, ht.fnew, ht.gsame⟩, ⟨hgood, h.low, rfl, ?_, fun i => ?_, h.df⟩⟩
  · simp only [Fw.trim, trimT_len]; exact h.len
  · have := h.tm i
    simp only [tvOf, Fw.trim, List.getD_eq_getElem?_getD, trimT_get, Nat.zero_add] at this ⊢
    cases hσ : σ.t[i]? with
    | none => simp only [Option.map_none, Option.getD_none, RelA]
    | some x =>
      rw [hσ] at this
      simp only [Option.map_some, Option.getD_some] at this ⊢
      split
      · exact hf x _ this
      · simp only [RelA]
theorem Sim.promote {base : Nat} : ∀ (l : List (Tmp × Ty)) {C : Cx} {σ : St} {a : Act}, Sim base C σ a → ∃ C', C'.w = C.w ∧ To base C C' ∧ Sim base C' (Fw.promote l σ) a
  | [], C, σ, a, h => ⟨C, rfl, To.refl base C, h⟩
  | (i, t) :: r, C, σ, a, h => by
    simp only [Fw.promote]
    split
    · rename_i hz
      have hv := h.tm i
      rw [hz] at hv
      simp only [RelA] at hv
      obtain ⟨A, hv⟩ := hv
      have hn : C.H σ.H.length = .hole := by rw [h.H]; exact look_hole (Nat.le_refl _)
      let C1 := C.new σ.H.length 0 [] (.arr t [] 0 true) C.w
      have g1 : Good base C1 := Good.arr_nil h.good hn (fun _ _ => rfl) (Nat.le_refl _)
      have t1 : To base C C1 := ⟨Ext.new h.good hn (fun _ _ => rfl), Nat.le_refl _, Below.refl _ _, fun _ h => .inl h, fun _ h => h⟩
      have hH1 : C1.H = look (σ.H ++ [.arr t [] 0 true]) := by
        show upd C.H σ.H.length _ = _
        rw [h.H]
        funext p
        simp only [upd, look, List.getD_eq_getElem?_getD]
        by_cases hp : p = σ.H.length
        · subst hp; simp
        · rw [if_neg hp]
          rcases Nat.lt_or_ge p σ.H.length with h' | h'
          · rw [List.getElem?_append_left h']
          · rw [List.getElem?_eq_none h', List.getElem?_eq_none (by simp; omega)]
      have s1 : Sim base C1 ⟨σ.t, σ.H ++ [.arr t [] 0 true]⟩ a := { good := g1, low := h.low, H := hH1, len := h.len, tm := fun j => (h.tm j).mono t1.ext, df := h.df }
      have s2 := s1.tell (i := i) (v := .osl σ.H.length 0) (by rw [hv]; exact osl_nil rfl A)
      obtain ⟨C2, a1, a2, a3⟩ := Sim.promote r s2
      exact ⟨C2, a1, t1.trans a2, a3⟩
    · exact Sim.promote r h
end Go.Proofs.Ytnlgciomdghfiaa.Fw

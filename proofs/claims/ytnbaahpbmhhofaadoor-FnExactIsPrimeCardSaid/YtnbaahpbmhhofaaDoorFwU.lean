/- Regions in the order of their text: the interpreter's state and the machine's. -/
import Derived.Test.YtnbaahpbmhhofaaDoorFwT
namespace Go.Proofs.YtnbaahpbmhhofaaDoor.Fw
open Go Go.RowKit
set_option linter.unusedVariables false
set_option linter.unusedSimpArgs false

/-! ### states -/
structure Sim (base : Nat) (C : Cx) (σ : St) (a : Act) : Prop where
  good : Good base C
  low : base ≤ C.w.heap.size
  H : C.H = look σ.H
  len : σ.t.length = a.tmps.size
  tm : Tmps C (tvOf σ) a
  df : a.defers = []
theorem look_setAt : ∀ (H : List AO) (o : Nat) (x : AO), look (setAt H o x) = upd (look H) o x := by
  intro H
  induction H with
  | nil =>
    intro o
    induction o with
    | zero => intro x; funext p; cases p <;> simp [setAt, look, upd]
    | succ o ih =>
      intro x; funext p
      have := congrFun (ih x)
      cases p with
      | zero => simp [setAt, look, upd]
      | succ p => have h := this p; simp [setAt, look, upd] at h ⊢; exact h
  | cons y r ih =>
    intro o x
    cases o with
    | zero => funext p; cases p <;> simp [setAt, look, upd]
    | succ o =>
      funext p
      have := congrFun (ih o x)
      cases p with
      | zero => simp [setAt, look, upd]
      | succ p => have h := this p; simp [setAt, look, upd] at h ⊢; exact h
theorem look_applyU : ∀ (u : List (Nat × AO)) (H : List AO), look (applyU u H) = updU u (look H)
  | [], H => rfl
  | (o, x) :: u, H => by simp only [applyU, updU]; rw [look_applyU u, look_setAt]
theorem look_hole {H : List AO} {o : Nat} (h : H.length ≤ o) : look H o = .hole := by
  simp only [look, List.getD_eq_getElem?_getD, List.getElem?_eq_none h, Option.getD_none]
theorem tvOf_put {t : List AV} {dst : Option Tmp} {v : AV} {H H' : List AO} {a : Act} {val : Value} {C' : Cx} (hl : t.length = a.tmps.size) (hm : ∀ i, RelA C' (tvOf ⟨t, H⟩ i) (a.tmps.getD i undef)) (hv : RelA C' v val) : Tmps C' (tvOf ⟨putT t dst v, H'⟩) (a.put dst val) := by
  intro i
  cases dst with
  | none => exact hm i
  | some d =>
    simp only [tvOf, putT, Act.put]
    have h1 := setT_get t d v i
    by_cases hi : i = d ∧ d < t.length
    · rw [if_pos hi] at h1
      simp only [List.getD_eq_getElem?_getD, h1, Option.getD_some]
      obtain ⟨rfl, hi⟩ := hi
      have hlt : i < a.tmps.size := by rw [← hl]; exact hi
      simp only [Array.getD_eq_getD_getElem?, Array.getElem?_setIfInBounds, if_pos]
      rw [if_pos hlt]
      simpa using hv
    · rw [if_neg hi] at h1
      have := hm i
      simp only [tvOf, List.getD_eq_getElem?_getD] at this
      simp only [List.getD_eq_getElem?_getD, h1]
      simp only [Array.getD_eq_getD_getElem?, Array.getElem?_setIfInBounds] at this ⊢
      by_cases hd : d = i
      · rw [if_pos hd]
        subst hd
        have hn : ¬ d < a.tmps.size := by intro h; exact hi ⟨rfl, by rw [hl]; exact h⟩
        rw [if_neg hn]
        rw [Array.getElem?_eq_none (Nat.le_of_not_lt hn)] at this
        exact this
      · rw [if_neg hd]; exact this
theorem putT_len (t : List AV) (dst : Option Tmp) (v : AV) : (putT t dst v).length = t.length := by
  cases dst with
  | none => rfl
  | some d => exact setT_len t d v
theorem put_size (a : Act) (dst : Option Tmp) (v : Value) : (a.put dst v).tmps.size = a.tmps.size := by
  cases dst <;> simp [Act.put]
theorem put_defers (a : Act) (dst : Option Tmp) (v : Value) : (a.put dst v).defers = a.defers := by
  cases dst <;> rfl
/-- Behind an operation. -/
theorem Sim.step {base : Nat} {C C' : Cx} {σ : St} {a : Act} (h : Sim base C σ a) {u : List (Nat × AO)} {v : AV} {val : Value} {dst : Option Tmp} (hg : Good base C') (hto : To base C C') (hH : C'.H = updU u C.H) (hv : RelA C' v val) :
    Sim base C' ⟨putT σ.t dst v, applyU u σ.H⟩ (a.put dst val) where
  good := hg
  low := Nat.le_trans h.low hto.size
  H := by rw [look_applyU, hH, h.H]
  len := by rw [put_size, putT_len, h.len]
  tm := tvOf_put (H := σ.H) h.len (fun i => (h.tm i).mono hto.ext) hv
  df := by rw [put_defers]; exact h.df
/-- A temporary is told better. -/
theorem Sim.tell {base : Nat} {C : Cx} {σ : St} {a : Act} (h : Sim base C σ a) {i : Tmp} {v : AV} (hv : RelA C v (a.tmps.getD i undef)) : Sim base C ⟨setT σ.t i v, σ.H⟩ a where
  good := h.good
  low := h.low
  H := h.H
  len := by rw [setT_len]; exact h.len
  tm := by
    intro j
    have h1 := setT_get σ.t i v j
    by_cases hj : j = i ∧ i < σ.t.length
    · rw [if_pos hj] at h1
      simp only [tvOf, List.getD_eq_getElem?_getD, h1, Option.getD_some]
      obtain ⟨rfl, _⟩ := hj
      simpa [List.getD_eq_getElem?_getD] using hv
    · rw [if_neg hj] at h1
      have := h.tm j
      simp only [tvOf, List.getD_eq_getElem?_getD] at this ⊢
      rw [h1]; exact this
  df := h.df

/-! ### other words for what boxes hold -/
theorem redo_ext {C : Cx} {H2 : Nat → AO} (h : ∀ o, (∃ l l', C.H o = .box l ∧ H2 o = .box l') ∨ H2 o = C.H o) : Ext C { C with H := H2 } where
  F _ h := h
  G _ h := h
  heap _ _ := rfl
  obj o := by
    rcases h o with ⟨l, l', h1, h2⟩ | h1
    · simp only [ObjExt, h1, h2]
    · exact ObjExt.same h1 rfl fun _ _ => rfl
theorem redo_good {base : Nat} {C : Cx} (hg : Good base C) {H2 : Nat → AO} (h : ∀ o, (∃ l l', C.H o = .box l ∧ H2 o = .box l' ∧ ∀ (cs : Array Value) (tid : TypeId), C.w.heap[C.blk o]? = some (.cells cs tid (0, 0)) → RelL C l' cs.toList) ∨ H2 o = C.H o) : Good base { C with H := H2 } := by
  have hx : Ext C { C with H := H2 } := redo_ext fun o => (h o).imp (fun ⟨l, l', h1, h2, _⟩ => ⟨l, l', h1, h2⟩) id
  have hb : ∀ o, blks { C with H := H2 } o = blks C o := by
    intro o
    rcases h o with ⟨l, l', h1, h2, _⟩ | h1
    · simp only [blks, h1, h2]
    · simp only [blks, h1]
  refine ⟨fun o => ?_, fun o b hb' => ?_, fun o => ?_, fun o p b hop h1 h2 => ?_, hg.fz, hg.gz, hg.gl⟩
  · rcases h o with ⟨l, l', h1, h2, h3⟩ | h1
    · show ObjOk _ o (H2 o)
      rw [h2]
      have := hg.ob o
      rw [h1] at this
      simp only [ObjOk] at this ⊢
      obtain ⟨cs, tid, a1, a2, a3⟩ := this
      exact ⟨cs, tid, a1, a2, (h3 cs tid a1).mono hx⟩
    · show ObjOk _ o (H2 o)
      rw [h1]
      exact (hg.ob o).same hx rfl rfl rfl fun _ _ => rfl
  · rw [hb] at hb'; exact hg.low o b hb'
  · rw [hb]; exact hg.nd o
  · rw [hb] at h1 h2; exact hg.dj o p b hop h1 h2

/-! ### letting go ahead of a call -/
theorem mapA_rel {C C' : Cx} (hx : Ext C C') {f : AV → AV} (hf : ∀ x v, RelA C x v → RelA C' (f x) v) : ∀ (d : Nat) {x : AV} {v : Value}, RelA C x v → RelA C' (mapA f d x) v := by
  intro d
  induction d with
  | zero =>
    intro x v h
    cases x <;> simp only [mapA] <;> first | exact hf _ _ h | simp only [RelA]
  | succ d ih =>
    have sub : ∀ {l : List AV} {vs : List Value}, RelL C l vs → RelL C' (l.map (mapA f d)) vs := by
      intro l
      induction l with
      | nil => intro vs h; simpa [RelL] using h
      | cons x r ihr =>
        intro vs h
        simp only [RelL, List.map_cons] at h ⊢
        obtain ⟨v, vr, rfl, h1, h2⟩ := h
        exact ⟨v, vr, rfl, ih h1, ihr h2⟩
    intro x v h
    cases x <;> simp only [mapA] <;> try exact hf _ _ h
    · simp only [RelA] at h ⊢
      obtain ⟨vs, h1, h2, h3⟩ := h
      exact ⟨vs, h1, h2, sub h3⟩
    · simp only [RelA] at h ⊢
      obtain ⟨vs, h1, h3⟩ := h
      exact ⟨vs, h1, sub h3⟩
    · simp only [RelA] at h ⊢
      obtain ⟨vs, h1, h3⟩ := h
      exact ⟨vs, h1, sub h3⟩
theorem mapL_rel {C C' : Cx} {g : AV → AV} (hg : ∀ x v, RelA C x v → RelA C' (g x) v) : ∀ {l : List AV} {vs : List Value}, RelL C l vs → RelL C' (l.map g) vs
  | [], vs, h => by simpa [RelL] using h
  | x :: r, vs, h => by
    simp only [RelL, List.map_cons] at h ⊢
    obtain ⟨v, vr, rfl, h1, h2⟩ := h
    exact ⟨v, vr, rfl, hg _ _ h1, mapL_rel hg h2⟩
theorem frzO_get (H : Nat → AO) (ids : List Nat) : ∀ (l : List AO) (i k : Nat), (frzO H ids i l)[k]? = (l[k]?).map fun x => match x with
    | .arr t l ver dp => if ids.contains (i + k) = true then .dead else .arr t l ver dp
    | .box cells => .box (cells.map (mapA (frzA H ids) depth))
    | x => x
  | [], i, k => by simp [frzO]
  | x :: r, i, 0 => by simp only [frzO, List.getElem?_cons_zero, Option.map_some, Nat.add_zero]; cases x <;> rfl
  | x :: r, i, k + 1 => by
    simp only [frzO, List.getElem?_cons_succ]
    rw [frzO_get H ids r (i + 1) k, show i + 1 + k = i + (k + 1) by omega]
theorem Sim.freeze {base : Nat} {C : Cx} {σ : St} {a : Act} (h : Sim base C σ a) (ids : List Nat) : ∃ C', C'.w = C.w ∧ To base C C' ∧ Sim base C' (Fw.freeze ids σ) a ∧ C'.w.heap = C.w.heap := by
  have hg := h.good
  -- the arrays alone are let go
  let ids' := ids.filter fun o => match C.H o with | .arr _ _ _ _ => true | _ => false
  let C1 := C.give ids'
  have g1 : Good base C1 := Good.give hg ids'
  have e1 : Ext C C1 := Ext.give hg ids'
  have hin : ∀ o, ids'.contains o = true ↔ ids.contains o = true ∧ ∃ t l ver dp, C.H o = .arr t l ver dp := by
    intro o
    simp only [ids', List.contains_iff_mem, List.mem_filter]
    constructor
    · rintro ⟨h1, h2⟩
      refine ⟨h1, ?_⟩
      split at h2
      · rename_i t l ver dp hH; exact ⟨t, l, ver, dp, hH⟩
      · cases h2
    · rintro ⟨h1, t, l, ver, dp, h2⟩
      exact ⟨h1, by rw [h2]⟩
  have hf : ∀ x v, RelA C x v → RelA C1 (frzA C.H ids x) v := by
    intro x v hr
    cases x <;> simp only [frzA] <;> try exact hr.mono e1
    · rename_i o ver
      split
      · rename_i hc
        split <;> try (simp only [RelA]; done)
        rename_i t l cur dp hH
        split <;> try (simp only [RelA]; done)
        rename_i hv
        subst hv
        simp only [RelA] at hr ⊢
        refine arr_D hg hH hr (fun b hb => .inl hb) fun b hb => .inr ⟨o, ?_, hb⟩
        simpa using (hin o).2 ⟨hc, _, _, _, _, hH⟩
      · exact hr.mono e1
    all_goals
      split
      · simp only [RelA]
      · exact hr.mono e1
  have hm : ∀ x v, RelA C x v → RelA C1 (mapA (frzA C.H ids) depth x) v := fun x v => mapA_rel e1 hf depth
  have hH2 : ∀ o, look (frzO (look σ.H) ids 0 σ.H) o = match C.H o with
      | .arr t l ver dp => if ids.contains o = true then .dead else .arr t l ver dp
      | .box cells => .box (cells.map (mapA (frzA C.H ids) depth))
      | x => x := by
    intro o
    rw [h.H]
    simp only [look, List.getD_eq_getElem?_getD, frzO_get, Nat.zero_add]
    cases σ.H[o]? <;> rfl
  have hc1 : ∀ o, C1.H o = match C.H o with
      | .arr t l ver dp => if ids.contains o = true then .dead else .arr t l ver dp
      | x => x := by
    intro o
    show (C.drop ids').H o = _
    simp only [Cx.drop]
    by_cases hc : ids'.contains o = true
    · rw [if_pos hc]
      obtain ⟨h1, t, l, ver, dp, h2⟩ := (hin o).1 hc
      simp only [h2, if_pos h1]
    · rw [if_neg hc]
      cases h2 : C.H o <;> try rfl
      have : ¬ ids.contains o = true := fun h1 => hc ((hin o).2 ⟨h1, _, _, _, _, h2⟩)
      simp only [if_neg this]
  have hred : ∀ o, (∃ l l', C1.H o = .box l ∧ look (frzO (look σ.H) ids 0 σ.H) o = .box l' ∧ ∀ (cs : Array Value) (tid : TypeId), C1.w.heap[C1.blk o]? = some (.cells cs tid (0, 0)) → RelL C1 l' cs.toList) ∨ look (frzO (look σ.H) ids 0 σ.H) o = C1.H o := by
    intro o
    rw [hH2, hc1]
    cases hH : C.H o <;> try (exact .inr rfl)
    rename_i cells
    refine .inl ⟨_, _, rfl, rfl, fun cs tid hcs => ?_⟩
    have := hg.ob o
    rw [hH] at this
    simp only [ObjOk] at this
    obtain ⟨cs', tid', a1, a2, a3⟩ := this
    have hcs' : C.w.heap[C.blk o]? = some (.cells cs tid (0, 0)) := hcs
    rw [a1] at hcs'
    cases hcs'
    exact mapL_rel hm a3
  have e2 : Ext C1 { C1 with H := look (frzO (look σ.H) ids 0 σ.H) } := redo_ext fun o => (hred o).imp (fun ⟨l, l', h1, h2, _⟩ => ⟨l, l', h1, h2⟩) id
  refine ⟨{ C1 with H := look (frzO (look σ.H) ids 0 σ.H) }, rfl, ⟨Ext.trans (base := base) e1 e2, Nat.le_refl _, Below.refl _ _, fun b hb => ?_, fun _ h => h⟩, ⟨redo_good g1 hred, h.low, rfl, ?_, ?_, h.df⟩, rfl⟩
  · rcases hb with hb | ⟨o, _, hb⟩
    · exact .inl hb
    · exact .inr (hg.low o b hb).1
  · simp only [Fw.freeze, List.length_map]; exact h.len
  · intro i
    have := (hm _ _ (h.tm i)).mono e2
    have hti : tvOf (Fw.freeze ids σ) i = mapA (frzA C.H ids) depth (tvOf σ i) := by
      rw [h.H]
      simp only [Fw.freeze, tvOf, List.getD_eq_getElem?_getD, List.getElem?_map]
      cases σ.t[i]? <;> rfl
    rw [hti]; exact this
end Go.Proofs.YtnbaahpbmhhofaaDoor.Fw

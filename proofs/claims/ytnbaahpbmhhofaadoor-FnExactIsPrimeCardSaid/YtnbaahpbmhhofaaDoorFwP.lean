/- One operation of the interpreter is what the machine does: calls. -/
import Derived.Test.YtnbaahpbmhhofaaDoorFwO
namespace Go.Proofs.YtnbaahpbmhhofaaDoor.Fw
open Go Go.RowKit
set_option linter.unusedVariables false
set_option linter.unusedSimpArgs false

/-! ### what a function answers -/
/-- One value of a kind. -/
def VOk (t : Ty) (v : Value) : Prop := if t.isPr = true then ∃ cs, v = .agg cs else v.oneCell' = true
def RelRs (R : (t : Ty) → t.D → List Value → List Nat → Prop) : (rs : List Ty) → DL rs → List Value → List Nat → Prop
  | [], _, vs, S => vs = [] ∧ S = []
  | [a], d, vs, S => ∃ v, vs = [v] ∧ VOk a v ∧ R a d v.cells.toList S
  | a :: b :: r, d, vs, S => ∃ v vr Sa Sb, vs = v :: vr ∧ S = Sa ++ Sb ∧ VOk a v ∧ R a d.1 v.cells.toList Sa ∧ RelRs R (b :: r) d.2 vr Sb
def resV : List Value → Value
  | [v] => v
  | l => .tuple l.toArray
def ResOk (fresh : Bool) (F : Nat → Prop) (w : World) (rs : List Ty) (d : DL rs) (v : Value) (S : List Nat) : Prop :=
  ∃ vs, v = resV vs ∧ RelRs (if fresh = true then RelX w else fun t d vs S => RelD F w t d vs ∧ S = []) rs d vs S
def cx0 (F G : Nat → Prop) (w : World) : Cx := ⟨fun _ => .hole, fun _ => 0, fun _ => [], F, G, w⟩
/-- A call: the function is entered, and comes back. -/
def Entered (P : Program) (f : FuncId) (vals : Array Value) (w : World) (R : Value → World → Prop) : Prop :=
  (callFunc f vals).run P w = .ok (.enter f vals) w ∧ Calls P f vals w fun e w' => ∃ v, e = .returned v ∧ R v w'
/-- What is asked of a function that is called by value. -/
def PureOk (P : Program) (T : Tb) (f : FuncId) (args : List AV) (d : DL (T.rs f)) : Prop :=
  ∀ (w : World) (F G : Nat → Prop) (vals : List Value), (∀ b, F b → b < w.heap.size) → (∀ b, G b → b < w.heap.size) → GlOk F w → RelL (cx0 F G w) args vals →
    Entered P f vals.toArray w fun v w' => Below w.heap.size w w' ∧ ∃ F' S, (∀ b, F b → F' b) ∧ (∀ b, F' b → b < w'.heap.size ∧ (F b ∨ w.heap.size ≤ b)) ∧ ResOk (T.fresh f) F' w' (T.rs f) d v S ∧ S.Nodup ∧ ∀ b ∈ S, w.heap.size ≤ b ∧ b < w'.heap.size ∧ ¬ F' b

theorem VOk.ofCells {t : Ty} {v : Value} {C : Cx} {l : List AV} (h : VOk t v) (hr : RelL C l v.cells.toList) (hl : v.cells.size = t.size) (h1 : ∀ u ∈ v.cells.toList, u.oneCell' = true) : RelA C (Fw.ofCells t.isPr l) v := by
  unfold VOk at h
  unfold Fw.ofCells
  split at h
  · rename_i hp
    rw [if_pos hp]
    obtain ⟨cs, rfl⟩ := h
    simp only [RelA]
    exact ⟨cs.toList, by simp, by simpa [Value.cells] using h1, by simpa [Value.cells] using hr⟩
  · rename_i hp
    rw [if_neg hp]
    have hc : v.cells = #[v] := by cases v <;> first | rfl | simp [Value.oneCell'] at h
    rw [hc] at hr
    match l, hr with
    | [x], hr =>
      obtain ⟨u, hu, hx⟩ := hr.one
      simp at hu
      subst hu
      exact hx
    | [], hr => simp [RelL] at hr
    | x :: y :: r, hr => have := hr.len; simp at this

theorem RelD.noSl {F F' : Nat → Prop} {w w' : World} : ∀ {t : Ty} {d : t.D} {vs : List Value}, t.hasSl = false → RelD F w t d vs → RelD F' w' t d vs
  | .int _, _, _, _, h => by simpa only [RelD] using h
  | .bool, _, _, _, h => by simpa only [RelD] using h
  | .str, _, _, _, h => by simpa only [RelD] using h
  | .sl _, _, _, hs, _ => by simp [Ty.hasSl] at hs
  | .pr _ _, _, _, hs, h => by
    simp only [Ty.hasSl, Bool.or_eq_false_iff] at hs
    simp only [RelD] at h ⊢
    obtain ⟨va, vb, rfl, h1, h2⟩ := h
    exact ⟨va, vb, rfl, RelD.noSl hs.1 h1, RelD.noSl hs.2 h2⟩

/-! ### what a callee is shown -/
theorem allM_rel {C C' : Cx} {f : AV → Option AV} : ∀ {xs ys : List AV} {vs : List Value}, (∀ x y v, x ∈ xs → f x = some y → RelA C x v → RelA C' y v) → allM f xs = some ys → RelL C xs vs → RelL C' ys vs
  | [], ys, vs, _, h, hr => by simp [allM] at h; subst h; simp only [RelL] at hr; subst hr; simp [RelL]
  | x :: r, ys, vs, hf, h, hr => by
    simp only [allM] at h
    split at h <;> try (cases h; done)
    rename_i y s h1 h2
    cases h
    simp only [RelL] at hr ⊢
    obtain ⟨v, vr, rfl, hv, hr⟩ := hr
    exact ⟨v, vr, rfl, hf x y v (by simp) h1 hv, allM_rel (fun a b c ha => hf a b c (List.mem_cons_of_mem _ ha)) h2 hr⟩
theorem allM_len {f : AV → Option AV} : ∀ {xs ys : List AV}, allM f xs = some ys → ys.length = xs.length
  | [], ys, h => by simp [allM] at h; subst h; rfl
  | x :: r, ys, h => by
    simp only [allM] at h
    split at h <;> try (cases h; done)
    cases h
    simp [allM_len (by assumption)]
theorem allM_relR {C C' : Cx} {b : Nat} (hw : C'.w = C.w) {f : AV → Option AV} : ∀ {xs ys : List AV} {off : Nat}, (∀ x y v, x ∈ xs → f x = some y → RelA C x v → RelA C' y v) → allM f xs = some ys → RelR C b xs off → RelR C' b ys off
  | [], ys, off, _, h, hr => by simp [allM] at h; subst h; simp [RelR]
  | x :: r, ys, off, hf, h, hr => by
    simp only [allM] at h
    split at h <;> try (cases h; done)
    rename_i y s h1 h2
    cases h
    simp only [RelR] at hr ⊢
    obtain ⟨⟨u, u1, u2, u3⟩, hr⟩ := hr
    exact ⟨⟨u, by rw [hw]; exact u1, u2, hf x y u (by simp) h1 u3⟩, allM_relR hw (fun a b c ha => hf a b c (List.mem_cons_of_mem _ ha)) h2 hr⟩
theorem snap_rel {base : Nat} {C : Cx} (hg : Good base C) {F : Nat → Prop} (hF : ∀ b, C.F b → F b) : ∀ (d : Nat) {x y : AV} {v : Value}, snap C.H d x = some y → (∀ o ∈ idsA C.H d x, ∀ b ∈ blks C o, F b) → RelA C x v → RelA (cx0 F (fun b => b < C.w.heap.size) C.w) y v := by
  intro d
  induction d with
  | zero => intro x y v h; cases x <;> simp [snap] at h
  | succ d ih =>
    intro x y v h hids hr
    have sub : ∀ {l : List AV}, (∀ o ∈ l.flatMap (idsA C.H d), ∀ b ∈ blks C o, F b) → ∀ x' y' v', x' ∈ l → snap C.H d x' = some y' → RelA C x' v' → RelA (cx0 F (fun b => b < C.w.heap.size) C.w) y' v' :=
      fun hl x' y' v' hx' h1 h2 => ih h1 (fun o ho => hl o (List.mem_flatMap.2 ⟨x', hx', ho⟩)) h2
    cases x with
    | int k n => simp only [snap, Option.some.injEq] at h; subst h; simpa only [RelA] using hr
    | bool b => simp only [snap, Option.some.injEq] at h; subst h; simpa only [RelA] using hr
    | dec p hp => simp only [snap, Option.some.injEq] at h; subst h; simpa only [RelA] using hr
    | ndec p hp => simp only [snap, Option.some.injEq] at h; subst h; simpa only [RelA] using hr
    | anyb => simp only [snap, Option.some.injEq] at h; subst h; simpa only [RelA] using hr
    | str s => simp only [snap, Option.some.injEq] at h; subst h; simpa only [RelA] using hr
    | sl t l => simp only [snap, Option.some.injEq] at h; subst h; simp only [RelA] at hr ⊢; exact hr.mono hF (fun _ _ => rfl)
    | zsl => simp only [snap, Option.some.injEq] at h; subst h; simpa only [RelA] using hr
    | nilp => simp only [snap, Option.some.injEq] at h; subst h; simpa only [RelA] using hr
    | top => simp only [snap, Option.some.injEq] at h; subst h; simp only [RelA]
    | eptr o ver i off => simp [snap] at h
    | isl o ver i c => simp [snap] at h
    | iptr o ver i c j => simp [snap] at h
    | glb g => simp only [snap, Option.some.injEq] at h; subst h; simpa only [RelA] using hr
    | osl o ver =>
      simp only [snap] at h
      split at h <;> try (cases h; done)
      rename_i t l cur dp hH
      split at h <;> try (cases h; done)
      rename_i hv
      subst hv
      cases h
      simp only [RelA] at hr ⊢
      exact arr_D hg hH hr hF (hids o (by simp [idsA]))
    | bptr o off =>
      simp only [snap] at h
      split at h <;> try (cases h; done)
      rename_i cells hH
      obtain ⟨ys, h1, rfl⟩ := Option.map_eq_some_iff.1 h
      simp only [RelA, BptrOk, hH] at hr
      obtain ⟨_, rfl⟩ := hr
      have hb := hg.ob o
      rw [hH] at hb
      simp only [ObjOk] at hb
      obtain ⟨cs, tid, b1, b2, b3⟩ := hb
      have hlow := hg.low o (C.blk o) (by simp [blks, hH])
      simp only [idsA, hH] at hids
      simp only [RelA]
      refine ⟨C.blk o, off, rfl, .inr hlow.2.1, allM_relR (C := C) (C' := cx0 F (fun b => b < C.w.heap.size) C.w) rfl (sub (l := cells.drop off) hids) h1 (RelR.mk fun j z hz => ?_)⟩
      · rw [List.getElem?_drop] at hz
        obtain ⟨u, u1, u2⟩ := b3.get hz
        exact ⟨u, by rw [cell_of_cells b1]; simpa using u1, b2 u (List.mem_of_getElem? u1), u2⟩
    | ref cells =>
      simp only [snap] at h
      obtain ⟨ys, h1, rfl⟩ := Option.map_eq_some_iff.1 h
      simp only [RelA] at hr ⊢
      obtain ⟨b, off, rfl, hb, hr⟩ := hr
      exact ⟨b, off, rfl, .inr (hb.elim (hg.fz b) (hg.gz b)), allM_relR (C := C) (C' := cx0 F (fun b => b < C.w.heap.size) C.w) rfl (sub hids) h1 hr⟩
    | agg l =>
      simp only [snap] at h
      obtain ⟨ys, h1, rfl⟩ := Option.map_eq_some_iff.1 h
      simp only [RelA] at hr ⊢
      obtain ⟨vs, rfl, h2, hr⟩ := hr
      exact ⟨vs, rfl, h2, allM_rel (C := C) (sub hids) h1 hr⟩
    | tup l =>
      simp only [snap] at h
      obtain ⟨ys, h1, rfl⟩ := Option.map_eq_some_iff.1 h
      simp only [RelA] at hr ⊢
      obtain ⟨vs, rfl, hr⟩ := hr
      exact ⟨vs, rfl, allM_rel (C := C) (sub hids) h1 hr⟩
    | mth f o off => simp [snap] at h
    | fn f l =>
      simp only [snap] at h
      obtain ⟨ys, h1, rfl⟩ := Option.map_eq_some_iff.1 h
      simp only [RelA] at hr ⊢
      obtain ⟨vs, rfl, hr⟩ := hr
      exact ⟨vs, rfl, allM_rel (C := C) (sub hids) h1 hr⟩

/-! ### what comes back -/
/-- Data that are ours from now on. -/
theorem impC_rel {base : Nat} : ∀ {t : Ty} {C : Cx} {n : Nat} {d : t.D} {vs : List Value} {S : List Nat}, Good base C → (∀ j, j < t.sls → C.H (n + j) = .hole) → RelX C.w t d vs S → Free base C S →
    ∃ C', C'.w = C.w ∧ C'.F = C.F ∧ C'.G = C.G ∧ Good base C' ∧ Ext C C' ∧ C'.H = updU (impC n t d).2 C.H ∧ RelL C' (impC n t d).1 vs ∧ (∀ o b, b ∈ blks C' o → b ∈ blks C o ∨ b ∈ S) ∧ ∀ j, n + t.sls ≤ j → C'.H j = C.H j
  | .int k, C, n, d, vs, S, hg, _, hr, _ => by
    simp only [RelX] at hr
    obtain ⟨rfl, _⟩ := hr
    exact ⟨C, rfl, rfl, rfl, hg, Ext.refl C, rfl, by simp [impC, RelL, RelA], fun _ _ h => .inl h, fun _ _ => rfl⟩
  | .bool, C, n, d, vs, S, hg, _, hr, _ => by
    simp only [RelX] at hr
    obtain ⟨rfl, _⟩ := hr
    exact ⟨C, rfl, rfl, rfl, hg, Ext.refl C, rfl, by simp [impC, RelL, RelA], fun _ _ h => .inl h, fun _ _ => rfl⟩
  | .str, C, n, d, vs, S, hg, _, hr, _ => by
    simp only [RelX] at hr
    obtain ⟨rfl, _⟩ := hr
    exact ⟨C, rfl, rfl, rfl, hg, Ext.refl C, rfl, by simp [impC, RelL, RelA], fun _ _ h => .inl h, fun _ _ => rfl⟩
  | .sl e, C, n, l, vs, S, hg, hh, hr, hf => by
    have hn : C.H n = .hole := hh 0 (by simp [Ty.sls])
    simp only [RelX] at hr
    rcases hr with ⟨rfl, rfl, A, rfl⟩ | ⟨hl, b, c, cs, tid, ss, rfl, h1, h2, h3, rfl, h4, h5⟩
    · refine ⟨C.new n 0 [] (.arr e [] (ver0 e) true) C.w, rfl, rfl, rfl, Good.arr_nil hg hn (fun _ _ => rfl) (Nat.le_refl _), Ext.new hg hn (fun _ _ => rfl), rfl, ?_, ?_, ?_⟩
      · simp only [impC, RelL]
        exact ⟨_, [], rfl, osl_nil rfl A, rfl⟩
      · intro o b' hb'
        by_cases ho : o = n
        · subst ho; simp [blks, Cx.new] at hb'
        · rw [blks_same (C := C) (by simp [Cx.new, upd_ne _ _ ho]) (by simp [Cx.new, upd_ne _ _ ho]) (by simp [Cx.new, upd_ne _ _ ho])] at hb'
          exact .inl hb'
      · intro j hj
        simp only [Ty.sls] at hj
        exact upd_ne _ _ (by omega)
    · have hne : ¬ (l.isEmpty = true) := by simpa using hl
      let C' := C.new n b ss.flatten (.arr e l (ver0 e) true) C.w
      have hbl : blks C' n = b :: ss.flatten := by simp only [blks, C', Cx.new, upd_same, if_neg hne]
      have hext : Ext C C' := Ext.new hg hn (fun _ _ => rfl)
      refine ⟨C', rfl, rfl, rfl, ?_, hext, rfl, ?_, ?_, ?_⟩
      · refine hg.one n hext (fun o h => by simp [C', Cx.new, upd_ne _ _ h]) (fun o h => by simp [C', Cx.new, upd_ne _ _ h]) (fun o h => by simp [C', Cx.new, upd_ne _ _ h]) (fun _ _ _ _ => rfl) (fun _ h => h) (fun _ h => h) (Nat.le_refl _) ?_ ?_ ?_ ?_
        · show ObjOk _ n (upd C.H n (.arr e l (ver0 e) true) n)
          rw [upd_same]
          simp only [ObjOk, ArrOk]
          refine .inr ⟨hl, cs, tid, ?_, ?_⟩
          · show C.w.heap[upd C.blk n b n]? = _
            rw [upd_same]; exact h2
          · unfold ElemsOk
            rw [if_pos rfl]
            exact ⟨ss, by simp [C', Cx.new], h4, h5⟩
        · rw [hbl]; intro b' hb'; obtain ⟨a1, a2, a3, a4, _⟩ := hf.2 b' hb'; exact ⟨a1, a2, a3, a4⟩
        · rw [hbl]; exact hf.1
        · rw [hbl]; intro o _ b' hb'; exact (hf.2 b' hb').2.2.2.2 o
      · simp only [impC, RelL]
        exact ⟨_, [], rfl, osl_new rfl hl h1 h2 h3, rfl⟩
      · intro o b' hb'
        by_cases ho : o = n
        · subst ho; rw [hbl] at hb'; exact .inr hb'
        · rw [blks_same (C := C) (by simp [C', Cx.new, upd_ne _ _ ho]) (by simp [C', Cx.new, upd_ne _ _ ho]) (by simp [C', Cx.new, upd_ne _ _ ho])] at hb'
          exact .inl hb'
      · intro j hj
        simp only [Ty.sls] at hj
        exact upd_ne _ _ (by omega)
  | .pr a b, C, n, d, vs, S, hg, hh, hr, hf => by
    simp only [RelX] at hr
    obtain ⟨va, vb, Sa, Sb, rfl, rfl, h1, h2⟩ := hr
    simp only [Ty.sls] at hh
    obtain ⟨C1, a1, a2, a3, a4, a5, a6, a7, a8, a9⟩ := impC_rel (n := n) hg (fun j hj => hh j (by omega)) h1 (hf.sub (List.sublist_append_left _ _))
    have hf2 : Free base C1 Sb := by
      refine ⟨hf.1.sublist (List.sublist_append_right _ _), fun x hx => ?_⟩
      obtain ⟨b1, b2, b3, b4, b5⟩ := hf.2 x (List.mem_append.2 (.inr hx))
      refine ⟨b1, by rw [a1]; exact b2, by rw [a2]; exact b3, by rw [a3]; exact b4, fun o ho => ?_⟩
      rcases a8 o x ho with h | h
      · exact b5 o h
      · exact (List.nodup_append.1 hf.1).2.2 x h x hx rfl
    obtain ⟨C2, c1, c2, c3, c4, c5, c6, c7, c8, c9⟩ := impC_rel (t := b) (n := n + a.sls) a4 (fun j hj => by rw [a9 (n + a.sls + j) (by omega), Nat.add_assoc]; exact hh (a.sls + j) (by omega)) (by rw [a1]; exact h2) hf2
    refine ⟨C2, c1.trans a1, c2.trans a2, c3.trans a3, c4, Ext.trans (base := base) a5 c5, ?_, ?_, ?_, ?_⟩
    · rw [c6, a6]; simp only [impC]; rw [updU_append]
    · simp only [impC]; exact (a7.mono c5).append c7
    · intro o x hx
      rcases c8 o x hx with h | h
      · rcases a8 o x h with h | h
        · exact .inl h
        · exact .inr (List.mem_append.2 (.inl h))
      · exact .inr (List.mem_append.2 (.inr h))
    · intro j hj
      simp only [Ty.sls] at hj
      rw [c9 j (by omega), a9 j (by omega)]
end Go.Proofs.YtnbaahpbmhhofaaDoor.Fw

/- One operation of the interpreter is what the machine does: new variables and arrays. -/
import Derived.Test.YtnbaahpbmhhofaaDoorFwF
namespace Go.Proofs.YtnbaahpbmhhofaaDoor.Fw
open Go Go.RowKit
set_option linter.unusedVariables false

theorem heap_alloc (w : World) (o : Obj) (k : Nat) (h : k < w.heap.size) : (w.alloc o).heap[k]? = w.heap[k]? := Below.heap_alloc w o k h
theorem heap_alloc_new (w : World) (o : Obj) : (w.alloc o).heap[w.heap.size]? = some o := by show (w.heap.push o)[w.heap.size]? = _; simp
theorem heap_alloc_size (w : World) (o : Obj) : (w.alloc o).heap.size = w.heap.size + 1 := by show (w.heap.push o).size = _; simp
theorem To.alloc {base : Nat} {C : Cx} (hg : Good base C) (hb : base ≤ C.w.heap.size) {n b : Nat} {S : List Nat} {x : AO} (hn : C.H n = .hole) (o : Obj) : To base C (C.new n b S x (C.w.alloc o)) where
  ext := Ext.new hg hn fun k hk => heap_alloc _ _ k hk
  size := by show C.w.heap.size ≤ (C.w.alloc o).heap.size; rw [heap_alloc_size]; omega
  bel := (Below.refl base C.w).alloc hb o
  fnew _ h := .inl h
  gsame _ h := h

/-- A new variable. -/
theorem kont_box {base : Nat} {C : Cx} {a : Act} {dst : Option Tmp} {next : Act → World → Prop} (hg : Good base C) (hb : base ≤ C.w.heap.size) {n : Nat} (hn : C.H n = .hole) {cells : List AV} {cs : Array Value} {tid : TypeId}
    (hr : RelL C cells cs.toList) (h1 : ∀ u ∈ cs.toList, u.oneCell' = true) (hk : Kont base C a dst next (.bptr n 0) [(n, .box cells)]) :
    next (a.put dst (.pointer (some ⟨C.w.heap.size, 0, none⟩))) (C.w.alloc (.cells cs tid)) := by
  have hx := To.alloc (b := C.w.heap.size) (S := []) (x := .box cells) hg hb hn (.cells cs tid)
  refine hk (C.new n C.w.heap.size [] (.box cells) (C.w.alloc (.cells cs tid))) _ (Good.new hg hn (fun k hk => heap_alloc _ _ k hk) hx.size hb ?_ ?_ ?_) hx rfl ?_
  · simp only [ObjOk]
    refine ⟨cs, tid, ?_, h1, RelL.mono hx.ext hr⟩
    show (C.w.alloc _).heap[upd C.blk n C.w.heap.size n]? = _
    rw [upd_same, heap_alloc_new]
  · intro k hk
    simp only [blks, Cx.new, upd_same, List.mem_singleton] at hk
    subst hk
    exact ⟨Nat.le_refl _, by rw [heap_alloc_size]; omega⟩
  · simp [blks, Cx.new]
  · simp only [RelA, BptrOk, Cx.new, upd_same]
    exact ⟨⟨_, rfl⟩, trivial⟩
/-- Blocks that are free to be owned. -/
def Free (base : Nat) (C : Cx) (S : List Nat) : Prop := S.Nodup ∧ ∀ b ∈ S, base ≤ b ∧ b < C.w.heap.size ∧ ¬ C.F b ∧ ¬ C.G b ∧ ∀ o, b ∉ blks C o
theorem Free.nil (base : Nat) (C : Cx) : Free base C [] := ⟨List.nodup_nil, fun _ h => by cases h⟩
/-- The elements of a new array: 'own': the blocks that they own. -/
def ElemsIn (C : Cx) (t : Ty) (l : List t.D) (dp : Bool) (S : List Nat) (cs : Array Value) : Prop :=
  if dp = true then ∃ ss : List (List Nat), S = ss.flatten ∧ ss.length = l.length ∧ ∀ i x, l[i]? = some x → ∃ us, RelX C.w t x us (ss.getD i []) ∧ ∀ j u, us[j]? = some u → cs[i * t.size + j]? = some u
  else S = [] ∧ ∀ i x, l[i]? = some x → ∃ us, RelD C.F C.w t x us ∧ ∀ j u, us[j]? = some u → cs[i * t.size + j]? = some u
theorem ElemsIn.new {C C' : Cx} {o : Nat} {t : Ty} {l : List t.D} {dp : Bool} {S : List Nat} {cs : Array Value} (h : ElemsIn C t l dp S cs) (ho : C'.own o = S) (hF : ∀ b, C.F b → C'.F b) (hw : ∀ b, b ∈ S ∨ C.F b → C'.w.heap[b]? = C.w.heap[b]?) : ElemsOk C' o t l dp cs := by
  unfold ElemsIn at h
  unfold ElemsOk
  split at h
  · rename_i hd
    rw [if_pos hd]
    obtain ⟨ss, h1, h2, h3⟩ := h
    refine ⟨ss, by rw [ho, h1], h2, fun i x hi => ?_⟩
    obtain ⟨us, h4, h5⟩ := h3 i x hi
    exact ⟨us, h4.mono fun b hb => hw b (.inl (by rw [h1]; exact getD_mem_flatten hb)), h5⟩
  · rename_i hd
    rw [if_neg hd]
    refine ⟨by rw [ho, h.1], fun i x hi => ?_⟩
    obtain ⟨us, h4, h5⟩ := h.2 i x hi
    exact ⟨us, h4.mono hF fun b hb => hw b (.inr hb), h5⟩
/-- A new array in a new block. -/
theorem Good.arr {base : Nat} {C : Cx} (hg : Good base C) (hb : base ≤ C.w.heap.size) {n : Nat} (hn : C.H n = .hole) {t : Ty} {l : List t.D} {ver : Nat} {dp : Bool} {S : List Nat} {cs : Array Value} {tid : TypeId} {w : World}
    (hl : l ≠ []) (hS : Free base C S) (he : ElemsIn C t l dp S cs) (hw : ∀ k, k < C.w.heap.size → w.heap[k]? = C.w.heap[k]?) (hs : w.heap.size = C.w.heap.size + 1) (hc : w.heap[C.w.heap.size]? = some (.cells cs tid (0, 0))) :
    Good base (C.new n C.w.heap.size S (.arr t l ver dp) w) := by
  have hne : ¬ (l.isEmpty = true) := by simpa using hl
  have hbl : blks (C.new n C.w.heap.size S (.arr t l ver dp) w) n = C.w.heap.size :: S := by simp only [blks, Cx.new, upd_same, if_neg hne]
  refine hg.one n (Ext.new hg hn hw) (fun o h => by simp [Cx.new, upd_ne _ _ h]) (fun o h => by simp [Cx.new, upd_ne _ _ h]) (fun o h => by simp [Cx.new, upd_ne _ _ h]) (fun o h k hk => hw k (hg.low o k hk).2.1) (fun _ h => h) (fun _ h => h) (by show C.w.heap.size ≤ w.heap.size; omega) ?_ ?_ ?_ ?_
  · show ObjOk _ n (upd C.H n (.arr t l ver dp) n)
    rw [upd_same]
    simp only [ObjOk, ArrOk]
    refine .inr ⟨hl, cs, tid, ?_, he.new (by simp [Cx.new]) (fun _ h => h) fun b hb => hw b (hb.elim (fun h => (hS.2 b h).2.1) (hg.fz b))⟩
    show w.heap[upd C.blk n C.w.heap.size n]? = _
    rw [upd_same]; exact hc
  · intro b hb'
    rw [hbl] at hb'
    show base ≤ b ∧ b < w.heap.size ∧ _
    rcases List.mem_cons.1 hb' with rfl | h
    · exact ⟨hb, by omega, fun h => by have := hg.fz _ h; omega, fun h => by have := hg.gz _ h; omega⟩
    · obtain ⟨h1, h2, h3, h4, _⟩ := hS.2 b h
      exact ⟨h1, by omega, h3, h4⟩
  · rw [hbl]
    exact List.nodup_cons.2 ⟨fun h => by have := (hS.2 _ h).2.1; omega, hS.1⟩
  · intro o ho b hb' hb2
    rw [hbl] at hb'
    rcases List.mem_cons.1 hb' with rfl | h
    · have := (hg.low o _ hb2).2.1; omega
    · exact (hS.2 b h).2.2.2.2 o hb2
theorem Good.arr_nil {base : Nat} {C : Cx} (hg : Good base C) {n b : Nat} (hn : C.H n = .hole) {t : Ty} {ver : Nat} {dp : Bool} {w : World} (hw : ∀ k, k < C.w.heap.size → w.heap[k]? = C.w.heap[k]?) (hs : C.w.heap.size ≤ w.heap.size) :
    Good base (C.new n b [] (.arr t [] ver dp) w) := by
  have hbl : blks (C.new n b [] (.arr t [] ver dp) w) n = [] := by simp [blks, Cx.new]
  refine hg.one n (Ext.new hg hn hw) (fun o h => by simp [Cx.new, upd_ne _ _ h]) (fun o h => by simp [Cx.new, upd_ne _ _ h]) (fun o h => by simp [Cx.new, upd_ne _ _ h]) (fun o h k hk => hw k (hg.low o k hk).2.1) (fun _ h => h) (fun _ h => h) hs ?_ ?_ ?_ ?_
  · show ObjOk _ n (upd C.H n (.arr t [] ver dp) n)
    rw [upd_same]
    simp only [ObjOk, ArrOk]
    exact .inl ⟨trivial, by simp [Cx.new]⟩
  · rw [hbl]; intro b h; cases h
  · rw [hbl]; exact List.nodup_nil
  · rw [hbl]; intro o _ b h; cases h
theorem osl_new {C C' : Cx} {n b : Nat} {S : List Nat} {t : Ty} {l : List t.D} {ver : Nat} {dp : Bool} {w : World} (hC : C' = C.new n b S (.arr t l ver dp) w) {c : Nat} {cs : Array Value} {tid : TypeId} (hl : l ≠ []) (h1 : l.length ≤ c) (hc : w.heap[b]? = some (.cells cs tid (0, 0))) (hs : c * t.size ≤ cs.size) :
    RelA C' (.osl n ver) (.slice (some ⟨b, 0, none⟩) l.length c) := by
  subst hC
  simp only [RelA, OslOk, Cx.new, upd_same]
  refine ⟨⟨_, _, _, rfl⟩, .inr ⟨trivial, .inr ⟨fun h => hl (List.eq_nil_of_length_eq_zero h), c, cs, tid, ?_, h1, ?_, hs⟩⟩⟩
  · show _ = Value.slice (some ⟨upd C.blk n b n, 0, none⟩) _ _; rw [upd_same]
  · show w.heap[upd C.blk n b n]? = _; rw [upd_same]; exact hc
theorem osl_nil {C C' : Cx} {n b : Nat} {S : List Nat} {t : Ty} {ver : Nat} {dp : Bool} {w : World} (hC : C' = C.new n b S (.arr t [] ver dp) w) (A : Option Addr) : RelA C' (.osl n ver) (.slice A 0 0) := by
  subst hC
  simp only [RelA, OslOk, Cx.new, upd_same]
  exact ⟨⟨_, _, _, rfl⟩, .inr ⟨trivial, .inl ⟨rfl, A, rfl⟩⟩⟩

/-! ### letting go, told as a list of changes -/
theorem updU_append (u v : List (Nat × AO)) (H : Nat → AO) : updU (u ++ v) H = updU v (updU u H) := by
  induction u generalizing H with
  | nil => rfl
  | cons p r ih => obtain ⟨o, x⟩ := p; simp only [List.cons_append, updU]; exact ih _
theorem updU_kill (H : Nat → AO) : ∀ (ids : List Nat), (∀ o ∈ ids, H o ≠ .hole) → updU (kill ids) H = fun o => if ids.contains o = true then (match H o with | .hole => .hole | _ => .dead) else H o := by
  intro ids
  induction ids generalizing H with
  | nil => intro _; funext o; simp [kill, updU]
  | cons p r ih =>
    intro h
    simp only [kill, updU]
    rw [ih (upd H p .dead)]
    · funext o
      by_cases hop : o = p
      · subst hop
        simp only [upd_same, List.contains_cons, beq_self_eq_true, Bool.true_or, if_true]
        have := h o (by simp)
        cases ho : H o <;> first | exact absurd ho this | (split <;> rfl)
      · simp only [upd_ne _ _ hop, List.contains_cons]
        have : (o == p) = false := by simpa using hop
        simp only [this, Bool.false_or]
    · intro o ho
      by_cases hop : o = p
      · subst hop; rw [upd_same]; simp
      · rw [upd_ne _ _ hop]; exact h o (List.mem_cons_of_mem _ ho)
theorem drop_H {C : Cx} {ids : List Nat} (h : ∀ o ∈ ids, C.H o ≠ .hole) : (C.drop ids).H = updU (kill ids) C.H := by
  rw [updU_kill _ _ h]; rfl
theorem To.drop (base : Nat) (C : Cx) (ids : List Nat) : To base C (C.drop ids) := ⟨Ext.drop C ids, Nat.le_refl _, Below.refl _ _, fun _ h => .inl h, fun _ h => h⟩
theorem nodupB_nodup : ∀ {l : List Nat}, nodupB l = true → l.Nodup
  | [], _ => List.nodup_nil
  | x :: r, h => by
    simp only [nodupB, Bool.and_eq_true] at h
    exact List.nodup_cons.2 ⟨by simpa using h.1, nodupB_nodup h.2⟩
/-- What objects that are let go owned is free. -/
theorem Free.drop {base : Nat} {C : Cx} (hg : Good base C) {ids : List Nat} (hn : ids.Nodup) : Free base (C.drop ids) (ids.flatMap (blks C)) := by
  refine ⟨?_, fun b hb => ?_⟩
  · induction ids with
    | nil => simp
    | cons o r ih =>
      rw [List.nodup_cons] at hn
      rw [List.flatMap_cons, List.nodup_append]
      refine ⟨hg.nd o, ih hn.2, fun b hb c hc e => ?_⟩
      subst e
      obtain ⟨p, hp, hpb⟩ := List.mem_flatMap.1 hc
      have hop : o ≠ p := by rintro rfl; exact hn.1 hp
      exact hg.dj o p b hop hb hpb
  · obtain ⟨p, hp, hpb⟩ := List.mem_flatMap.1 hb
    obtain ⟨h1, h2, h3, h4⟩ := hg.low p b hpb
    refine ⟨h1, h2, h3, h4, fun o ho => ?_⟩
    rw [blks_drop] at ho
    split at ho
    · cases ho
    · rename_i hc
      have hop : p ≠ o := by rintro rfl; exact hc (by simpa using hp)
      exact hg.dj p o b hop hpb ho

/-! ### arrays of what is given -/
/-- The cells of values, one behind the other. -/
def cellsL (vs : List Value) : List Value := vs.flatMap fun v => v.cells.toList
theorem dataAll_rel {C : Cx} {t : Ty} : ∀ {vs : List AV} {us : List Value} {l : List t.D}, dataAll t vs = some l → RelL C vs us → l.length = vs.length ∧ (∀ v ∈ us, v.cells.size = t.size) ∧ (∀ u ∈ cellsL us, u.oneCell' = true) ∧
    ∀ i x, l[i]? = some x → ∃ zs, RelD C.F C.w t x zs ∧ ∀ j u, zs[j]? = some u → (cellsL us)[i * t.size + j]? = some u
  | [], us, l, h, hr => by
    simp only [dataAll, Option.some.injEq] at h; subst h
    simp only [RelL] at hr; subst hr
    simp [cellsL]
  | x :: r, us, l, h, hr => by
    simp only [dataAll] at h
    split at h
    · rename_i y s hy hs
      cases h
      simp only [RelL] at hr
      obtain ⟨v, vr, rfl, hv, hr⟩ := hr
      obtain ⟨cs, hc, hy⟩ := Option.bind_eq_some_iff.1 hy
      obtain ⟨k1, k2⟩ := cellsO_rel hv hc
      have hD := toD_rel hy k1
      have hlen := hD.len
      obtain ⟨a1, a2, a3, a4⟩ := dataAll_rel hs hr
      refine ⟨by simp [a1], ?_, ?_, ?_⟩
      · intro u hu
        rcases List.mem_cons.1 hu with rfl | hu
        · simpa using hlen
        · exact a2 u hu
      · intro u hu
        simp only [cellsL, List.flatMap_cons, List.mem_append] at hu
        rcases hu with hu | hu
        · exact k2 u hu
        · exact a3 u hu
      · intro i z hz
        cases i with
        | zero =>
          simp at hz; subst hz
          refine ⟨_, hD, fun j u hj => ?_⟩
          simp only [cellsL, List.flatMap_cons, Nat.zero_mul, Nat.zero_add]
          rw [List.getElem?_append_left (by have := (List.getElem?_eq_some_iff.1 hj).1; exact this)]
          exact hj
        | succ i =>
          obtain ⟨zs, b1, b2⟩ := a4 i z (by simpa using hz)
          refine ⟨zs, b1, fun j u hj => ?_⟩
          simp only [cellsL, List.flatMap_cons]
          rw [List.getElem?_append_right (by rw [hlen, Nat.add_mul]; omega), hlen, show (i + 1) * t.size + j - t.size = i * t.size + j by rw [Nat.add_mul]; omega]
          exact b2 j u hj
    · cases h
theorem dataAllX_rel {base : Nat} {C : Cx} (hg : Good base C) {t : Ty} : ∀ {vs : List AV} {us : List Value} {l : List t.D} {ids : List Nat}, dataAllX C.H t vs = some (l, ids) → RelL C vs us → l.length = vs.length ∧ (∀ v ∈ us, v.cells.size = t.size) ∧ (∀ u ∈ cellsL us, u.oneCell' = true) ∧
    (∀ o ∈ ids, ∃ t l ver dp, C.H o = .arr t l ver dp) ∧
    ∃ ss : List (List Nat), ids.flatMap (blks C) = ss.flatten ∧ ss.length = l.length ∧ ∀ i x, l[i]? = some x → ∃ zs, RelX C.w t x zs (ss.getD i []) ∧ ∀ j u, zs[j]? = some u → (cellsL us)[i * t.size + j]? = some u
  | [], us, l, ids, h, hr => by
    simp only [dataAllX, Option.some.injEq, Prod.mk.injEq] at h; obtain ⟨rfl, rfl⟩ := h
    simp only [RelL] at hr; subst hr
    simp [cellsL]
  | x :: r, us, l, ids, h, hr => by
    simp only [dataAllX] at h
    split at h
    · rename_i y i0 s j0 hy hs
      cases h
      simp only [RelL] at hr
      obtain ⟨v, vr, rfl, hv, hr⟩ := hr
      obtain ⟨cs, hc, hy⟩ := Option.bind_eq_some_iff.1 hy
      obtain ⟨k1, k2⟩ := cellsO_rel hv hc
      obtain ⟨hX, hX2⟩ := toX_rel hg hy k1
      have hlen := hX.len
      obtain ⟨a1, a2, a3, a4, ss, a5, a6, a7⟩ := dataAllX_rel hg hs hr
      refine ⟨by simp [a1], ?_, ?_, ?_, i0.flatMap (blks C) :: ss, ?_, by simp [a6], ?_⟩
      · intro u hu
        rcases List.mem_cons.1 hu with rfl | hu
        · simpa using hlen
        · exact a2 u hu
      · intro u hu
        simp only [cellsL, List.flatMap_cons, List.mem_append] at hu
        rcases hu with hu | hu
        · exact k2 u hu
        · exact a3 u hu
      · intro o ho
        rcases List.mem_append.1 ho with h | h
        · exact hX2 o h
        · exact a4 o h
      · rw [List.flatMap_append, a5]; rfl
      · intro i z hz
        cases i with
        | zero =>
          simp at hz; subst hz
          refine ⟨_, hX, fun j u hj => ?_⟩
          simp only [cellsL, List.flatMap_cons, Nat.zero_mul, Nat.zero_add]
          rw [List.getElem?_append_left (by have := (List.getElem?_eq_some_iff.1 hj).1; exact this)]
          exact hj
        | succ i =>
          obtain ⟨zs, b1, b2⟩ := a7 i z (by simpa using hz)
          refine ⟨zs, b1, fun j u hj => ?_⟩
          simp only [cellsL, List.flatMap_cons]
          rw [List.getElem?_append_right (by rw [hlen, Nat.add_mul]; omega), hlen, show (i + 1) * t.size + j - t.size = i * t.size + j by rw [Nat.add_mul]; omega]
          exact b2 j u hj
    · cases h
end Go.Proofs.YtnbaahpbmhhofaaDoor.Fw

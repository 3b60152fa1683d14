/- One operation of the interpreter is what the machine does: one case an operation. -/
import Derived.Test.YtnbaahpbmhhofaaDoorFwG
namespace Go.Proofs.YtnbaahpbmhhofaaDoor.Fw
open Go Go.RowKit
set_option linter.unusedVariables false
set_option linter.unusedSimpArgs false

section
variable {P : Program}
theorem run_isAgg_ti {t : TypeId} {i : TI} (h : TiOk P t i) (w : World) : (isAgg t).run P w = .ok i.k.isAgg w := by
  have hu := h.und
  cases hk : i.k with
  | int k => rw [hk] at hu; simp [isAgg, run_underlying hu, TK.isAgg]
  | bool => rw [hk] at hu; simp [isAgg, run_underlying hu, TK.isAgg]
  | slice e => rw [hk] at hu; simp [isAgg, run_underlying hu, TK.isAgg]
  | struct l => rw [hk] at hu; obtain ⟨fs, hu, _⟩ := hu; simp [isAgg, run_underlying hu, TK.isAgg]
  | array n e => rw [hk] at hu; simp [isAgg, run_underlying hu, TK.isAgg]
  | str => rw [hk] at hu; simp [isAgg, run_underlying hu, TK.isAgg]
  | other => rw [hk] at hu; obtain ⟨d, hu, hd⟩ := hu; cases d <;> first | (simp at hd; done) | simp [isAgg, run_underlying hu, TK.isAgg]
theorem run_sizeOf_ti {t : TypeId} {i : TI} (h : TiOk P t i) (w : World) : (sizeOf t).run P w = .ok i.size w := by
  obtain ⟨q, z, h1, h2, h3, h4, h5, h6⟩ := h.info
  simp [sizeOf, typeInfo, h1, h2]
theorem run_zero_ti {t : TypeId} {i : TI} (h : TiOk P t i) (w : World) : ∃ z, (zeroValue t).run P w = .ok z w ∧ zeroOk i.zero z.cells.toList = true ∧ z.cells.size = i.size := by
  obtain ⟨q, z, h1, h2, h3, h4, h5, h6⟩ := h.info
  exact ⟨z, by simp [zeroValue, typeInfo, h1, h4], h5, h6⟩
theorem addr_add (b o n : Nat) : Addr.add ⟨b, o, none⟩ n = ⟨b, o + n, none⟩ := Addr.add_lit b o n
/-- What a variable of a type holds. -/
theorem run_load_ti {t : TypeId} {i : TI} (h : TiOk P t i) {w : World} {b off : Nat} {vs : List Value} (hl : vs.length = i.size) (hc : ∀ j u, vs[j]? = some u → w.cell? ⟨b, off + j, none⟩ = some u) :
    (loadVar t ⟨b, off, none⟩).run P w = .ok (if i.k.isAgg = true then .agg vs.toArray else vs.headD undef) w := by
  have h1 : (loadCells ⟨b, off, none⟩ vs.length).run P w = .ok vs.toArray w := run_loadCells_list (P := P) w _ vs (fun j v hv => by rw [addr_add]; exact hc j v hv)
  rw [hl] at h1
  by_cases hk : i.k.isAgg = true
  · simp [loadVar, run_isAgg_ti h, hk, run_sizeOf_ti h, h1]
  · have h2 := h.one (by simpa using hk)
    have h3 : vs.length = 1 := by omega
    obtain ⟨v, rfl⟩ : ∃ v, vs = [v] := by
      match vs, h3 with
      | [v], _ => exact ⟨v, rfl⟩
    have h4 := hc 0 v rfl
    simp only [Nat.add_zero] at h4
    have h5 : i.k.isAgg = false := by simpa using hk
    simp [loadVar, run_isAgg_ti h, h5, h4]
theorem takeT_rel {C : Cx} {i : TI} {l : List AV} {vs : List Value} (h1 : i.k.isAgg = false → i.size = 1) (hs : i.size ≤ l.length) (hr : RelL C l vs) (ho : ∀ u ∈ vs, u.oneCell' = true) :
    RelA C (takeT i l) (if i.k.isAgg = true then .agg (vs.take i.size).toArray else (vs.take i.size).headD undef) := by
  have hr' := hr.take (n := i.size)
  unfold takeT ofCells
  by_cases hk : i.k.isAgg = true
  · rw [if_pos hk, if_pos hk]
    simp only [RelA]
    exact ⟨_, rfl, fun u hu => ho u (List.mem_of_mem_take hu), hr'⟩
  · rw [if_neg hk, if_neg hk]
    have h2 := h1 (by simpa using hk)
    rw [h2] at hr' ⊢
    cases l with
    | nil => simp at hs; omega
    | cons x r =>
      simp only [RelL] at hr
      obtain ⟨v, vr, rfl, hv, _⟩ := hr
      simpa using hv
/-- An element's cells, its slices told as parts of the object. -/
theorem isAVs_rel {C : Cx} {o cur i : Nat} {T : Ty} {l : List T.D} {dp : Bool} (hH : C.H o = .arr T l cur dp) (hp : 0 < cur) (hf : T.flat = false) (hi : i < l.length) :
    ∀ {t : Ty} {x : t.D} {us : List Value} {S : List Nat} {c : Nat}, RelX C.w t x us S → (∀ (j : Nat) u, us[j]? = some u → C.w.cell? ⟨C.blk o, i * T.size + (c + j), none⟩ = some u) → RelL C (isAVs o cur i t c x) us
  | .int _, _, _, _, _, h, _ => by simp only [RelX] at h; obtain ⟨rfl, _⟩ := h; simp [isAVs, RelL, RelA]
  | .bool, _, _, _, _, h, _ => by simp only [RelX] at h; obtain ⟨rfl, _⟩ := h; simp [isAVs, RelL, RelA]
  | .str, _, _, _, _, h, _ => by simp only [RelX] at h; obtain ⟨rfl, _⟩ := h; simp [isAVs, RelL, RelA]
  | .sl _, x, us, S, c, h, hc => by
    obtain ⟨A, n, k, rfl⟩ : ∃ A n k, us = [.slice A n k] := by
      simp only [RelX] at h
      rcases h with ⟨_, _, A, rfl⟩ | ⟨_, b, c, cs, tid, ss, rfl, _⟩
      · exact ⟨_, _, _, rfl⟩
      · exact ⟨_, _, _, rfl⟩
    simp only [isAVs, RelL, RelA, IslOk, hH]
    exact ⟨_, _, rfl, ⟨⟨_, _, _, rfl⟩, .inr ⟨trivial, hp, hf, hi, hc 0 _ rfl⟩⟩, rfl⟩
  | .pr a b, x, us, S, c, h, hc => by
    simp only [RelX] at h
    obtain ⟨va, vb, Sa, Sb, rfl, rfl, h1, h2⟩ := h
    simp only [isAVs]
    refine (isAVs_rel hH hp hf hi h1 fun j u hj => hc j u ?_).append (isAVs_rel hH hp hf hi h2 fun j u hj => ?_)
    · rw [List.getElem?_append_left (List.getElem?_eq_some_iff.1 hj).1]; exact hj
    · have := hc (a.size + j) u (by rw [List.getElem?_append_right (by rw [h1.len]; omega), h1.len]; rw [show a.size + j - a.size = j by omega]; exact hj)
      rwa [show c + (a.size + j) = c + a.size + j by omega] at this
/-- What is read of a place: the cells from there on. -/
theorem cellsAt_rel {base : Nat} {C : Cx} (hg : Good base C) {x : AV} {v : Value} {cs : List AV} (hr : RelA C x v) (h : cellsAt C.H x = some cs) :
    ∃ b off vs, v = .pointer (some ⟨b, off, none⟩) ∧ RelL C cs vs ∧ (∀ u ∈ vs, u.oneCell' = true) ∧ ∀ j u, vs[j]? = some u → C.w.cell? ⟨b, off + j, none⟩ = some u := by
  cases x <;> simp only [cellsAt] at h <;> try (cases h; done)
  case bptr o off =>
    simp only [RelA, BptrOk] at hr
    cases hH : C.H o <;> rw [hH] at h hr <;> simp only at h hr <;> try (cases h; done)
    rename_i cells
    cases h
    obtain ⟨_, rfl⟩ := hr
    have hb := hg.ob o
    rw [hH] at hb
    simp only [ObjOk] at hb
    obtain ⟨cs, tid, h1, h2, h3⟩ := hb
    refine ⟨_, off, cs.toList.drop off, rfl, h3.drop, fun u hu => h2 u (List.mem_of_mem_drop hu), fun j u hj => ?_⟩
    rw [cell_of_cells h1]
    rw [List.getElem?_drop] at hj
    simpa using hj
  case eptr o ver i off =>
    simp only [RelA, EptrOk] at hr
    cases hH : C.H o <;> rw [hH] at h hr <;> simp only at h hr <;> try (cases h; done)
    rename_i t l cur dp
    split at h <;> try (cases h; done)
    rename_i hv
    subst hv
    obtain ⟨_, hr | ⟨_, hi, rfl⟩⟩ := hr
    · omega
    have hl : l ≠ [] := by intro e; subst e; simp at hi
    have hb := hg.ob o
    rw [hH] at hb
    simp only [ObjOk, ArrOk] at hb
    rcases hb with hb | ⟨_, cs', tid, h1, h2⟩
    · exact absurd hb.1 hl
    have hx : l[i]? = some (l.getD i t.dflt) := by
      rw [List.getD_eq_getElem?_getD, List.getElem?_eq_getElem hi]; rfl
    have key : ∃ us cs1, cs = cs1.drop off ∧ RelL C cs1 us ∧ (∀ u ∈ us, u.oneCell' = true) ∧ ∀ j u, us[j]? = some u → cs'[i * t.size + j]? = some u := by
      unfold ElemsOk at h2
      split at h2
      · rename_i hd
        obtain ⟨ss, a1, a2, a3⟩ := h2
        rw [if_pos hd] at h
        obtain ⟨us, b1, b2⟩ := a3 i _ hx
        split at h
        · rename_i hf
          have := b1.flat hf
          rw [this] at b1
          cases h
          obtain ⟨m1, m2⟩ := (b1.toD (F := C.F) (fun b hb => by cases hb)).toAVs (C := C)
          exact ⟨us, _, rfl, m1, m2, b2⟩
        · rename_i hf
          split at h <;> try (cases h; done)
          rename_i hp
          cases h
          exact ⟨us, _, rfl, isAVs_rel hH (Nat.le_of_ble_eq_true hp) (by simpa using hf) hi b1 (fun j u hj => by rw [cell_of_cells h1, Nat.zero_add]; exact b2 j u hj), b1.onecell, b2⟩
      · rename_i hd
        rw [if_neg hd] at h
        cases h
        obtain ⟨us, b1, b2⟩ := h2.2 i _ hx
        obtain ⟨m1, m2⟩ := b1.toAVs
        exact ⟨us, _, rfl, m1, m2, b2⟩
    obtain ⟨us, cs1, rfl, m1, m2, k2⟩ := key
    refine ⟨_, i * t.size + off, us.drop off, rfl, m1.drop, fun u hu => m2 u (List.mem_of_mem_drop hu), fun j u hj => ?_⟩
    rw [cell_of_cells h1]
    rw [List.getElem?_drop] at hj
    have := k2 _ _ hj
    rwa [show i * t.size + (off + j) = i * t.size + off + j by omega] at this
  case ref cells =>
    simp only [RelA] at hr
    obtain ⟨b, off, rfl, _, hr⟩ := hr
    cases h
    have hall : ∀ (j : Nat) (hj : j < cs.length), ∃ u, C.w.cell? ⟨b, off + j, none⟩ = some u ∧ u.oneCell' = true ∧ RelA C cs[j] u := fun j hj => hr.get (List.getElem?_eq_getElem hj)
    refine ⟨b, off, (List.range cs.length).map fun j => (C.w.cell? ⟨b, off + j, none⟩).getD undef, rfl, ?_, ?_, ?_⟩
    · refine RelL.mk (by simp) fun j x u h1 h2 => ?_
      have hj : j < cs.length := (List.getElem?_eq_some_iff.1 h1).1
      obtain ⟨u', a1, a2, a3⟩ := hall j hj
      rw [List.getElem?_map, List.getElem?_range hj] at h2
      simp only [Option.map_some, Option.some.injEq, a1, Option.getD_some] at h2
      subst h2
      rw [List.getElem?_eq_getElem hj] at h1
      cases h1
      exact a3
    · intro u hu
      obtain ⟨j, hj, rfl⟩ := List.mem_map.1 hu
      obtain ⟨u', a1, a2, a3⟩ := hall j (List.mem_range.1 hj)
      rw [a1]; exact a2
    · intro j u hj
      have hj' : j < cs.length := by
        have := (List.getElem?_eq_some_iff.1 hj).1
        simpa using this
      rw [List.getElem?_map, List.getElem?_range hj'] at hj
      obtain ⟨u', a1, a2, a3⟩ := hall j hj'
      simp only [Option.map_some, Option.some.injEq, a1, Option.getD_some] at hj
      rw [a1, hj]
end

section
variable {P : Program} {T : Tb} {α : Type} {base : Nat} {C : Cx} {a : Act} {tv : Nat → AV} {nid : Nat} {next : Act → World → Prop} {Q : Exit → Act → World → Prop} {r : α} {k : AV → List (Nat × AO) → Option α}
variable {dst : Option Tmp} {type : TypeId} {pos : String} {after : Array Edge} {guard : Option (Nat × Bool)}

/-- Nothing is made or changed. -/
theorem Kont.pure {v : AV} {val : Value} (hg : Good base C) (hk : Kont base C a dst next v []) (h : RelA C v val) : next (a.put dst val) C.w := hk C val hg (To.refl base C) rfl h

theorem so_move (hg : Good base C) (ht : Tmps C tv a) (hk : ∀ v u, k v u = some r → Kont base C a dst next v u) {x : Operand} (h : k (opnd tv x) [] = some r) (op : Op) (ho : op = .move x ∨ op = .assign x) :
    (Oper.mk dst op type pos after guard).wp P a C.w next Q :=
  wp_value (v := a.eval x) (by rcases ho with rfl | rfl <;> simp [execOp]) ((hk _ _ h).pure hg (opnd_rel ht x))
theorem so_pick (hg : Good base C) (ht : Tmps C tv a) (hk : ∀ v u, k v u = some r → Kont base C a dst next v u) {c x y : Operand} (h : testC (opnd tv c) (k (opnd tv x) []) (k (opnd tv y) []) = some r) :
    (Oper.mk dst (.pick c x y) type pos after guard).wp P a C.w next Q := by
  obtain ⟨b, hb, h⟩ := testC_some (opnd_rel ht c) h
  refine wp_value (w' := C.w) (v := if b = true then a.eval x else a.eval y) (by cases b <;> simp [execOp, hb, asBool]) ?_
  cases b with
  | true => rw [if_pos rfl] at h ⊢; exact (hk _ _ h).pure hg (opnd_rel ht x)
  | false => rw [if_neg (by simp)] at h ⊢; exact (hk _ _ h).pure hg (opnd_rel ht y)
theorem so_alloc (hT : TbOk P T) (hg : Good base C) (hb : base ≤ C.w.heap.size) (hn : C.H nid = .hole) (hk : ∀ v u, k v u = some r → Kont base C a dst next v u) {t : TypeId}
    (h : (match T.ty t with | some i => k (.bptr nid 0) [(nid, .box i.zero)] | none => none) = some r) : (Oper.mk dst (.alloc t) type pos after guard).wp P a C.w next Q := by
  split at h
  · rename_i i hi
    obtain ⟨z, h1, h2, h3⟩ := run_zero_ti (hT.ty t i hi) C.w
    obtain ⟨h4, h5⟩ := zero_rel C h2
    exact wp_value (w' := C.w.alloc (.cells z.cells t)) (by simp [execOp, Instr.alloc, h1, newVar, newRow]) (kont_box hg hb hn h4 h5 (hk _ _ h))
  · cases h
theorem so_box (hg : Good base C) (hb : base ≤ C.w.heap.size) (hn : C.H nid = .hole) (ht : Tmps C tv a) (hk : ∀ v u, k v u = some r → Kont base C a dst next v u) {t : TypeId} {x : Operand}
    (h : (match cellsO (opnd tv x) with | some cs => k (.bptr nid 0) [(nid, .box cs)] | none => none) = some r) : (Oper.mk dst (.box t x) type pos after guard).wp P a C.w next Q := by
  split at h
  · rename_i cs hc
    obtain ⟨h4, h5⟩ := cellsO_rel (opnd_rel ht x) hc
    exact wp_value (w' := C.w.alloc (.cells (a.eval x).cells t)) (by simp [execOp, Instr.box, newVar, newRow]) (kont_box hg hb hn h4 h5 (hk _ _ h))
  · cases h
theorem so_load (hT : TbOk P T) (hg : Good base C) (ht : Tmps C tv a) (hk : ∀ v u, k v u = some r → Kont base C a dst next v u) {t : TypeId} {x : Operand}
    (h : (match T.ty t, cellsAt C.H (opnd tv x) with | some i, some cs => if i.size ≤ cs.length then k (takeT i cs) [] else none | _, _ => none) = some r) : (Oper.mk dst (.load t x) type pos after guard).wp P a C.w next Q := by
  split at h
  · rename_i i cs hi hc
    split at h
    · rename_i hs
      obtain ⟨b, off, vs, h1, h2, h3, h4⟩ := cellsAt_rel hg (opnd_rel ht x) hc
      have hti := hT.ty t i hi
      have hl := run_load_ti hti (w := C.w) (b := b) (off := off) (vs := vs.take i.size) (by rw [List.length_take, ← h2.len]; omega) (fun j u hj => h4 j u (by rw [List.getElem?_take] at hj; split at hj <;> first | exact hj | cases hj))
      exact wp_value (by simp [execOp, Instr.loadAt, h1, Instr.sureAddr, hl]) ((hk _ _ h).pure hg (takeT_rel hti.one hs h2 h3))
    · cases h
  · cases h
theorem so_nil (hg : Good base C) (ht : Tmps C tv a) (hk : ∀ v u, k v u = some r → Kont base C a dst next v u) {x : Operand}
    (h : (match opnd tv x with | .bptr p off => (match C.H p with | .box _ => k (.bptr p off) [] | _ => none) | .ref cells => k (.ref cells) [] | .fn f caps => k (.fn f caps) [] | _ => none) = some r) : (Oper.mk dst (.nilCheck x) type pos after guard).wp P a C.w next Q := by
  have hr := opnd_rel ht x
  split at h
  · rename_i p off hx
    split at h
    · rename_i cells hH
      rw [hx] at hr
      have hr' := hr
      simp only [RelA, BptrOk, hH] at hr
      exact wp_value (w' := C.w) (v := a.eval x) (by simp [execOp, hr.2]) ((hk _ _ h).pure hg hr')
    · cases h
  · rename_i cells hx
    rw [hx] at hr
    have hr' := hr
    simp only [RelA] at hr
    obtain ⟨b, off, he, _⟩ := hr
    exact wp_value (w' := C.w) (v := a.eval x) (by simp [execOp, he]) ((hk _ _ h).pure hg hr')
  · rename_i f caps hx
    rw [hx] at hr
    have hr' := hr
    simp only [RelA] at hr
    obtain ⟨vs, he, _⟩ := hr
    exact wp_value (w' := C.w) (v := a.eval x) (by simp [execOp, he]) ((hk _ _ h).pure hg hr')
  · cases h
end
end Go.Proofs.YtnbaahpbmhhofaaDoor.Fw

/- One operation of the interpreter is what the machine does: all of them. -/
import Derived.Test.YthanbjnpfenniaaDoorFwI
import Derived.Laws.Cover3
import Derived.Laws.Strings
namespace Go.Proofs.YthanbjnpfenniaaDoor.Fw
open Go Go.RowKit
set_option linter.unusedVariables false
set_option linter.unusedSimpArgs false

theorem foldl_set : ∀ (xs : List Value) (s off : Nat) (cs : Array Value), off + s + xs.length ≤ cs.size →
    (xs.zipIdx s).foldl (fun cs (p : Value × Nat) => cs.setIfInBounds (off + p.2) p.1) cs = (cs.toList.take (off + s) ++ xs ++ cs.toList.drop (off + s + xs.length)).toArray
  | [], s, off, cs, _ => by simp
  | x :: r, s, off, cs, h => by
    simp only [List.length_cons] at h
    simp only [List.zipIdx_cons, List.foldl_cons]
    rw [foldl_set r (s + 1) off _ (by simp; omega)]
    have hn : off + s < cs.toList.length := by simp; omega
    have e0 : (cs.setIfInBounds (off + s) x).toList = cs.toList.set (off + s) x := by simp
    have e : cs.toList.set (off + s) x = cs.toList.take (off + s) ++ x :: cs.toList.drop (off + s + 1) := by rw [List.set_eq_take_append_cons_drop, if_pos hn]
    have hm : min (off + s) cs.toList.length = off + s := by omega
    have e1 : (cs.toList.set (off + s) x).take (off + (s + 1)) = cs.toList.take (off + s) ++ [x] := by
      rw [e, List.take_append, List.length_take, hm, show off + (s + 1) - (off + s) = 1 by omega, List.take_take, show min (off + (s + 1)) (off + s) = off + s by omega]
      simp
    have e2 : (cs.toList.set (off + s) x).drop (off + (s + 1) + r.length) = cs.toList.drop (off + s + (r.length + 1)) := by
      rw [e, List.drop_append, List.length_take, hm, show off + (s + 1) + r.length - (off + s) = r.length + 1 by omega, List.drop_succ_cons, List.drop_drop, List.drop_eq_nil_of_le (by simp; omega)]
      simp only [List.nil_append]
      congr 1; omega
    rw [e0, e1, e2]
    simp
theorem fold_arr (v : Value) (off : Nat) (cs : Array Value) (h : off + v.cells.size ≤ cs.size) :
    (v.cells.zipIdx.foldl (fun cs (x : Value × Nat) => match x with | (c, j) => cs.setIfInBounds (off + j) c) cs) = (cs.toList.take off ++ v.cells.toList ++ cs.toList.drop (off + v.cells.toList.length)).toArray := by
  have := foldl_set v.cells.toList 0 off cs (by simpa using h)
  simp only [Nat.add_zero] at this
  rw [← this, ← Array.foldl_toList, Array.toList_zipIdx]
/-- Parts laid into cells, here and there. -/
theorem fill_rel {C : Cx} {place : Nat → Option (Nat × Nat)} : ∀ {ps : List (Nat × AV)} {qs : List (Nat × Value)} {cs cs' : List AV} {vs : List Value}, fillC place cs ps = some cs' → RelL C cs vs → (∀ u ∈ vs, u.oneCell' = true) →
    ps.map (·.1) = qs.map (·.1) → RelL C (ps.map (·.2)) (qs.map (·.2)) → ∃ vs', Instr.fill place vs.toArray qs = some vs'.toArray ∧ RelL C cs' vs' ∧ ∀ u ∈ vs', u.oneCell' = true
  | [], qs, cs, cs', vs, h, hr, h1, hi, hp => by
    cases qs with
    | nil => simp only [fillC, Option.some.injEq] at h; subst h; exact ⟨vs, rfl, hr, h1⟩
    | cons _ _ => simp at hi
  | (i, x) :: ps, qs, cs, cs', vs, h, hr, h1, hi, hp => by
    cases qs with
    | nil => simp at hi
    | cons q qs =>
      obtain ⟨j, v⟩ := q
      simp only [List.map_cons, List.cons.injEq] at hi
      obtain ⟨rfl, hi⟩ := hi
      simp only [List.map_cons, RelL] at hp
      obtain ⟨v', vr, he, hv, hp⟩ := hp
      cases he
      simp only [fillC] at h
      split at h <;> try (cases h; done)
      rename_i off size hpl
      split at h <;> try (cases h; done)
      rename_i ys hys
      split at h <;> try (cases h; done)
      rename_i hsz
      split at h <;> try (cases h; done)
      rename_i hroom
      obtain ⟨k1, k2⟩ := cellsO_rel hv hys
      have hl := hr.len
      have hvs : v.cells.size = size := by rw [← hsz, k1.len]; simp
      have hput := hr.put (n := off) k1 (by omega)
      obtain ⟨vs', a1, a2, a3⟩ := fill_rel h hput (fun u hu => by
        rcases List.mem_append.1 hu with hu | hu
        · rcases List.mem_append.1 hu with hu | hu
          · exact h1 u (List.mem_of_mem_take hu)
          · exact k2 u hu
        · exact h1 u (List.mem_of_mem_drop hu)) hi hp
      refine ⟨vs', ?_, a2, a3⟩
      have hc : ¬ ((v.cells.size ≠ size || off + v.cells.size > vs.toArray.size) = true) := by simp; omega
      simp only [Instr.fill, hpl]
      rw [if_neg (by simpa using hc)]
      rw [fold_arr v off vs.toArray (by simp; omega)]
      simpa using a1
theorem fill_none {place : Nat → Option (Nat × Nat)} : True := trivial

section
variable {P : Program} {T : Tb} {α : Type} {base : Nat} {C : Cx} {a : Act} {tv : Nat → AV} {nid : Nat} {next : Act → World → Prop} {Q : Exit → Act → World → Prop} {r : α} {k : AV → List (Nat × AO) → Option α}
variable {dst : Option Tmp} {type : TypeId} {pos : String} {after : Array Edge} {guard : Option (Nat × Bool)}

theorem places_ok (hT : TbOk P T) : ∀ {fs : List Field} {l : List (Nat × TypeId)} {ps : List (Nat × Nat)}, fs.map (fun f => (f.offset, f.type)) = l → places T l = some ps → fs.mapM (fun f => (P.info? f.type).map fun i => (f.offset, i.size)) = some ps
  | [], l, ps, h, hp => by simp at h; subst h; simp [places] at hp; subst hp; rfl
  | f :: fs, l, ps, h, hp => by
    cases l with
    | nil => simp at h
    | cons x l =>
      simp only [List.map_cons, List.cons.injEq] at h
      obtain ⟨rfl, h⟩ := h
      simp only [places] at hp
      split at hp <;> try (cases hp; done)
      rename_i j s hj hs
      cases hp
      obtain ⟨q, z, h1, h2, _⟩ := (hT.ty _ _ hj).info
      simp only [List.mapM_cons, h1, Option.map_some, Option.bind_eq_bind, Option.bind_some, places_ok hT h hs]
      simp [h2]
theorem parts_rel (ht : Tmps C tv a) : ∀ ps : List (Nat × Operand), RelL C ((ps.map fun p => (p.1, opnd tv p.2)).map (·.2)) ((ps.map fun p => (p.1, a.eval p.2)).map (·.2))
  | [] => by simp [RelL]
  | p :: r => by simp only [List.map_cons, RelL]; exact ⟨_, _, rfl, opnd_rel ht p.2, parts_rel ht r⟩
theorem so_build (hT : TbOk P T) (hg : Good base C) (ht : Tmps C tv a) (hk : ∀ v u, k v u = some r → Kont base C a dst next v u) {t : TypeId} {ps : Array (Nat × Operand)}
    (h : (match T.ty t with
    | some ⟨.struct fs, _, _, z⟩ => match places T fs with
      | some ps' => match fillC (fun i => ps'[i]?) z (ps.toList.map fun p => (p.1, opnd tv p.2)) with
        | some cs => k (.agg cs) []
        | none => none
      | none => none
    | some ⟨.array _ e, _, _, z⟩ => match T.ty e with
      | some j => match fillC (fun i => some (i * j.size, j.size)) z (ps.toList.map fun p => (p.1, opnd tv p.2)) with
        | some cs => k (.agg cs) []
        | none => none
      | none => none
    | _ => none) = some r) : (Oper.mk dst (.build t ps) type pos after guard).wp P a C.w next Q := by
  have fin : ∀ {cs : List AV} {vs : List Value}, P.built t ((ps.toList.map fun p => (p.1, a.eval p.2))) = some vs.toArray → RelL C cs vs → (∀ u ∈ vs, u.oneCell' = true) → k (.agg cs) [] = some r → (Oper.mk dst (.build t ps) type pos after guard).wp P a C.w next Q := by
    intro cs vs h1 h2 h3 h4
    have hrun := run_build (P := P) C.w t (ps.map fun p => (p.1, a.eval p.2)) vs.toArray (by simpa using h1)
    refine wp_value (w' := C.w) (v := .agg vs.toArray) ?_ ((hk _ _ h4).pure hg (by simp only [RelA]; exact ⟨vs, rfl, h3, h2⟩))
    simp only [execOp, Sem.run_bind]
    rw [hrun]
    rfl
  split at h <;> try (cases h; done)
  · rename_i fs s b z hi
    have hti := hT.ty t _ hi
    obtain ⟨q, zv, h1, h2, h3, h4, h5, h6⟩ := hti.info
    obtain ⟨fds, hu, hf, _⟩ := hti.und
    split at h <;> try (cases h; done)
    rename_i pl hpl
    split at h <;> try (cases h; done)
    rename_i cs hc
    obtain ⟨z1, z2⟩ := zero_rel C h5
    obtain ⟨vs, a1, a2, a3⟩ := fill_rel (qs := ps.toList.map fun p => (p.1, a.eval p.2)) hc z1 z2 (by simp) (parts_rel ht ps.toList)
    refine fin (vs := vs) ?_ a2 a3 h
    simp only [Program.built, h1, hu, h4, places_ok hT hf hpl]
    simpa using a1
  · rename_i n e s b z hi
    have hti := hT.ty t _ hi
    obtain ⟨q, zv, h1, h2, h3, h4, h5, h6⟩ := hti.info
    have hu := hti.und
    split at h <;> try (cases h; done)
    rename_i j hj
    split at h <;> try (cases h; done)
    rename_i cs hc
    obtain ⟨q', z', e1, e2, _⟩ := (hT.ty _ _ hj).info
    obtain ⟨z1, z2⟩ := zero_rel C h5
    obtain ⟨vs, a1, a2, a3⟩ := fill_rel (qs := ps.toList.map fun p => (p.1, a.eval p.2)) hc z1 z2 (by simp) (parts_rel ht ps.toList)
    refine fin (vs := vs) ?_ a2 a3 h
    simp only [Program.built, h1, undOk] at hu ⊢
    rw [hu]
    simp only [h4, e1, e2]
    simpa using a1

/-! ### slices of parts -/
theorem fill_seq (size : Nat) : ∀ (us : List Value) (s : Nat) (cs : Array Value), (∀ v ∈ us, v.cells.size = size) → (s + us.length) * size ≤ cs.size →
    Instr.fill (fun i => some (i * size, size)) cs (us.zipIdx s |>.map fun p => (p.2, p.1)) = some (cs.toList.take (s * size) ++ cellsL us ++ cs.toList.drop ((s + us.length) * size)).toArray
  | [], s, cs, _, _ => by simp [Instr.fill, cellsL]
  | v :: us, s, cs, h, hs => by
    have hv := h v (by simp)
    simp only [List.length_cons] at hs
    have e : (s + (us.length + 1)) * size = s * size + size + us.length * size := by rw [Nat.add_mul, Nat.add_mul]; omega
    have e' : (s + 1 + us.length) * size = s * size + size + us.length * size := by rw [Nat.add_mul, Nat.add_mul]; omega
    rw [e] at hs
    have hc : ¬ (decide (v.cells.size ≠ size) || decide (s * size + v.cells.size > cs.size)) = true := by simp; omega
    simp only [List.zipIdx_cons, List.map_cons, Instr.fill]
    rw [if_neg hc, fold_arr v (s * size) cs (by omega)]
    have hl : v.cells.toList.length = size := by simpa using hv
    rw [fill_seq size us (s + 1) _ (fun u hu => h u (List.mem_cons_of_mem _ hu)) (by simp [hv]; omega)]
    congr 2
    simp only [List.length_cons]
    rw [e, e']
    have hm : min (s * size) cs.toList.length = s * size := by simp; omega
    have h1 : (cs.toList.take (s * size) ++ v.cells.toList ++ cs.toList.drop (s * size + v.cells.toList.length)).take ((s + 1) * size) = cs.toList.take (s * size) ++ v.cells.toList := by
      rw [List.append_assoc, ← List.append_assoc]
      apply List.take_left'
      rw [List.length_append, List.length_take, hm, hl, Nat.add_mul]; omega
    have h2 : (cs.toList.take (s * size) ++ v.cells.toList ++ cs.toList.drop (s * size + v.cells.toList.length)).drop (s * size + size + us.length * size) = cs.toList.drop (s * size + size + us.length * size) := by
      rw [List.drop_append, List.drop_eq_nil_of_le (by rw [List.length_append, List.length_take, hm, hl]; omega), List.length_append, List.length_take, hm, hl, List.nil_append, List.drop_drop]
      congr 1; omega
    rw [h1, h2]
    simp [cellsL]
theorem partsIn_seq {a : Act} : ∀ {ps : List (Nat × Operand)} {i : Nat} {vs : List AV}, partsIn i (ps.map fun p => (p.1, opnd tv p.2)) = some vs → vs = ps.map (fun p => opnd tv p.2) ∧ (ps.map fun p => (p.1, a.eval p.2)) = ((ps.map fun p => a.eval p.2).zipIdx i).map fun p => (p.2, p.1)
  | [], i, vs, h => by simp [partsIn] at h; subst h; simp
  | p :: r, i, vs, h => by
    simp only [List.map_cons, partsIn] at h
    split at h <;> try (cases h; done)
    rename_i hp
    obtain ⟨vs', h1, h2⟩ := Option.map_eq_some_iff.1 h
    subst h2
    obtain ⟨e1, e2⟩ := partsIn_seq (a := a) h1
    subst hp
    exact ⟨by simp [e1], by simp [e2, List.zipIdx_cons]⟩
/-- A new array of values' cells. -/
theorem newArr_ok (hg : Good base C) (hb : base ≤ C.w.heap.size) (hn : C.H nid = .hole) {t : Ty} {vs : List AV} {us : List Value} {u : List (Nat × AO)} (h : newArr C.H t vs nid = some u) (hr : RelL C vs us) (hne : vs ≠ []) {cs : Array Value} {tid : TypeId} {c : Nat} {w : World}
    (hcs : ∃ more, cs.toList = cellsL us ++ more) (hc : us.length ≤ c) (hcs2 : c * t.size ≤ cs.size) (hw : ∀ k, k < C.w.heap.size → w.heap[k]? = C.w.heap[k]?) (hs : w.heap.size = C.w.heap.size + 1) (hnew : w.heap[C.w.heap.size]? = some (.cells cs tid (0, 0))) (hbel : Below base C.w w) :
    ∃ C', C'.w = w ∧ Good base C' ∧ To base C C' ∧ C'.H = updU u C.H ∧ RelA C' (.osl nid 0) (.slice (some ⟨C.w.heap.size, 0, none⟩) us.length c) := by
  obtain ⟨more, hcs⟩ := hcs
  have hus : us.length = vs.length := hr.len.symm
  have cget : ∀ (j : Nat) u, (cellsL us)[j]? = some u → cs[j]? = some u := by
    intro j u hj
    have hlt : j < (cellsL us).length := (List.getElem?_eq_some_iff.1 hj).1
    rw [← Array.getElem?_toList, hcs, List.getElem?_append_left hlt]; exact hj
  unfold newArr at h
  split at h
  · rename_i l ids hd
    split at h <;> try (cases h; done)
    rename_i hnd
    cases h
    obtain ⟨a1, a2, a3, a4, ss, a5, a6, a7⟩ := dataAllX_rel hg hd hr
    have hl : l ≠ [] := by intro e; subst e; simp at a1; exact hne (List.eq_nil_of_length_eq_zero a1.symm)
    have hh : ∀ o ∈ ids, C.H o ≠ .hole := fun o ho e => by obtain ⟨t', l', v', d', h'⟩ := a4 o ho; rw [h'] at e; cases e
    have hnn : ids.contains nid = false := by
      cases hcn : ids.contains nid with
      | false => rfl
      | true => exact absurd hn (hh nid (by simpa using hcn))
    have hg1 := hg.drop ids
    have hn1 : (C.drop ids).H nid = .hole := by simp only [Cx.drop, hnn]; exact hn
    have hfree := Free.drop hg (nodupB_nodup hnd)
    have hel : ElemsIn (C.drop ids) t l true (ids.flatMap (blks C)) cs := by
      unfold ElemsIn
      rw [if_pos rfl]
      refine ⟨ss, a5, a6, fun i x hx => ?_⟩
      obtain ⟨zs, b1, b2⟩ := a7 i x hx
      exact ⟨zs, b1, fun j u hj => cget _ _ (b2 j u hj)⟩
    refine ⟨(C.drop ids).new nid C.w.heap.size (ids.flatMap (blks C)) (.arr t l 0 true) w, rfl, Good.arr hg1 hb hn1 hl hfree hel hw hs hnew, ?_, ?_, ?_⟩
    · refine (To.drop base C ids).trans ⟨Ext.new hg1 hn1 hw, by show C.w.heap.size ≤ w.heap.size; omega, hbel, fun _ h => .inl h, fun _ h => h⟩
    · show upd (C.drop ids).H nid _ = _
      rw [updU_append, drop_H hh]; rfl
    · have hlen : us.length = l.length := by omega
      rw [hlen]
      exact osl_new rfl hl (by omega) hnew hcs2
  · split at h
    · rename_i l hd
      cases h
      obtain ⟨a1, a2, a3, a4⟩ := dataAll_rel hd hr
      have hl : l ≠ [] := by intro e; subst e; simp at a1; exact hne (List.eq_nil_of_length_eq_zero a1.symm)
      have hel : ElemsIn C t l false [] cs := by
        unfold ElemsIn
        rw [if_neg (by simp)]
        refine ⟨rfl, fun i x hx => ?_⟩
        obtain ⟨zs, b1, b2⟩ := a4 i x hx
        exact ⟨zs, b1, fun j u hj => cget _ _ (b2 j u hj)⟩
      refine ⟨C.new nid C.w.heap.size [] (.arr t l 0 false) w, rfl, Good.arr hg hb hn hl (Free.nil base C) hel hw hs hnew, ?_, rfl, ?_⟩
      · exact ⟨Ext.new hg hn hw, by show C.w.heap.size ≤ w.heap.size; omega, hbel, fun _ h => .inl h, fun _ h => h⟩
      · have hlen : us.length = l.length := by omega
        rw [hlen]
        exact osl_new rfl hl (by omega) hnew hcs2
    · cases h
theorem cellsL_len {size : Nat} : ∀ {us : List Value}, (∀ v ∈ us, v.cells.size = size) → (cellsL us).length = us.length * size
  | [], _ => by simp [cellsL]
  | v :: r, h => by
    have h1 := h v (by simp)
    have h2 := cellsL_len (us := r) fun u hu => h u (List.mem_cons_of_mem _ hu)
    simp only [cellsL, List.flatMap_cons, List.length_append, List.length_cons] at h2 ⊢
    rw [h2, Nat.add_mul]
    simp [h1]; omega
theorem newArr_size (hg : Good base C) {t : Ty} {vs : List AV} {us : List Value} {u : List (Nat × AO)} (h : newArr C.H t vs nid = some u) (hr : RelL C vs us) : ∀ v ∈ us, v.cells.size = t.size := by
  unfold newArr at h
  split at h
  · rename_i l ids hd
    exact (dataAllX_rel hg hd hr).2.1
  · split at h
    · rename_i l hd
      exact (dataAll_rel hd hr).2.1
    · cases h
theorem updU_nil (H : Nat → AO) : updU [] H = H := rfl
theorem To.world (hg : Good base C) {w : World} (hw : ∀ k, k < C.w.heap.size → w.heap[k]? = C.w.heap[k]?) (hs : C.w.heap.size ≤ w.heap.size) (hbel : Below base C.w w) : To base C { C with w := w } :=
  ⟨Ext.world hg hw, hs, hbel, fun _ h => .inl h, fun _ h => h⟩
theorem so_buildSlice (hT : TbOk P T) (hg : Good base C) (hb : base ≤ C.w.heap.size) (hn : C.H nid = .hole) (ht : Tmps C tv a) (hk : ∀ v u, k v u = some r → Kont base C a dst next v u) {t : TypeId} {len : Nat} {ps : Array (Nat × Operand)}
    (h : (match T.ty t with
    | some ⟨.slice e, _, _, _⟩ => if len = 0 then (match ps.toList, T.dt e with | [], some _ => k .zsl [] | _, _ => none) else match T.dt e, partsIn 0 (ps.toList.map fun p => (p.1, opnd tv p.2)) with
      | some d, some vs => if vs.length = len then (if len * d.size ≤ 16777216 then match newArr C.H d vs nid with
        | some u => k (.osl nid 0) u
        | none => none else none) else none
      | _, _ => none
    | _ => none) = some r) : (Oper.mk dst (.buildSlice t len ps) type pos after guard).wp P a C.w next Q := by
  split at h <;> try (cases h; done)
  rename_i e s b z hi
  have hu := (hT.ty t _ hi).und
  simp only [undOk] at hu
  split at h
  · rename_i h0
    split at h <;> try (cases h; done)
    rename_i d hps hd
    obtain ⟨i, q, zv, d1, d2, d3, d4, d5, d6, d7, d8, d9⟩ := hT.dt e d hd
    subst h0
    have hps' : ps = #[] := by apply Array.toList_eq_nil_iff.1 hps
    subst hps'
    have hx := To.world (base := base) hg (w := C.w.alloc (.cells #[] e)) (fun k hk => heap_alloc _ _ k hk) (by rw [heap_alloc_size]; omega) ((Below.refl base C.w).alloc hb _)
    refine wp_value (w' := C.w.alloc (.cells #[] e)) (v := .slice (some ⟨C.w.heap.size, 0, none⟩) 0 0) ?_ (hk _ _ h { C with w := C.w.alloc (.cells #[] e) } _ (Good.world hg (fun k hk => heap_alloc _ _ k hk) (by rw [heap_alloc_size]; omega)) hx rfl (by simp only [RelA]; exact ⟨_, rfl⟩))
    simp [execOp, Instr.buildSlice, run_underlying hu, sizeOf, typeInfo, d5, d6, Instr.fill, newRow, Array.range_zero']
  · rename_i h0
    split at h <;> try (cases h; done)
    rename_i d vs hd hp
    split at h <;> try (cases h; done)
    rename_i hlen
    split at h <;> try (cases h; done)
    rename_i hlim
    split at h <;> try (cases h; done)
    rename_i u hnew
    obtain ⟨i, q, zv, d1, d2, d3, d4, d5, d6, d7, d8, d9⟩ := hT.dt e d hd
    obtain ⟨e1, e2⟩ := partsIn_seq (a := a) hp
    have hr : RelL C vs (ps.toList.map fun p => a.eval p.2) := by
      have := parts_rel ht ps.toList
      rw [e1]
      simpa [List.map_map, Function.comp_def] using this
    generalize hus : (ps.toList.map fun p => a.eval p.2) = us at hr e2
    have hsz := newArr_size hg hnew hr
    have hul : us.length = len := by rw [← hr.len]; exact hlen
    have hpos := d.size_pos
    have hz0 : len * d.size ≠ 0 := by
      intro e; rcases Nat.mul_eq_zero.1 e with e | e <;> omega
    have hne : vs ≠ [] := by intro e; subst e; simp at hlen; omega
    have hfill := fill_seq d.size us 0 ((Array.range (len * d.size)).map (zv.cells[· % zv.cells.size]!)) hsz (by simp [hul])
    have hcl := cellsL_len hsz
    rw [hul] at hcl
    have hfill' : Instr.fill (fun i => some (i * d.size, d.size)) ((Array.range (len * d.size)).map (zv.cells[· % zv.cells.size]!)) (ps.toList.map fun p => (p.1, a.eval p.2)) = some (cellsL us).toArray := by
      rw [e2, hfill]
      congr 1
      simp only [Nat.zero_mul, Nat.zero_add, List.take_zero, List.nil_append, hul]
      rw [List.drop_eq_nil_of_le (by simp), List.append_nil]
    have hlim' : ¬ (16777216 < len * d.size) := by omega
    have hrun : (execOp a.eval (Oper.mk dst (.buildSlice t len ps) type pos after guard)).run P C.w = .ok (.value (.slice (some ⟨C.w.heap.size, 0, none⟩) len len)) (C.w.alloc (.cells (cellsL us).toArray e)) := by
      have hfill2 : Instr.fill (fun i => some (i * d.size, d.size)) ((Array.range (len * d.size)).map (zv.cells[· % zv.cells.size]!)) (ps.map fun p => (p.1, a.eval p.2)).toList = some (cellsL us).toArray := by simpa using hfill'
      simp only [execOp, Instr.buildSlice, Sem.run_bind, run_underlying hu, Result.andThen_ok, sizeOf, typeInfo, run_program, d5, Sem.run_pure, d6]
      rw [if_neg hlim', if_neg hz0]
      simp only [Sem.run_bind, zeroValue, typeInfo, run_program, d5, d8, Sem.run_pure, Result.andThen_ok]
      rw [hfill2]
      simp [newRow]
    obtain ⟨C', c1, c2, c3, c4, c5⟩ := newArr_ok (base := base) (tid := e) (c := len) (w := C.w.alloc (.cells (cellsL us).toArray e)) hg hb hn hnew hr hne ⟨[], by simp⟩ (by omega) (by simp [hcl]) (fun k hk => heap_alloc _ _ k hk) (heap_alloc_size _ _) (heap_alloc_new _ _) ((Below.refl base C.w).alloc hb _)
    refine wp_value hrun ?_
    rw [← c1]
    exact hk _ _ h C' _ c2 c3 c4 (by rw [hul] at c5; exact c5)
end
end Go.Proofs.YthanbjnpfenniaaDoor.Fw

namespace Go.Proofs.YthanbjnpfenniaaDoor.Fw
open Go Go.RowKit
set_option linter.unusedVariables false
set_option linter.unusedSimpArgs false

section
variable {P : Program} {T : Tb} {α : Type} {base : Nat} {C : Cx} {a : Act} {tv : Nat → AV} {nid : Nat} {next : Act → World → Prop} {Q : Exit → Act → World → Prop} {r : α} {k : AV → List (Nat × AO) → Option α}
variable {dst : Option Tmp} {type : TypeId} {pos : String} {after : Array Edge} {guard : Option (Nat × Bool)}

theorem run_part_int {t : TypeId} {k : IntKind} (hu : P.underlying t = some (.int k)) {cs : Array Value} {off : Nat} {v : Value} (h : cs[off]? = some v) (w : World) : (part t cs off).run P w = .ok v w := by
  have : (isAgg t).run P w = .ok false w := by simp [isAgg, run_underlying hu]
  simp [part, this, h]
theorem run_eqFields (d : Nat) {w : World} : ∀ {fs : List Field} {n : Nat} {l m : List AV} {xs ys : List Value} {e : Bool}, (∀ f ∈ fs, (f.name == "_") = false ∧ ∃ k, P.underlying f.type = some (.int k)) → fs.map (·.offset) = List.range' n fs.length →
    RelL C l (xs.drop n) → RelL C m (ys.drop n) → l.length = fs.length → eqCells l m = some e → (Op.eqFields (d + 1) xs.toArray ys.toArray fs).run P w = .ok e w
  | [], n, l, m, xs, ys, e, _, _, hl, hm, hlen, he => by
    cases l with
    | nil =>
      cases m with
      | nil => simp [eqCells] at he; subst he; simp [Op.eqFields]
      | cons _ _ => simp [eqCells] at he
    | cons _ _ => simp at hlen
  | f :: fs, n, l, m, xs, ys, e, hf, ho, hl, hm, hlen, he => by
    cases l with
    | nil => simp at hlen
    | cons x l =>
      cases m with
      | nil => cases x <;> simp [eqCells] at he
      | cons y m =>
        cases x <;> try (simp [eqCells] at he; done)
        cases y <;> try (simp [eqCells] at he; done)
        rename_i k1 v1 k2 v2
        simp only [eqCells] at he
        split at he <;> try (cases he; done)
        rename_i hk
        subst hk
        obtain ⟨e', h1, h2⟩ := Option.map_eq_some_iff.1 he
        subst h2
        simp only [List.map_cons, List.length_cons, List.range'_succ, List.cons.injEq] at ho
        obtain ⟨ho1, ho2⟩ := ho
        simp only [RelL, RelA] at hl hm
        obtain ⟨v, vr, hx, rfl, hl⟩ := hl
        obtain ⟨u, ur, hy, rfl, hm⟩ := hm
        have hx0 : xs.toArray[f.offset]? = some (.int k1 v1) := by
          have := congrArg (·[0]?) hx
          simp only [List.getElem?_drop, Nat.add_zero, List.getElem?_cons_zero] at this
          rw [ho1]; simpa using this
        have hy0 : ys.toArray[f.offset]? = some (.int k1 v2) := by
          have := congrArg (·[0]?) hy
          simp only [List.getElem?_drop, Nat.add_zero, List.getElem?_cons_zero] at this
          rw [ho1]; simpa using this
        have hxd : xs.drop (n + 1) = vr := by rw [← List.drop_drop, hx]; rfl
        have hyd : ys.drop (n + 1) = ur := by rw [← List.drop_drop, hy]; rfl
        obtain ⟨hn, kk, hu⟩ := hf f (by simp)
        have ih := run_eqFields d (w := w) (fs := fs) (n := n + 1) (xs := xs) (ys := ys) (fun g hg => hf g (List.mem_cons_of_mem _ hg)) ho2 (by rw [hxd]; exact hl) (by rw [hyd]; exact hm) (by simpa using hlen) h1
        have hne : f.name ≠ "_" := by simpa using hn
        have heq : (Op.equalIn (d + 1) f.type (.int k1 v1) (.int k1 v2)).run P w = .ok (v1 == v2) w := by simp [Op.equalIn, run_underlying hu]
        simp only [Op.eqFields]
        rw [if_pos hne]
        simp only [Sem.run_bind, run_part_int hu hx0, run_part_int hu hy0, Result.andThen_ok, heq, Sem.run_ite]
        cases hb : (v1 == v2) with
        | true => simpa using ih
        | false => simp
theorem isNilO_eval {y : Operand} (h : isNilO y = true) (a : Act) : a.eval y = .slice none 0 0 := by
  unfold isNilO at h
  split at h
  · rfl
  · cases h
theorem emptyC_some {C : Cx} {x : AV} {v : Value} {e n : Option α} (hr : RelA C x v) (h : emptyC C.H x e n = some r) : (∃ A l c, v = .slice A l c) ∧ (e = some r ∨ (n = some r ∧ ∃ p l c, v = .slice (some p) l c)) := by
  unfold emptyC at h
  split at h
  · simp only [RelA] at hr
    obtain ⟨A, rfl⟩ := hr
    exact ⟨⟨_, _, _, rfl⟩, .inl h⟩
  · rename_i t l
    simp only [RelA, RelD] at hr
    obtain ⟨A, c, hv, _, h2⟩ := hr
    simp only [List.cons.injEq, and_true] at hv
    subst hv
    refine ⟨⟨_, _, _, rfl⟩, ?_⟩
    split at h
    · exact .inl h
    · rename_i hl
      rcases h2 with h2 | ⟨b, o, rfl, _⟩
      · subst h2; simp at hl
      · exact .inr ⟨h, _, _, _, rfl⟩
  · rename_i o ver
    simp only [RelA, OslOk] at hr
    obtain ⟨⟨A, m, c, rfl⟩, hr⟩ := hr
    refine ⟨⟨_, _, _, rfl⟩, ?_⟩
    split at h
    · rename_i t l cur dp hh
      rw [hh] at hr
      simp only at hr
      split at h
      · rename_i hc
        subst hc
        split at h
        · exact .inl h
        · rename_i hl
          rcases hr with hr | ⟨_, hr⟩
          · exact absurd hr (Nat.lt_irrefl _)
          · rcases hr with ⟨h0, _⟩ | ⟨_, c', cs, tid, hv, _⟩
            · have : l = [] := List.eq_nil_of_length_eq_zero h0
              subst this; simp at hl
            · cases hv; exact .inr ⟨h, _, _, _, rfl⟩
      · cases h
    · cases h
  · cases h
theorem run_eql_slice_nil' {w : World} {t e : TypeId} {a : Option Addr} {l c : Nat} (h : P.underlying t = some (.slice e)) : (binOp .eql t (.slice a l c) (.slice none 0 0)).run P w = .ok (.bool a.isNone) w := by
  simp only [binOp]
  simp [run_equal_slice_nil w t e a l c h]
theorem range'_range (n : Nat) : List.range' 0 n = List.range n := by rw [List.range_eq_range']
theorem so_bin (hT : TbOk P T) (hg : Good base C) (ht : Tmps C tv a) (hk : ∀ v u, k v u = some r → Kont base C a dst next v u) {op : BinOp} {t t2 : TypeId} {x y : Operand}
    (h : (match opnd tv x, opnd tv y with
    | .int k1 a, .int k2 b => binC op (.int k1 a) (.int k2 b) fun v => k v []
    | .agg l, .agg m => match T.ty t with
      | some ⟨.struct fs, _, _, _⟩ => if (fs.map (·.1) == List.range fs.length) && fs.all (fun f => match T.ty f.2 with | some ⟨.int _, _, _, _⟩ => true | _ => false) && (l.length == fs.length) then binC op (.agg l) (.agg m) fun v => k v [] else none
      | _ => none
    | a, b => match T.ty t with
      | some ⟨.bool, _, _, _⟩ => binB op a b fun v => k v []
      | some ⟨.slice _, _, _, _⟩ => nilC op C.H a y fun v => k v []
      | _ => none) = some r) : (Oper.mk dst (.binOp op t x y t2) type pos after guard).wp P a C.w next Q := by
  have hx := opnd_rel ht x
  have hy := opnd_rel ht y
  have fin : ∀ {v : AV} {val : Value}, k v [] = some r → RelA C v val → (do eqGuard op t x y (a.eval x) (a.eval y); binOp op t (a.eval x) (a.eval y) : Sem Value).run P C.w = .ok val C.w → (Oper.mk dst (.binOp op t x y t2) type pos after guard).wp P a C.w next Q := by
    intro v val h1 h2 h3
    refine wp_value (w' := C.w) (v := val) ?_ ((hk _ _ h1).pure hg h2)
    simp only [execOp, Sem.run_bind] at h3 ⊢
    rw [h3]
    rfl
  split at h
  · rename_i k1 n1 k2 n2 e1 e2
    rw [e1] at hx; rw [e2] at hy
    simp only [RelA] at hx hy
    obtain ⟨v, val, h1, h2, h3⟩ := run_bin (P := P) h C.w C t
    refine fin h1 h2 ?_
    rw [hx, hy]
    have hq : (eqGuard op t x y (.int k1 n1) (.int k2 n2)).run P C.w = .ok () C.w := by cases op <;> rfl
    simp only [Sem.run_bind, hq, Result.andThen_ok, h3]
  · rename_i l m e1 e2
    rw [e1] at hx; rw [e2] at hy
    simp only [RelA] at hx hy
    obtain ⟨xs, hx, _, hl⟩ := hx
    obtain ⟨ys, hy, _, hm⟩ := hy
    split at h <;> try (cases h; done)
    rename_i fs sz by_ zz hi
    split at h <;> try (cases h; done)
    rename_i hc
    simp only [Bool.and_eq_true, beq_iff_eq, List.all_eq_true] at hc
    obtain ⟨⟨hc1, hc2⟩, hc3⟩ := hc
    obtain ⟨fds, hu, hfd, hnm, hst⟩ := (hT.ty t _ hi).und
    have hfo : P.fieldsOf t = fds := by simp [Program.fieldsOf, hu]
    have hlen : fds.toList.length = fs.length := by rw [← hfd]; simp
    have hints : ∀ f ∈ fds.toList, (f.name == "_") = false ∧ ∃ k, P.underlying f.type = some (.int k) := by
      intro f hf
      refine ⟨hnm f hf, ?_⟩
      have hm : (f.offset, f.type) ∈ fs := by rw [← hfd]; exact List.mem_map.2 ⟨f, hf, rfl⟩
      have := hc2 _ hm
      simp only at this
      split at this
      · rename_i k' s' b' z' ht'
        exact ⟨_, (hT.ty _ _ ht').und⟩
      · cases this
    have hoff : fds.toList.map (·.offset) = List.range' 0 fds.toList.length := by
      rw [range'_range, hlen, ← hc1, ← hfd]
      simp
    simp only [binC] at h
    have hE : ∀ e, eqCells l m = some e → (Op.equal t (.agg xs.toArray) (.agg ys.toArray)).run P C.w = .ok e C.w := by
      intro e he
      unfold Op.equal Op.maxDepth
      rw [run_equalIn_struct C.w 9999 t xs.toArray ys.toArray (by rw [hfo]; exact hu) hst, hfo]
      exact run_eqFields 9998 hints hoff (by simpa using hl) (by simpa using hm) (by rw [hlen]; exact hc3) he
    have hG : ∀ o', (o' = .eql ∨ o' = .neq) → (eqGuard o' t x y (.agg xs.toArray) (.agg ys.toArray)).run P C.w = .ok () C.w := by
      intro o' ho'
      have hty : P.eqGuardType P.depth t = false := by
        have hd : P.depth = (P.depth - 2) + 1 + 1 := by unfold Program.depth; omega
        rw [hd]
        simp only [Program.eqGuardType, hu]
        rw [← Array.any_toList, List.any_eq_false]
        intro f hf
        obtain ⟨_, k', hk'⟩ := hints f hf
        simp [Program.eqGuardType, hk']
      rcases ho' with rfl | rfl <;> simp [eqGuard, hty]
    split at h
    · rename_i e he
      refine fin h (by simp only [RelA]; rfl) ?_
      rw [hx, hy]
      simp only [Sem.run_bind, hG .eql (.inl rfl), Result.andThen_ok, binOp, hE e he, Sem.run_pure]
    · rename_i e he
      refine fin h (by simp only [RelA]; rfl) ?_
      rw [hx, hy]
      simp only [Sem.run_bind, hG .neq (.inr rfl), Result.andThen_ok, binOp, hE e he, Sem.run_pure]
    · cases h
  · split at h <;> try (cases h; done)
    rotate_left
    · rename_i e_ sz by_ zz hi
      have hu := (hT.ty t _ hi).und
      simp only [undOk] at hu
      unfold nilC at h
      split at h
      · split at h <;> try (cases h; done)
        rename_i hn
        obtain ⟨⟨A, l, c, hv⟩, hc⟩ := emptyC_some hx h
        have h3 : (do eqGuard .eql t x y (a.eval x) (a.eval y); binOp .eql t (a.eval x) (a.eval y) : Sem Value).run P C.w = .ok (.bool A.isNone) C.w := by
          rw [hv, isNilO_eval hn]
          have hq : (eqGuard .eql t x y (.slice A l c) (.slice none 0 0)).run P C.w = .ok () C.w := by rfl
          simp only [Sem.run_bind, hq, Result.andThen_ok, run_eql_slice_nil' hu]
        rcases hc with hc | ⟨hc, p, l', c', hv'⟩
        · exact fin hc (by simp only [RelA]; exact ⟨_, rfl⟩) h3
        · rw [hv] at hv'; cases hv'
          exact fin hc (by simp only [RelA]; rfl) h3
      · split at h <;> try (cases h; done)
        rename_i hn
        obtain ⟨⟨A, l, c, hv⟩, hc⟩ := emptyC_some hx h
        have h3 : (do eqGuard .neq t x y (a.eval x) (a.eval y); binOp .neq t (a.eval x) (a.eval y) : Sem Value).run P C.w = .ok (.bool (!A.isNone)) C.w := by
          rw [hv, isNilO_eval hn]
          have hq : (eqGuard .neq t x y (.slice A l c) (.slice none 0 0)).run P C.w = .ok () C.w := by rfl
          simp only [Sem.run_bind, hq, Result.andThen_ok, run_neq_slice_nil C.w t _ A l c hu]
        rcases hc with hc | ⟨hc, p, l', c', hv'⟩
        · exact fin hc (by simp only [RelA]; exact ⟨_, rfl⟩) h3
        · rw [hv] at hv'; cases hv'
          exact fin hc (by simp only [RelA]; rfl) h3
      · cases h
    rename_i ty' sz by_ zz hi
    have hu := (hT.ty t _ hi).und
    simp only [undOk] at hu
    unfold binB at h
    split at h
    · rename_i b1 b2 h1 h2
      have e1 := boolOf_rel hx h1
      have e2 := boolOf_rel hy h2
      refine fin h (by simp only [RelA]; rfl) ?_
      rw [e1, e2]
      have hq : (eqGuard .eql t x y (.bool b1) (.bool b2)).run P C.w = .ok () C.w := by rfl
      simp only [Sem.run_bind, hq, Result.andThen_ok, binOp, run_equal_bool C.w t b1 b2 hu, Sem.run_pure]
    · rename_i b1 b2 h1 h2
      have e1 := boolOf_rel hx h1
      have e2 := boolOf_rel hy h2
      refine fin h (by simp only [RelA]; rfl) ?_
      rw [e1, e2]
      have hq : (eqGuard .neq t x y (.bool b1) (.bool b2)).run P C.w = .ok () C.w := by rfl
      simp only [Sem.run_bind, hq, Result.andThen_ok, binOp, run_equal_bool C.w t b1 b2 hu, Sem.run_pure]
      rfl
    · cases h
end
end Go.Proofs.YthanbjnpfenniaaDoor.Fw

namespace Go.Proofs.YthanbjnpfenniaaDoor.Fw
open Go Go.RowKit
set_option linter.unusedVariables false
set_option linter.unusedSimpArgs false

section
variable {P : Program} {T : Tb} {α : Type} {base : Nat} {C : Cx} {a : Act} {tv : Nat → AV} {nid : Nat} {next : Act → World → Prop} {Q : Exit → Act → World → Prop} {r : α} {k : AV → List (Nat × AO) → Option α}
variable {dst : Option Tmp} {type : TypeId} {pos : String} {after : Array Edge} {guard : Option (Nat × Bool)}

theorem so_un (hg : Good base C) (ht : Tmps C tv a) (hk : ∀ v u, k v u = some r → Kont base C a dst next v u) {op : UnOp} {t : TypeId} {x : Operand}
    (h : (match op, opnd tv x with
    | .not, .bool b => k (.bool (!b)) []
    | .not, .dec p h => k (.ndec p h) []
    | .not, .ndec p h => k (.dec p h) []
    | .neg, .int kd n => k (.int kd (wr kd (0 - n))) []
    | _, _ => none) = some r) : (Oper.mk dst (.unOp op t x) type pos after guard).wp P a C.w next Q := by
  have hx := opnd_rel ht x
  split at h <;> try (cases h; done)
  · rename_i e; rw [e] at hx; simp only [RelA] at hx
    exact wp_value (w' := C.w) (by simp [execOp, hx, Op.unary]; rfl) ((hk _ _ h).pure hg (by simp only [RelA]))
  · rename_i p hp e; rw [e] at hx; simp only [RelA] at hx
    exact wp_value (w' := C.w) (v := .bool (!@decide p hp)) (by simp [execOp, hx, Op.unary]) ((hk _ _ h).pure hg (by simp only [RelA]))
  · rename_i p hp e; rw [e] at hx; simp only [RelA] at hx
    exact wp_value (w' := C.w) (v := .bool (@decide p hp)) (by simp [execOp, hx, Op.unary]) ((hk _ _ h).pure hg (by simp only [RelA]))
  · rename_i kd n e; rw [e] at hx; simp only [RelA] at hx
    exact wp_value (w' := C.w) (v := .int kd (wr kd (0 - n))) (by simp [execOp, hx, Op.unary, Op.intArith, wrap_wr]) ((hk _ _ h).pure hg (by simp only [RelA]))
theorem so_convert (hT : TbOk P T) (hg : Good base C) (ht : Tmps C tv a) (hk : ∀ v u, k v u = some r → Kont base C a dst next v u) {s t : TypeId} {x : Operand}
    (h : (match T.ty s, T.ty t, opnd tv x with
    | some ⟨.int _, _, _, _⟩, some ⟨.int kd, _, _, _⟩, .int _ n => k (.int kd (wr kd n)) []
    | _, _, _ => none) = some r) : (Oper.mk dst (.convert s t x) type pos after guard).wp P a C.w next Q := by
  have hx := opnd_rel ht x
  split at h <;> try (cases h; done)
  rename_i k1 _ _ _ kd _ _ _ k2 n e1 e2 e
  rw [e] at hx; simp only [RelA] at hx
  have h1 := (hT.ty _ _ e1).und
  have h2 := (hT.ty _ _ e2).und
  simp only [undOk] at h1 h2
  exact wp_value (w' := C.w) (v := .int kd (wr kd n)) (by simp [execOp, hx, convert, run_underlying h1, run_underlying h2, Conv.intToInt, wrap_wr]) ((hk _ _ h).pure hg (by simp only [RelA]))
theorem so_makeFunc (hg : Good base C) (ht : Tmps C tv a) (hk : ∀ v u, k v u = some r → Kont base C a dst next v u) {f : FuncId} {first caps : Array Operand}
    (h : (if first.size = 0 then k (.fn f (caps.toList.map (opnd tv))) [] else (match first.toList, caps.toList with
    | [x], [] => match opnd tv x with
      | .bptr p off => k (.mth f p off) []
      | _ => none
    | _, _ => none)) = some r) : (Oper.mk dst (.makeFunc (.func f) first caps) type pos after guard).wp P a C.w next Q := by
  split at h
  · rename_i h0
    have hf : first = #[] := Array.eq_empty_of_size_eq_zero h0
    subst hf
    refine wp_value (w' := C.w) (v := .func (.func f) #[] (caps.map a.eval)) (by simp [execOp, Instr.makeFunc]) ((hk _ _ h).pure hg ?_)
    simp only [RelA]
    exact ⟨caps.toList.map a.eval, by rw [← Array.toList_map, Array.toArray_toList], opnds_rel ht caps.toList⟩
  · split at h <;> try (cases h; done)
    rename_i x h1 h2
    split at h <;> try (cases h; done)
    rename_i p off h3
    obtain rfl : first = #[x] := Array.toList_inj.1 (by simpa using h1)
    obtain rfl : caps = #[] := Array.toList_inj.1 (by simpa using h2)
    have hx := opnd_rel ht x
    rw [h3] at hx
    simp only [RelA] at hx
    refine wp_value (w' := C.w) (v := .func (.func f) #[a.eval x] #[]) (by simp [execOp, Instr.makeFunc]) ((hk _ _ h).pure hg ?_)
    simp only [RelA]
    exact ⟨_, rfl, hx⟩
theorem so_extract (hg : Good base C) (ht : Tmps C tv a) (hk : ∀ v u, k v u = some r → Kont base C a dst next v u) {x : Operand} {i : Nat}
    (h : (match opnd tv x with
    | .tup l => match l[i]? with
      | some v => k v []
      | none => none
    | _ => none) = some r) : (Oper.mk dst (.extract x i) type pos after guard).wp P a C.w next Q := by
  have hx := opnd_rel ht x
  split at h <;> try (cases h; done)
  rename_i l e
  rw [e] at hx; simp only [RelA] at hx
  obtain ⟨vs, hx, hl⟩ := hx
  split at h <;> try (cases h; done)
  rename_i v hv
  obtain ⟨u, h1, h2⟩ := hl.get hv
  exact wp_value (w' := C.w) (v := u) (by simp [execOp, hx, Instr.extract, h1]) ((hk _ _ h).pure hg h2)
theorem so_makeSlice (hT : TbOk P T) (hg : Good base C) (hb : base ≤ C.w.heap.size) (hn : C.H nid = .hole) (ht : Tmps C tv a) (hk : ∀ v u, k v u = some r → Kont base C a dst next v u) {t : TypeId} {x y : Operand}
    (h : (match T.ty t, opnd tv x, opnd tv y with
    | some ⟨.slice e, _, _, _⟩, .int .i64 n, .int .i64 _ => if sameTmp x y = true then match T.dt e with
      | some d => if 0 ≤ n then (if limB n.toNat = true then k (.osl nid 0) [(nid, .arr d (List.replicate n.toNat d.dflt) 0 true)] else none) else none
      | none => none else none
    | _, _, _ => none) = some r) : (Oper.mk dst (.makeSlice t x y) type pos after guard).wp P a C.w next Q := by
  have hx := opnd_rel ht x
  split at h <;> try (cases h; done)
  rename_i e _ _ _ n n' e1 e2 e3
  split at h <;> try (cases h; done)
  rename_i hxy
  have hyx : y = x := by
    cases x <;> cases y <;> simp [sameTmp] at hxy
    subst hxy; rfl
  subst hyx
  split at h <;> try (cases h; done)
  rename_i d hd
  split at h <;> try (cases h; done)
  rename_i h0
  split at h <;> try (cases h; done)
  rename_i hlim
  rw [e2] at hx; simp only [RelA] at hx
  obtain ⟨i, q, zv, d1, d2, d3, d4, d5, d6, d7, d8, d9⟩ := hT.dt e d hd
  have hu := (hT.ty _ _ e1).und
  simp only [undOk] at hu
  have hl : n < 1099511627776 := by
    have h1 : n.toNat < lim := Nat.le_of_ble_eq_true hlim
    have h2 : lim = 1099511627776 := rfl
    omega
  have hby : (q.bytes : Int) * n ≤ 281474976710656 := by
    have h1 : (q.bytes : Int) ≤ 128 := by rw [d7]; exact_mod_cast d3
    have h2 : (q.bytes : Int) * n ≤ 128 * n := Int.mul_le_mul_of_nonneg_right h1 h0
    omega
  have hrun := run_make (P := P) C.w t e q zv hu d5 d8 .i64 .i64 n n h0 (Int.le_refl _) hby (by omega)
  generalize hcells : madeCells zv.cells (n.toNat * q.size) = cells at hrun
  have hcs : cells.size = n.toNat * d.size := by rw [← hcells, d6]; simp [madeCells]
  have hzl : zv.cells.size = d.size := by have := (dflt_rel C.w d9).len; simpa using this
  have hel : ElemsIn C d (List.replicate n.toNat d.dflt) true [] cells := by
    unfold ElemsIn
    rw [if_pos rfl]
    refine ⟨List.replicate n.toNat [], by simp, by simp, fun j x hj => ?_⟩
    have hj' : j < n.toNat := by have := (List.getElem?_eq_some_iff.1 hj).1; simpa using this
    rw [List.getElem?_replicate, if_pos hj'] at hj
    cases hj
    refine ⟨zv.cells.toList, ?_, fun m u hm => ?_⟩
    · rw [List.getD_eq_getElem?_getD, List.getElem?_replicate, if_pos hj']
      exact dflt_rel C.w d9
    · have hm' : m < d.size := by rw [← hzl]; have := (List.getElem?_eq_some_iff.1 hm).1; simpa using this
      have hjm : j * d.size + m < n.toNat * d.size := by
        have : (j + 1) * d.size ≤ n.toNat * d.size := Nat.mul_le_mul_right _ hj'
        rw [Nat.add_mul] at this; omega
      rw [← hcells, d6]
      unfold madeCells
      rw [Array.getElem?_map, Array.getElem?_range, if_pos hjm]
      simp only [Option.map_some]
      have hmod : (j * d.size + m) % zv.cells.size = m := by
        rw [hzl, Nat.add_comm, Nat.add_mul_mod_self_right, Nat.mod_eq_of_lt hm']
      rw [hmod]
      have : zv.cells[m]? = some u := by simpa using hm
      rw [getElem!_def, this]
  have hx' : a.eval y = .int .i64 n := hx
  refine wp_value (w' := C.w.alloc (.cells cells e)) (v := .slice (some ⟨C.w.heap.size, 0, none⟩) n.toNat n.toNat) (by simp [execOp, hx', hrun]) ?_
  by_cases hnn : n.toNat = 0
  · rw [hnn] at h hcs ⊢
    simp only [List.replicate_zero] at h
    have hto := To.alloc (b := 0) (S := []) (x := .arr d ([] : List d.D) 0 true) hg hb hn (.cells cells e)
    exact hk _ _ h (C.new nid 0 [] (.arr d ([] : List d.D) 0 true) (C.w.alloc (.cells cells e))) _ (Good.arr_nil hg hn (fun k hk => heap_alloc _ _ k hk) hto.size) hto rfl (osl_nil rfl _)
  · have hne : List.replicate n.toNat d.dflt ≠ [] := by intro e; exact hnn (by simpa using congrArg List.length e)
    have hto := To.alloc (b := C.w.heap.size) (S := []) (x := .arr d (List.replicate n.toNat d.dflt) 0 true) hg hb hn (.cells cells e)
    refine hk _ _ h (C.new nid C.w.heap.size [] (.arr d (List.replicate n.toNat d.dflt) 0 true) (C.w.alloc (.cells cells e))) _ (Good.arr hg hb hn hne (Free.nil base C) hel (fun k hk => heap_alloc _ _ k hk) (heap_alloc_size _ _) (heap_alloc_new _ _)) hto rfl ?_
    have := osl_new (C' := C.new nid C.w.heap.size [] (.arr d (List.replicate n.toNat d.dflt) 0 true) (C.w.alloc (.cells cells e))) (c := n.toNat) rfl hne (by simp) (heap_alloc_new _ _) (by omega)
    simpa using this
theorem so_fieldAddr (hT : TbOk P T) (hg : Good base C) (ht : Tmps C tv a) (hk : ∀ v u, k v u = some r → Kont base C a dst next v u) {t : TypeId} {x : Operand} {f : Nat}
    (h : (match T.ty t with
    | some ⟨.struct fs, _, _, _⟩ => match nthF fs f with
      | some (off, ft) => match T.ty ft with
        | some j => if 0 < j.size then match opnd tv x with
          | .bptr p o2 => match C.H p with
            | .box _ => k (.bptr p (o2 + off)) []
            | _ => none
          | .eptr p ver i o2 => match C.H p with
            | .arr _ _ cur _ => if cur = ver then k (.eptr p ver i (o2 + off)) [] else none
            | _ => none
          | .ref cells => k (.ref (cells.drop off)) []
          | _ => none else none
        | none => none
      | none => none
    | _ => none) = some r) : (Oper.mk dst (.fieldAddr t x f) type pos after guard).wp P a C.w next Q := by
  have hx := opnd_rel ht x
  split at h <;> try (cases h; done)
  rename_i fs _ _ _ hi
  split at h <;> try (cases h; done)
  rename_i off ft hf
  split at h <;> try (cases h; done)
  rename_i j hj
  split at h <;> try (cases h; done)
  rename_i hpos
  obtain ⟨fds, hu, hfd, _⟩ := (hT.ty _ _ hi).und
  have hfield : ∃ fd, fds[f]? = some fd ∧ fd.offset = off ∧ fd.type = ft := by
    unfold nthF at hf
    rw [← hfd, List.getElem?_map, Option.map_eq_some_iff] at hf
    obtain ⟨fd, h1, h2⟩ := hf
    cases h2
    exact ⟨fd, by simpa using h1, rfl, rfl⟩
  obtain ⟨fd, f1, rfl, rfl⟩ := hfield
  have hsz := run_sizeOf_ti (hT.ty _ _ hj) C.w
  have hrun : ∀ b o, (Instr.fieldAt t (.pointer (some ⟨b, o, none⟩)) f).run P C.w = .ok (.pointer (some ⟨b, o + fd.offset, none⟩)) C.w := by
    intro b o
    have hne : ¬ (j.size = 0) := by omega
    simp [Instr.fieldAt, run_underlying hu, f1, Instr.sureAddr, fieldPlace, hsz, hne, addr_add]
  split at h <;> try (cases h; done)
  · rename_i p o2 e
    rw [e] at hx
    split at h <;> try (cases h; done)
    rename_i cells hH
    simp only [RelA, BptrOk, hH] at hx
    refine wp_value (w' := C.w) (by simp [execOp, hx.2, hrun]; rfl) ((hk _ _ h).pure hg ?_)
    simp only [RelA, BptrOk, hH]
    exact ⟨⟨_, rfl⟩, trivial⟩
  · rename_i p ver i o2 e
    rw [e] at hx
    split at h <;> try (cases h; done)
    rename_i d l cur dp hH
    split at h <;> try (cases h; done)
    rename_i hv
    subst hv
    simp only [RelA, EptrOk, hH] at hx
    obtain ⟨_, hx | ⟨_, hi', hx⟩⟩ := hx
    · omega
    refine wp_value (w' := C.w) (by simp [execOp, hx, hrun]; rfl) ((hk _ _ h).pure hg ?_)
    simp only [RelA, EptrOk, hH]
    exact ⟨⟨_, rfl⟩, .inr ⟨trivial, hi', by rw [Nat.add_assoc]⟩⟩
  · rename_i cells e
    rw [e] at hx
    simp only [RelA] at hx
    obtain ⟨b, o, hx, hG, hr⟩ := hx
    refine wp_value (w' := C.w) (by simp [execOp, hx, hrun]; rfl) ((hk _ _ h).pure hg ?_)
    simp only [RelA]
    exact ⟨b, o + fd.offset, rfl, hG, hr.drop⟩
theorem so_field (hT : TbOk P T) (hg : Good base C) (ht : Tmps C tv a) (hk : ∀ v u, k v u = some r → Kont base C a dst next v u) {t : TypeId} {x : Operand} {f : Nat}
    (h : (match T.ty t, opnd tv x with
    | some ⟨.struct fs, _, _, _⟩, .agg cells => match nthF fs f with
      | some (off, ft) => match T.ty ft with
        | some j => if off + j.size ≤ cells.length then k (takeT j (cells.drop off)) [] else none
        | none => none
      | none => none
    | _, _ => none) = some r) : (Oper.mk dst (.field t x f) type pos after guard).wp P a C.w next Q := by
  have hx := opnd_rel ht x
  split at h <;> try (cases h; done)
  rename_i fs _ _ _ cells hi e
  split at h <;> try (cases h; done)
  rename_i off ft hf
  split at h <;> try (cases h; done)
  rename_i j hj
  split at h <;> try (cases h; done)
  rename_i hroom
  obtain ⟨fds, hu, hfd, _⟩ := (hT.ty _ _ hi).und
  have hfield : ∃ fd, fds[f]? = some fd ∧ fd.offset = off ∧ fd.type = ft := by
    unfold nthF at hf
    rw [← hfd, List.getElem?_map, Option.map_eq_some_iff] at hf
    obtain ⟨fd, h1, h2⟩ := hf
    cases h2
    exact ⟨fd, by simpa using h1, rfl, rfl⟩
  obtain ⟨fd, f1, rfl, rfl⟩ := hfield
  have htj := hT.ty _ _ hj
  rw [e] at hx
  simp only [RelA] at hx
  obtain ⟨vs, hx, h1, h2⟩ := hx
  have hlen := h2.len
  have hrel := takeT_rel (C := C) (i := j) htj.one (by simp; omega) (h2.drop (n := fd.offset)) (fun u hu => h1 u (List.mem_of_mem_drop hu))
  refine wp_value (w' := C.w) (v := if j.k.isAgg = true then .agg ((vs.drop fd.offset).take j.size).toArray else ((vs.drop fd.offset).take j.size).headD undef) ?_ ((hk _ _ h).pure hg hrel)
  by_cases hk' : j.k.isAgg = true
  · have hex : vs.toArray.extract fd.offset (fd.offset + j.size) = ((vs.drop fd.offset).take j.size).toArray := by
      rw [List.extract_toArray, List.extract_eq_take_drop]
      congr 2; omega
    simp [execOp, hx, Instr.field, run_underlying hu, f1, asAgg, part, run_isAgg_ti htj, hk', run_sizeOf_ti htj, hex]
  · have h0 : j.k.isAgg = false := by simpa using hk'
    have hs1 := htj.one h0
    have hlt : fd.offset < vs.length := by omega
    have hv : vs.toArray[fd.offset]? = some vs[fd.offset] := by simp [hlt]
    have hh : ((vs.drop fd.offset).take j.size).headD undef = vs[fd.offset] := by
      rw [hs1, List.drop_eq_getElem_cons hlt]; rfl
    rw [if_neg hk', hh]
    simp [execOp, hx, Instr.field, run_underlying hu, f1, asAgg, part, run_isAgg_ti htj, h0, hlt]
end
end Go.Proofs.YthanbjnpfenniaaDoor.Fw

namespace Go.Proofs.YthanbjnpfenniaaDoor.Fw
open Go Go.RowKit
set_option linter.unusedVariables false
set_option linter.unusedSimpArgs false

theorem inC_some {α : Type} {i n : Int} {x : Option α} {r : α} (h : inC i n x = some r) : 0 ≤ i ∧ i < n ∧ x = some r := by
  unfold inC at h
  split at h
  · split at h
    · exact ⟨by assumption, by assumption, h⟩
    · cases h
  · cases h
section
variable {P : Program} {T : Tb} {α : Type} {base : Nat} {C : Cx} {a : Act} {tv : Nat → AV} {nid : Nat} {next : Act → World → Prop} {Q : Exit → Act → World → Prop} {r : α} {k : AV → List (Nat × AO) → Option α}
variable {dst : Option Tmp} {type : TypeId} {pos : String} {after : Array Edge} {guard : Option (Nat × Bool)}

theorem run_indexAt_sl {t e : TypeId} (hu : P.underlying t = some (.slice e)) {w : World} {size : Nat} (hs : (sizeOf e).run P w = .ok size w) {b o len cap : Nat} {ki : IntKind} {i : Int} (h0 : 0 ≤ i) (h1 : i < (len : Int)) :
    (Instr.indexAt t (.slice (some ⟨b, o, none⟩) len cap) (.int ki i)).run P w = .ok (.pointer (some ⟨b, o + i.toNat * size, none⟩)) w := by
  simp [Instr.indexAt, asIntOf, run_underlying hu, h0, h1, hs, addr_add]
theorem run_indexAt_arr {t e : TypeId} {n : Nat} (hu : P.underlying t = some (.array n e)) {w : World} {size : Nat} (hs : (sizeOf e).run P w = .ok size w) {ad : Addr} {ki : IntKind} {i : Int} (h0 : 0 ≤ i) (h1 : i < (n : Int)) :
    (Instr.indexAt t (.pointer (some ad)) (.int ki i)).run P w = .ok (.pointer (some (ad.add (i.toNat * size)))) w := by
  simp [Instr.indexAt, asIntOf, run_underlying hu, Instr.sureAddr, h0, h1, hs]
theorem so_glb (hT : TbOk P T) (hg : Good base C) (hk : ∀ v u, k v u = some r → Kont base C a dst next v u) {t e : TypeId} {x ix : Operand} {n g : Nat} {ki : IntKind} {i : Int} (hu : P.underlying t = some (.array n e)) (hx : RelA C (.glb g) (a.eval x)) (hi : a.eval ix = .int ki i)
    (h : glbC T g n e i k = some r) : (Oper.mk dst (.indexAddr t x ix) type pos after guard).wp P a C.w next Q := by
  unfold glbC at h
  split at h <;> try (cases h; done)
  rename_i kd _ _ k' l hj hgt
  split at h <;> try (cases h; done)
  rename_i hkk
  subst hkk
  split at h <;> try (cases h; done)
  rename_i hln
  obtain ⟨h0, h1, h⟩ := inC_some h
  have htj := hT.ty _ _ hj
  have hsz := run_sizeOf_ti htj C.w
  simp only [RelA] at hx
  obtain ⟨hF, hel⟩ := hg.gl g k' l hgt
  refine wp_value (w' := C.w) (v := .pointer (some ⟨g, 0 + i.toNat * 1, none⟩)) (by simp [execOp, hx, hi, run_indexAt_arr hu hsz h0 h1, addr_add]) ((hk _ _ h).pure hg ?_)
  simp only [RelA]
  refine ⟨g, _, rfl, .inl hF, ?_⟩
  have hlt : i.toNat < l.length := by omega
  simp only [RelR]
  refine ⟨⟨.int k' (rd l i), ?_, rfl, by simp only [RelA]⟩, trivial⟩
  rw [Nat.zero_add, Nat.mul_one]
  refine hel _ _ ?_
  unfold rd
  rw [List.getD_eq_getElem?_getD, List.getElem?_eq_getElem hlt]; rfl
/-- The slice that stands in a cell of an element of ours. -/
theorem isl_facts (hg : Good base C) {o ver i c : Nat} {v : Value} {t : Ty} {l : List t.D} {kk : IntKind} {m : List Int} (hH : C.H o = .arr t l ver true) (hr : IslOk C o ver i c v) (hs : slAt t c (l.getD i t.dflt) = some (kk, m)) :
    0 < ver ∧ t.flat = false ∧ i < l.length ∧ C.w.cell? ⟨C.blk o, i * t.size + c, none⟩ = some v ∧ ((m = [] ∧ ∃ A, v = .slice A 0 0) ∨ ∃ b cap, v = .slice (some ⟨b, 0, none⟩) m.length cap) := by
  simp only [IslOk, hH] at hr
  obtain ⟨_, hr | ⟨_, hp, hf, hi, hcell⟩⟩ := hr
  · omega
  have hl : l ≠ [] := by intro e; subst e; simp at hi
  have hob := hg.ob o
  rw [hH] at hob
  simp only [ObjOk, ArrOk] at hob
  rcases hob with hob | ⟨_, cs, tid, hc, hel⟩
  · exact absurd hob.1 hl
  unfold ElemsOk at hel
  rw [if_pos rfl] at hel
  obtain ⟨ss, s1, s2, s3⟩ := hel
  have hgd : l.getD i t.dflt = l[i] := by rw [List.getD_eq_getElem?_getD, List.getElem?_eq_getElem hi]; rfl
  rw [hgd] at hs
  obtain ⟨us, u1, u2⟩ := s3 i _ (List.getElem?_eq_getElem hi)
  obtain ⟨v', v1, v2⟩ := u1.slAt hs
  have hv := u2 c v' v1
  have hcell' := hcell
  rw [cell_of_cells hc, hv] at hcell
  cases hcell
  refine ⟨hp, hf, hi, hcell', v2.imp id ?_⟩
  rintro ⟨_, b, cap, _, _, e, _⟩
  exact ⟨b, cap, e⟩
theorem so_isl (hT : TbOk P T) (hg : Good base C) (hk : ∀ v u, k v u = some r → Kont base C a dst next v u) {t e : TypeId} {ti : TI} {x ix : Operand} {o ver m c : Nat} {ki : IntKind} {i : Int} (hu : P.underlying t = some (.slice e)) (hti : TiOk P e ti) (hx : RelA C (.isl o ver m c) (a.eval x)) (hi : a.eval ix = .int ki i)
    (h : islC C.H ti.size o ver m c i k = some r) : (Oper.mk dst (.indexAddr t x ix) type pos after guard).wp P a C.w next Q := by
  have hsz := run_sizeOf_ti hti C.w
  unfold islC at h
  split at h <;> try (cases h; done)
  rename_i T' l cur dp hH
  split at h <;> try (cases h; done)
  rename_i hv
  subst hv
  split at h <;> try (cases h; done)
  rename_i hd
  subst hd
  split at h <;> try (cases h; done)
  rename_i hs1
  split at h <;> try (cases h; done)
  rename_i kk ml hs
  obtain ⟨h0, h1, h⟩ := inC_some h
  simp only [RelA] at hx
  obtain ⟨hp, hf, hlt, hcell, hv⟩ := isl_facts hg hH hx hs
  rcases hv with ⟨hm, _⟩ | ⟨b, cap, hv⟩
  · subst hm; simp at h1; omega
  rw [hv] at hcell
  refine wp_value (w' := C.w) (v := .pointer (some ⟨b, 0 + i.toNat * ti.size, none⟩)) (by simp [execOp, hv, hi, run_indexAt_sl hu hsz h0 h1]) ((hk _ _ h).pure hg ?_)
  simp only [RelA, IptrOk, hH]
  exact ⟨⟨_, rfl⟩, .inr ⟨trivial, hp, hf, hlt, b, _, _, hcell, by omega, by rw [hs1]; simp⟩⟩
theorem so_indexAddr (hT : TbOk P T) (hg : Good base C) (ht : Tmps C tv a) (hk : ∀ v u, k v u = some r → Kont base C a dst next v u) {t : TypeId} {x ix : Operand}
    (h : (match T.ty t, opnd tv ix with
    | some ⟨.slice e, _, _, _⟩, .int _ i => match T.ty e with
      | some j => match opnd tv x with
        | .sl d l => if j.size = d.size then inC i (l.length : Int) (k (.ref (toAVs d (l.getD i.toNat d.dflt))) []) else none
        | .osl o ver => match C.H o with
          | .arr d l cur _ => if cur = ver then (if j.size = d.size then inC i (l.length : Int) (k (.eptr o ver i.toNat 0) []) else none) else none
          | _ => none
        | .isl o ver m c => islC C.H j.size o ver m c i k
        | _ => none
      | none => none
    | some ⟨.array n e, _, _, _⟩, .int _ i => match opnd tv x with
      | .glb g => glbC T g n e i k
      | _ => none
    | _, _ => none) = some r) : (Oper.mk dst (.indexAddr t x ix) type pos after guard).wp P a C.w next Q := by
  have hx := opnd_rel ht x
  have hi := opnd_rel ht ix
  split at h <;> try (cases h; done)
  rotate_left
  · rename_i n e _ _ _ ki i e1 e2
    rw [e2] at hi; simp only [RelA] at hi
    have hu := (hT.ty _ _ e1).und
    simp only [undOk] at hu
    split at h <;> try (cases h; done)
    rename_i g e3
    rw [e3] at hx
    exact so_glb hT hg hk hu hx hi h
  rename_i e _ _ _ ki i e1 e2
  rw [e2] at hi; simp only [RelA] at hi
  have hu := (hT.ty _ _ e1).und
  simp only [undOk] at hu
  split at h <;> try (cases h; done)
  rename_i j hj
  have hsz := run_sizeOf_ti (hT.ty _ _ hj) C.w
  split at h <;> try (cases h; done)
  · rename_i d l e3
    split at h <;> try (cases h; done)
    rename_i hjs
    obtain ⟨h0, h1, h⟩ := inC_some h
    rw [e3] at hx
    simp only [RelA, RelD] at hx
    obtain ⟨A, c, hx, hc, hb⟩ := hx
    have hlt : i.toNat < l.length := by omega
    rcases hb with hb | ⟨b, o, hA, hF, hel⟩
    · subst hb; simp at hlt
    subst hA
    obtain ⟨us, u1, u2⟩ := hel i.toNat _ (List.getElem?_eq_getElem hlt)
    have hgd : l.getD i.toNat d.dflt = l[i.toNat] := by rw [List.getD_eq_getElem?_getD, List.getElem?_eq_getElem hlt]; rfl
    obtain ⟨m1, m2⟩ := u1.toAVs
    replace hx := (List.cons.inj hx).1
    refine wp_value (w' := C.w) (by simp [execOp, hx, hi, run_indexAt_sl hu hsz h0 h1]; rfl) ((hk _ _ h).pure hg ?_)
    simp only [RelA]
    rw [hgd]
    refine ⟨b, _, rfl, .inl hF, RelR.mk fun n y hy => ?_⟩
    obtain ⟨z, z1, z2⟩ := m1.get hy
    exact ⟨z, by rw [hjs]; exact u2 n z z1, m2 z (List.mem_of_getElem? z1), z2⟩
  · rename_i o ver e3
    split at h <;> try (cases h; done)
    rename_i d l cur dp hH
    split at h <;> try (cases h; done)
    rename_i hv
    subst hv
    split at h <;> try (cases h; done)
    rename_i hjs
    obtain ⟨h0, h1, h⟩ := inC_some h
    rw [e3] at hx
    simp only [RelA, OslOk, hH] at hx
    obtain ⟨_, hx | ⟨_, hx⟩⟩ := hx
    · omega
    have hlt : i.toNat < l.length := by omega
    rcases hx with ⟨hx, _⟩ | ⟨_, c, cs, tid, hx, _⟩
    · omega
    refine wp_value (w' := C.w) (by simp [execOp, hx, hi, run_indexAt_sl hu hsz h0 h1]; rfl) ((hk _ _ h).pure hg ?_)
    simp only [RelA, EptrOk, hH]
    exact ⟨⟨_, rfl⟩, .inr ⟨trivial, hlt, by rw [hjs]; simp⟩⟩
  · rename_i o ver m c e3
    rw [e3] at hx
    exact so_isl hT hg hk hu (hT.ty _ _ hj) hx hi h
theorem intsOf_rel {k' : IntKind} : ∀ {cells : List AV} {vs : List Value} {l : List Int}, intsOf k' cells = some l → RelL C cells vs → vs = l.map (fun n => Value.int k' n)
  | [], vs, l, h, hr => by simp [intsOf] at h; subst h; simpa [RelL] using hr
  | x :: r', vs, l, h, hr => by
    cases x <;> try (simp [intsOf] at h; done)
    rename_i k2 n
    simp only [intsOf] at h
    split at h <;> try (cases h; done)
    rename_i hk2
    subst hk2
    obtain ⟨l', h1, h2⟩ := Option.map_eq_some_iff.1 h
    subst h2
    simp only [RelL, RelA] at hr
    obtain ⟨v, vr, rfl, rfl, hr⟩ := hr
    simp [intsOf_rel h1 hr]
theorem so_index (hT : TbOk P T) (hg : Good base C) (ht : Tmps C tv a) (hk : ∀ v u, k v u = some r → Kont base C a dst next v u) {t : TypeId} {x ix : Operand}
    (h : (match T.ty t, opnd tv x, opnd tv ix with
    | some ⟨.array n e, _, _, _⟩, .agg cells, .int _ i => match T.ty e with
      | some ⟨.int kd, 1, _, _⟩ => match intsOf kd cells with
        | some l => if l.length = n then inC i (n : Int) (k (.int kd (rd l i)) []) else none
        | none => none
      | _ => none
    | some ⟨.str, _, _, _⟩, .str s, .int _ i => inC i (s.size : Int) (k (.int .u8 (strAt s i)) [])
    | _, _, _ => none) = some r) : (Oper.mk dst (.index t x ix) type pos after guard).wp P a C.w next Q := by
  have hx := opnd_rel ht x
  have hi := opnd_rel ht ix
  split at h <;> try (cases h; done)
  rotate_left
  · rename_i _ _ _ s ki i e1 e2 e3
    rw [e2] at hx; rw [e3] at hi; simp only [RelA] at hi hx
    have hu := (hT.ty _ _ e1).und
    simp only [undOk] at hu
    obtain ⟨h0, h1, h⟩ := inC_some h
    have h2 : i.toNat < s.size := by omega
    refine wp_value (w' := C.w) (v := .int .u8 (strAt s i)) ?_ ((hk _ _ h).pure hg (by simp only [RelA]))
    have e4 : (Instr.index t (.string s) (.int ki i)).run P C.w = .ok (.int .u8 (strAt s i)) C.w := by
      rw [run_index_string C.w t s ki i hu, dif_pos ⟨h0, h1⟩]
      simp only [strAt, ByteArray.getElem?_lt' _ _ h2, Option.getD_some]
    simp [execOp, hx, hi, e4]
  rename_i n e _ _ _ cells ki i e1 e2 e3
  rw [e2] at hx; rw [e3] at hi; simp only [RelA] at hi hx
  obtain ⟨vs, hx, _, hl⟩ := hx
  have hu := (hT.ty _ _ e1).und
  simp only [undOk] at hu
  split at h <;> try (cases h; done)
  rename_i kd _ _ hj
  have htj := hT.ty _ _ hj
  have hsz := run_sizeOf_ti htj C.w
  have hag := run_isAgg_ti htj C.w
  split at h <;> try (cases h; done)
  rename_i l hints
  split at h <;> try (cases h; done)
  rename_i hlen
  obtain ⟨h0, h1, h⟩ := inC_some h
  have hvs := intsOf_rel hints hl
  have hlt : i.toNat < l.length := by omega
  have hv : vs.toArray[i.toNat]? = some (.int kd (rd l i)) := by
    subst hvs
    simp only [List.getElem?_toArray, List.getElem?_map, List.getElem?_eq_getElem hlt, Option.map_some]
    unfold rd
    rw [List.getD_eq_getElem?_getD, List.getElem?_eq_getElem hlt]; rfl
  refine wp_value (w' := C.w) (v := .int kd (rd l i)) ?_ ((hk _ _ h).pure hg (by simp only [RelA]))
  simp [execOp, hx, hi, Instr.index, asIntOf, run_underlying hu, h0, h1, hsz, part, hag, TK.isAgg]
  simp at hv
  simp [hv]
theorem so_len (hT : TbOk P T) (hg : Good base C) (ht : Tmps C tv a) (hk : ∀ v u, k v u = some r → Kont base C a dst next v u) {cx : Call} {x : Operand} {t : TypeId} (hc : cx.callee = .builtin .len) (hxs : cx.args.toList = [x]) (hts : cx.argTypes.toList = [t])
    (h : (match T.ty t with
        | some ⟨.slice _, _, _, _⟩ => lenC C.H (opnd tv x) fun v => k v []
        | _ => none) = some r) : (Oper.mk dst (.call cx) type pos after guard).wp P a C.w next Q := by
  have hx := opnd_rel ht x
  have ha : cx.args = #[x] := by rw [← Array.toArray_toList (xs := cx.args), hxs]
  have hb : cx.argTypes = #[t] := by rw [← Array.toArray_toList (xs := cx.argTypes), hts]
  split at h <;> try (cases h; done)
  rename_i e _ _ _ e1
  have hu := (hT.ty _ _ e1).und
  simp only [undOk] at hu
  have fin : ∀ {n : Nat} {A : Option Addr} {c : Nat}, a.eval x = .slice A n c → k (.int .i64 (n : Int)) [] = some r → (Oper.mk dst (.call cx) type pos after guard).wp P a C.w next Q := by
    intro n A c h1 h2
    refine wp_value (w' := C.w) (v := .int .i64 (n : Int)) ?_ ((hk _ _ h2).pure hg (by simp only [RelA]))
    simp [execOp, resolve, hc, ha, hb, h1, invoke, builtin, Builtin.len_, run_underlying hu, goInt]
  unfold lenC at h
  split at h <;> try (cases h; done)
  · rename_i d l e2
    rw [e2] at hx
    simp only [RelA, RelD] at hx
    obtain ⟨A, c, hx, _⟩ := hx
    replace hx := (List.cons.inj hx).1
    exact fin hx h
  · rename_i e2
    rw [e2] at hx
    simp only [RelA] at hx
    obtain ⟨A, hx⟩ := hx
    exact fin (n := 0) hx h
  · rename_i o ver e2
    split at h <;> try (cases h; done)
    rename_i d l cur dp hH
    split at h <;> try (cases h; done)
    rename_i hv
    subst hv
    rw [e2] at hx
    simp only [RelA, OslOk, hH] at hx
    obtain ⟨_, hx | ⟨_, hx⟩⟩ := hx
    · omega
    rcases hx with ⟨h0, A, hx⟩ | ⟨_, c, cs, tid, hx, _⟩
    · rw [h0] at h; exact fin (n := 0) hx h
    · exact fin hx h
  · rename_i o ver i c e2
    split at h <;> try (cases h; done)
    rename_i d l cur dp hH
    split at h <;> try (cases h; done)
    rename_i hv
    subst hv
    split at h <;> try (cases h; done)
    rename_i hd
    subst hd
    split at h <;> try (cases h; done)
    rename_i kk m hs
    rw [e2] at hx
    simp only [RelA] at hx
    obtain ⟨_, _, _, _, hv⟩ := isl_facts hg hH hx hs
    rcases hv with ⟨hm, A, hv⟩ | ⟨b, cap, hv⟩
    · subst hm; exact fin (n := 0) hv h
    · exact fin hv h
theorem so_max (hg : Good base C) (ht : Tmps C tv a) (hk : ∀ v u, k v u = some r → Kont base C a dst next v u) {cx : Call} (hc : cx.callee = .builtin .max)
    (h : (match cx.args.toList.map (opnd tv) with
      | [.int k1 a, .int k2 b] => k (.int k1 (mx a b)) []
      | _ => none) = some r) : (Oper.mk dst (.call cx) type pos after guard).wp P a C.w next Q := by
  have hr := opnds_rel ht cx.args.toList
  split at h <;> try (cases h; done)
  rename_i k1 n1 k2 n2 e
  rw [e] at hr
  simp only [RelL, RelA] at hr
  obtain ⟨v, vr, h1, rfl, u, ur, rfl, rfl, rfl⟩ := hr
  refine wp_value (w' := C.w) (v := .int k1 (mx n1 n2)) ?_ ((hk _ _ h).pure hg (by simp only [RelA]))
  simp [execOp, resolve, hc, invoke, builtin, Builtin.max_, h1, Builtin.max2, mx]
theorem so_min (hg : Good base C) (ht : Tmps C tv a) (hk : ∀ v u, k v u = some r → Kont base C a dst next v u) {cx : Call} (hc : cx.callee = .builtin .min)
    (h : (match cx.args.toList.map (opnd tv) with
      | [.int k1 a, .int k2 b] => k (.int k1 (mn a b)) []
      | _ => none) = some r) : (Oper.mk dst (.call cx) type pos after guard).wp P a C.w next Q := by
  have hr := opnds_rel ht cx.args.toList
  split at h <;> try (cases h; done)
  rename_i k1 n1 k2 n2 e
  rw [e] at hr
  simp only [RelL, RelA] at hr
  obtain ⟨v, vr, h1, rfl, u, ur, rfl, rfl, rfl⟩ := hr
  refine wp_value (w' := C.w) (v := .int k1 (mn n1 n2)) ?_ ((hk _ _ h).pure hg (by simp only [RelA]))
  simp [execOp, resolve, hc, invoke, builtin, Builtin.min_, h1, Builtin.min2, mn]
end
end Go.Proofs.YthanbjnpfenniaaDoor.Fw

namespace Go.Proofs.YthanbjnpfenniaaDoor.Fw
open Go Go.RowKit
set_option linter.unusedVariables false
set_option linter.unusedSimpArgs false

section
variable {P : Program}
theorem run_bounds {w : World} {len cap : Nat} {low high max : Option Value} {l h m : Nat} (hl : (low = none ∧ l = 0) ∨ ∃ k, low = some (.int k (l : Int))) (hh : (high = none ∧ max = none ∧ h = len) ∨ ∃ k, high = some (.int k (h : Int)))
    (hm : (max = none ∧ m = cap) ∨ ∃ k, max = some (.int k (m : Int))) (h1 : l ≤ h) (h2 : h ≤ m) (h3 : m ≤ cap) : (Instr.sliceBounds true len cap low high max).run P w = .ok (l, h, m) w := by
  have e1 : (h : Int) ≤ (m : Int) := by omega
  have e2 : (l : Int) ≤ (h : Int) := by omega
  have e3 : (m : Int) ≤ (cap : Int) := by omega
  have e4 : (h : Int) ≤ (cap : Int) := by omega
  rcases hl with ⟨rfl, rfl⟩ | ⟨kl, rfl⟩ <;> rcases hh with ⟨rfl, rfl, rfl⟩ | ⟨kh, rfl⟩ <;> rcases hm with ⟨hm1, hm2⟩ | ⟨km, hm1⟩ <;> first | (cases hm1; done) | skip
  all_goals (try subst hm1) <;> (try subst hm2)
  all_goals simp_all [Instr.sliceBounds, Instr.sliceBound, asIntOf]
theorem RelD.part {F : Nat → Prop} {w : World} {e : Ty} {l : List e.D} {A : Option Addr} {c a b m : Nat} (h : RelD F w (.sl e) l [.slice A l.length c]) (h1 : a ≤ b) (h2 : b ≤ l.length) (h3 : b ≤ m) (h4 : m ≤ c) :
    RelD F w (.sl e) ((l.take b).drop a) [.slice (if m = a then A else A.map (·.add (a * e.size))) (b - a) (m - a)] := by
  simp only [RelD] at h ⊢
  obtain ⟨A', c', he, hc, h⟩ := h
  cases he
  have hlen : ((l.take b).drop a).length = b - a := by simp; omega
  refine ⟨_, _, by rw [hlen], by omega, ?_⟩
  by_cases hab : a = b
  · left; apply List.eq_nil_of_length_eq_zero; omega
  · rcases h with h | ⟨bb, o, rfl, hF, h⟩
    · subst h; simp at h2; omega
    · right
      rw [if_neg (by omega)]
      refine ⟨bb, o + a * e.size, by simp [addr_add], hF, fun i x hx => ?_⟩
      rw [List.getElem?_drop, List.getElem?_take] at hx
      split at hx <;> try (cases hx; done)
      obtain ⟨us, u1, u2⟩ := h _ _ hx
      refine ⟨us, u1, fun j u hj => ?_⟩
      have := u2 j u hj
      rwa [show o + (a + i) * e.size + j = o + a * e.size + i * e.size + j by rw [Nat.add_mul]; omega] at this
end

section
variable {P : Program} {T : Tb} {α : Type} {base : Nat} {C : Cx} {a : Act} {tv : Nat → AV} {nid : Nat} {next : Act → World → Prop} {Q : Exit → Act → World → Prop} {r : α} {k : AV → List (Nat × AO) → Option α}
variable {dst : Option Tmp} {type : TypeId} {pos : String} {after : Array Edge} {guard : Option (Nat × Bool)}

theorem bound_some (ht : Tmps C tv a) {o : Option Operand} {d n : Int} (h : bound tv o d = some n) : (o.map a.eval = none ∧ n = d) ∨ ∃ k, o.map a.eval = some (.int k n) := by
  unfold bound at h
  split at h
  · cases h; exact .inl ⟨rfl, rfl⟩
  · rename_i x
    split at h
    · rename_i k' n' e
      cases h
      have := opnd_rel ht x
      rw [e] at this
      simp only [RelA] at this
      exact .inr ⟨k', by simp [this]⟩
    · cases h
theorem so_cut (hT : TbOk P T) (hg : Good base C) (ht : Tmps C tv a) (hk : ∀ v u, k v u = some r → Kont base C a dst next v u) {t se : TypeId} {x : Operand} {lo hi mxo : Option Operand} {o ver : Nat} (hu : P.underlying t = some (.slice se)) (hx : opnd tv x = .osl o ver)
    (h : cutC T tv C.H se o ver lo hi mxo k = some r) : (Oper.mk dst (.slice t x lo hi mxo) type pos after guard).wp P a C.w next Q := by
  have hr := opnd_rel ht x
  rw [hx] at hr
  unfold cutC at h
  split at h <;> try (cases h; done)
  rename_i hh mm
  split at h <;> try (cases h; done)
  rename_i k1 b k2 c e1 e2
  split at h <;> try (cases h; done)
  rename_i d l cur dp hH
  split at h <;> try (cases h; done)
  rename_i hv
  subst hv
  split at h <;> try (cases h; done)
  rename_i hfl
  split at h <;> try (cases h; done)
  rename_i hse
  split at h <;> try (cases h; done)
  rename_i hbc
  subst hbc
  split at h <;> try (cases h; done)
  rename_i h0
  split at h <;> try (cases h; done)
  rename_i hl
  obtain ⟨j, hj, hjs⟩ := Option.map_eq_some_iff.1 hse
  have hsz := run_sizeOf_ti (hT.ty _ _ hj) C.w
  obtain ⟨p, rfl⟩ := Int.eq_ofNat_of_zero_le h0
  have hpl : p ≤ l.length := by omega
  have v1 := opnd_rel ht hh
  have v2 := opnd_rel ht mm
  rw [e1] at v1
  rw [e2] at v2
  simp only [RelA] at v1 v2 hr
  have hob := hg.ob o
  rw [hH] at hob
  simp only [ObjOk, ArrOk] at hob
  simp only [OslOk, hH] at hr
  obtain ⟨_, hr | ⟨_, hr⟩⟩ := hr
  · omega
  have own0 : C.own o = [] := by
    rcases hob with hob | ⟨_, cs, tid, _, hel⟩
    · exact hob.2
    · unfold ElemsOk at hel
      split at hel
      · obtain ⟨ss, s1, s2, s3⟩ := hel
        rw [s1, List.flatten_eq_nil_iff]
        intro S hS
        obtain ⟨i, hi⟩ := List.getElem?_of_mem hS
        have hil : i < l.length := by rw [← s2]; exact (List.getElem?_eq_some_iff.1 hi).1
        obtain ⟨us, u1, _⟩ := s3 i _ (List.getElem?_eq_getElem hil)
        have := u1.flat hfl
        simpa [List.getD_eq_getElem?_getD, hi] using this
      · exact hel.1
  -- the value
  obtain ⟨A, len, cap, hval, hlen, hcap⟩ : ∃ A len cap, a.eval x = .slice A len cap ∧ len = l.length ∧ len ≤ cap := by
    rcases hr with ⟨q, A, hq⟩ | ⟨_, c, cs, tid, hq, q1, _⟩
    · exact ⟨A, 0, 0, hq, q.symm, Nat.le_refl _⟩
    · exact ⟨_, _, c, hq, rfl, q1⟩
  have hb := run_bounds (P := P) (w := C.w) (len := len) (cap := cap) (low := none) (high := some (.int k1 (p : Int))) (max := some (.int k2 (p : Int))) (l := 0) (h := p) (m := p) (.inl ⟨rfl, rfl⟩) (.inr ⟨k1, rfl⟩) (.inr ⟨k2, rfl⟩) (by omega) (Nat.le_refl _) (by omega)
  have hrun : (execOp a.eval (Oper.mk dst (.slice t x none (some hh) (some mm)) type pos after guard)).run P C.w = .ok (.value (.slice (if p = 0 then A else A.map (·.add (0 * d.size))) p p)) C.w := by
    have : (Instr.slice t (.slice A len cap) none (some (.int k1 (p : Int))) (some (.int k2 (p : Int)))).run P C.w = .ok (.slice (if p = 0 then A else A.map (·.add (0 * d.size))) p p) C.w := by
      simp [Instr.slice, run_underlying hu, hb, hsz, hjs]
    simp [execOp, Instr.sliceAt, run_underlying hu, hval, v1, v2, this]
  let C' : Cx := { C with H := upd C.H o (.arr d (l.take p) (cur + 1) dp) }
  have hbk : ∀ q b, b ∈ blks C' q → b ∈ blks C q := by
    intro q b hb'
    by_cases hq : q = o
    · subst hq
      simp only [blks, C', upd_same] at hb'
      split at hb'
      · cases hb'
      · rename_i hne
        simp only [blks, hH]
        have : ¬ (l.isEmpty = true) := by
          intro he
          rw [List.isEmpty_iff] at he
          subst he
          simp at hne
        rw [if_neg this]; exact hb'
    · have hsame : blks C' q = blks C q := blks_same (C := C) (C' := C') (by show upd C.H o _ q = C.H q; exact upd_ne _ _ hq) rfl rfl
      rwa [hsame] at hb'
  have hext : Ext C C' := by
    refine ⟨fun _ h => h, fun _ h => h, fun _ _ => rfl, fun q => ?_⟩
    by_cases hq : q = o
    · subst hq
      simp only [ObjExt, hH, C', upd_same]
      exact .inl (Nat.lt_succ_self _)
    · exact ObjExt.same (by simp [C', upd_ne _ _ hq]) rfl fun _ _ => rfl
  have hgood : Good base C' := by
    refine ⟨fun q => ?_, fun q b hb' => hg.low q b (hbk q b hb'), fun q => ?_, fun q q' b hqq h1 h2 => hg.dj q q' b hqq (hbk q b h1) (hbk q' b h2), hg.fz, hg.gz, hg.gl⟩
    · by_cases hq : q = o
      · subst hq
        show ObjOk _ q (upd C.H q _ q)
        rw [upd_same]
        simp only [ObjOk, ArrOk]
        by_cases hl0 : l.take p = []
        · exact .inl ⟨hl0, own0⟩
        · refine .inr ⟨hl0, ?_⟩
          rcases hob with hob | ⟨_, cs, tid, hc, hel⟩
          · rw [hob.1] at hl0; simp at hl0
          · refine ⟨cs, tid, hc, ?_⟩
            unfold ElemsOk at hel ⊢
            split at hel
            · rename_i hd
              rw [if_pos hd]
              obtain ⟨ss, s1, s2, s3⟩ := hel
              refine ⟨ss.take p, ?_, by simp [s2], fun i y hy => ?_⟩
              · show C.own q = _
                rw [own0]
                symm
                rw [List.flatten_eq_nil_iff]
                intro S hS
                have hS' := List.mem_of_mem_take hS
                rw [own0] at s1
                exact (List.flatten_eq_nil_iff.1 s1.symm) S hS'
              · rw [List.getElem?_take] at hy
                split at hy <;> try (cases hy; done)
                rename_i hip
                obtain ⟨us, u1, u2⟩ := s3 i y hy
                refine ⟨us, ?_, u2⟩
                have : (ss.take p).getD i [] = ss.getD i [] := by simp only [List.getD_eq_getElem?_getD, List.getElem?_take, if_pos hip]
                rw [this]; exact u1
            · rename_i hd
              rw [if_neg hd]
              refine ⟨hel.1, fun i y hy => ?_⟩
              rw [List.getElem?_take] at hy
              split at hy <;> try (cases hy; done)
              exact hel.2 i y hy
      · show ObjOk _ q (upd C.H o _ q)
        rw [upd_ne _ _ hq]
        exact (hg.ob q).same hext rfl rfl rfl fun _ _ => rfl
    · by_cases hq : q = o
      · subst hq
        simp only [blks, C', upd_same]
        split
        · exact List.nodup_nil
        · rename_i hne
          have := hg.nd q
          simp only [blks, hH] at this
          have hne' : ¬ (l.isEmpty = true) := by
            intro he
            rw [List.isEmpty_iff] at he
            subst he
            simp at hne
          rw [if_neg hne'] at this
          exact this
      · have hsame : blks C' q = blks C q := blks_same (C := C) (C' := C') (by show upd C.H o _ q = C.H q; exact upd_ne _ _ hq) rfl rfl
        rw [hsame]; exact hg.nd q
  have := hk _ _ h C' (.slice (if p = 0 then A else A.map (·.add (0 * d.size))) p p) hgood ⟨hext, Nat.le_refl _, Below.refl _ _, fun _ h => .inl h, fun _ h => h⟩ rfl ?_
  · unfold Oper.wp; rw [hrun]; exact this
  · simp only [RelA, OslOk, C', upd_same]
    refine ⟨⟨_, _, _, rfl⟩, .inr ⟨trivial, ?_⟩⟩
    have hlt : (l.take p).length = p := by simp; omega
    rw [hlt]
    by_cases hp0 : p = 0
    · subst hp0
      exact .inl ⟨rfl, _, rfl⟩
    · refine .inr ⟨hp0, ?_⟩
      rcases hr with ⟨q, _⟩ | ⟨_, c, cs, tid, hq, q1, q2, q3⟩
      · omega
      · rw [hval] at hq
        cases hq
        refine ⟨p, cs, tid, ?_, Nat.le_refl _, q2, Nat.le_trans (Nat.mul_le_mul_right _ (by omega)) q3⟩
        rw [if_neg hp0]
        simp [Addr.add]
theorem slice_part (hT : TbOk P T) (ht : Tmps C tv a) {F : Nat → Prop} {t se : TypeId} {x : Operand} {lo hi mxo : Option Operand} {e : Ty} {l : List e.D} (hu : P.underlying t = some (.slice se)) (hse : (T.ty se).map TI.size = some e.size)
    (hmx : ¬ ((mxo.isSome && hi.isNone) = true)) {n1 n2 n3 : Int} (b1 : bound tv lo 0 = some n1) (b2 : bound tv hi (l.length : Int) = some n2) (b3 : bound tv mxo (l.length : Int) = some n3) (c1 : 0 ≤ n1) (c2 : n1 ≤ n2) (c3 : n2 ≤ n3) (c4 : n3 ≤ (l.length : Int))
    (hx : RelD F C.w (.sl e) l [a.eval x]) : ∃ val, (execOp a.eval (Oper.mk dst (.slice t x lo hi mxo) type pos after guard)).run P C.w = .ok (.value val) C.w ∧ RelD F C.w (.sl e) ((l.take n2.toNat).drop n1.toNat) [val] := by
  obtain ⟨j, hj, hjs⟩ := Option.map_eq_some_iff.1 hse
  have hsz := run_sizeOf_ti (hT.ty _ _ hj) C.w
  have d1 := bound_some ht b1
  have d2 := bound_some ht b2
  have d3 := bound_some ht b3
  have hx' := hx
  simp only [RelD] at hx'
  obtain ⟨A, c, hv, hc, _⟩ := hx'
  replace hv := (List.cons.inj hv).1
  rw [hv] at hx
  obtain ⟨p1, rfl⟩ := Int.eq_ofNat_of_zero_le c1
  obtain ⟨p2, rfl⟩ := Int.eq_ofNat_of_zero_le (show 0 ≤ n2 by omega)
  have hfin : ∀ (m : Nat), ((mxo.map a.eval = none ∧ m = c) ∨ ∃ k, mxo.map a.eval = some (.int k (m : Int))) → p2 ≤ m → m ≤ c → ∃ val, (execOp a.eval (Oper.mk dst (.slice t x lo hi mxo) type pos after guard)).run P C.w = .ok (.value val) C.w ∧ RelD F C.w (.sl e) ((l.take ((p2 : Int)).toNat).drop ((p1 : Int)).toNat) [val] := by
    intro m hm hpm hmc
    have hb := run_bounds (P := P) (w := C.w) (len := l.length) (cap := c) (low := lo.map a.eval) (high := hi.map a.eval) (max := mxo.map a.eval) (l := p1) (h := p2) (m := m)
      (by rcases d1 with ⟨q1, q2⟩ | q
          · exact .inl ⟨q1, by omega⟩
          · exact .inr q)
      (by rcases d2 with ⟨q1, q2⟩ | q
          · refine .inl ⟨q1, ?_, by omega⟩
            cases mxo with
            | none => rfl
            | some y => cases hi with
              | none => simp at hmx
              | some z => simp at q1
          · exact .inr q)
      hm (by omega) hpm hmc
    refine ⟨.slice (if m = p1 then A else A.map (·.add (p1 * e.size))) (p2 - p1) (m - p1), ?_, ?_⟩
    · have : (Instr.slice t (.slice A l.length c) (lo.map a.eval) (hi.map a.eval) (mxo.map a.eval)).run P C.w = .ok (.slice (if m = p1 then A else A.map (·.add (p1 * e.size))) (p2 - p1) (m - p1)) C.w := by
        simp [Instr.slice, run_underlying hu, hb, hsz, hjs]
      simp [execOp, Instr.sliceAt, run_underlying hu, hv, this]
    · simp only [Int.toNat_natCast]
      exact RelD.part hx (by omega) (by omega) hpm hmc
  rcases d3 with ⟨q1, q2⟩ | ⟨km, q⟩
  · exact hfin c (.inl ⟨q1, rfl⟩) (by omega) (Nat.le_refl _)
  · obtain ⟨p3, rfl⟩ := Int.eq_ofNat_of_zero_le (show 0 ≤ n3 by omega)
    exact hfin p3 (.inr ⟨km, q⟩) (by omega) (by omega)
theorem To.give (hg : Good base C) (ids : List Nat) : To base C (C.give ids) :=
  ⟨Ext.give hg ids, Nat.le_refl _, Below.refl _ _, fun b h => by
    rcases h with h | ⟨o, _, hb⟩
    · exact .inl h
    · exact .inr (hg.low o b hb).1, fun _ h => h⟩
theorem so_let (hT : TbOk P T) (hg : Good base C) (ht : Tmps C tv a) (hk : ∀ v u, k v u = some r → Kont base C a dst next v u) {t se : TypeId} {x : Operand} {lo hi : Option Operand} {o ver : Nat} (hu : P.underlying t = some (.slice se)) (e2 : opnd tv x = .osl o ver)
    (h : letC T tv C.H se o ver lo hi k = some r) : (Oper.mk dst (.slice t x lo hi none) type pos after guard).wp P a C.w next Q := by
  have hx := opnd_rel ht x
  rw [e2] at hx
  unfold letC at h
  split at h <;> try (cases h; done)
  rename_i d l cur dp hH
  split at h <;> try (cases h; done)
  rename_i hcur
  split at h <;> try (cases h; done)
  rename_i hse
  split at h <;> try (cases h; done)
  rename_i n1 n2 b1 b2
  split at h <;> try (cases h; done)
  rename_i c1
  split at h <;> try (cases h; done)
  rename_i c2
  split at h <;> try (cases h; done)
  rename_i c3
  subst hcur
  simp only [RelA] at hx
  have hD : RelD (C.give [o]).F C.w (.sl d) l [a.eval x] := arr_D hg hH hx (fun b hb => .inl hb) (fun b hb => .inr ⟨o, by simp, hb⟩)
  obtain ⟨val, v1, v2⟩ := slice_part (dst := dst) (type := type) (pos := pos) (after := after) (guard := guard) (mxo := none) hT ht hu hse (by simp) b1 b2 rfl c1 c2 c3 (Int.le_refl _) hD
  have hH' : (C.give [o]).H = updU [(o, .dead)] C.H := by
    funext q
    show (C.drop [o]).H q = _
    simp only [Cx.drop, updU]
    by_cases hq : q = o
    · subst hq
      rw [if_pos (by simp), hH]
      simp [upd]
    · rw [if_neg (by simpa using hq)]
      simp [upd, hq]
  exact wp_value v1 (hk _ _ h (C.give [o]) val (Good.give hg [o]) (To.give hg [o]) hH' (by simp only [RelA]; exact v2))
theorem so_slice (hT : TbOk P T) (hg : Good base C) (ht : Tmps C tv a) (hk : ∀ v u, k v u = some r → Kont base C a dst next v u) {t : TypeId} {x : Operand} {lo hi mxo : Option Operand}
    (h : (match T.ty t, opnd tv x with
    | some ⟨.slice se, _, _, _⟩, .sl e l => if (T.ty se).map TI.size = some e.size then match (if mxo.isSome && hi.isNone then none else bound tv lo 0), bound tv hi (l.length : Int), bound tv mxo (l.length : Int) with
      | some a, some b, some m => if 0 ≤ a then (if a ≤ b then (if b ≤ m then (if m ≤ (l.length : Int) then k (.sl e ((l.take b.toNat).drop a.toNat)) [] else none) else none) else none) else none
      | _, _, _ => none else none
    | some ⟨.slice se, _, _, _⟩, .osl o ver => match mxo with
      | some m => cutC T tv C.H se o ver lo hi (some m) k
      | none => letC T tv C.H se o ver lo hi k
    | _, _ => none) = some r) : (Oper.mk dst (.slice t x lo hi mxo) type pos after guard).wp P a C.w next Q := by
  have hx := opnd_rel ht x
  split at h <;> try (cases h; done)
  rotate_left
  · rename_i se _ _ _ o ver e1 e2
    have hu := (hT.ty _ _ e1).und
    simp only [undOk] at hu
    split at h
    · exact so_cut hT hg ht hk hu e2 h
    · exact so_let hT hg ht hk hu e2 h
  rename_i se _ _ _ e l e1 e2
  have hu := (hT.ty _ _ e1).und
  simp only [undOk] at hu
  split at h <;> try (cases h; done)
  rename_i hse
  split at h <;> try (cases h; done)
  rename_i n1 n2 n3 b1 b2 b3
  split at b1 <;> try (cases b1; done)
  rename_i hmx
  split at h <;> try (cases h; done)
  rename_i c1
  split at h <;> try (cases h; done)
  rename_i c2
  split at h <;> try (cases h; done)
  rename_i c3
  split at h <;> try (cases h; done)
  rename_i c4
  rw [e2] at hx
  simp only [RelA] at hx
  obtain ⟨val, v1, v2⟩ := slice_part (dst := dst) (type := type) (pos := pos) (after := after) (guard := guard) hT ht hu hse hmx b1 b2 b3 c1 c2 c3 c4 hx
  exact wp_value v1 ((hk _ _ h).pure hg (by simp only [RelA]; exact v2))

/-! ### append -/
theorem run_append_room2 {t t2 e e2 : TypeId} {q : TypeInfo} (ht : P.underlying t = some (.slice e)) (ht2 : P.underlying t2 = some (.slice e2)) (hi : P.info? e = some q) {w w' : World} {base : Option Addr} {sLen sCap : Nat} {x : Value} {n c : Nat} {A : Option Addr} (hx : x = .slice A n c) {news : List Value} {ty : TypeId}
    (hroom : sLen + n ≤ sCap) (hf : (Builtin.firstCells q.size n x).run P w = .ok news.toArray w)
    (hst : (match base with | some a => storeCells (a.add (sLen * q.size)) news | none => Pure.pure ()).run P w = .ok () w') :
    (Builtin.append_ #[t, t2] ty #[.slice base sLen sCap, x]).run P w = .ok (.slice base (sLen + n) sCap) w' := by
  subst hx
  cases base with
  | none =>
    simp at hst
    subst hst
    simp [Builtin.append_, run_underlying ht, run_underlying ht2, sizeOf, typeInfo, hi, Builtin.lenOf, hroom, hf]
  | some b => simp [Builtin.append_, run_underlying ht, run_underlying ht2, sizeOf, typeInfo, hi, Builtin.lenOf, hroom, hf, hst]
theorem run_append_grow2 {t t2 e e2 : TypeId} {q : TypeInfo} {z : Value} (ht : P.underlying t = some (.slice e)) (ht2 : P.underlying t2 = some (.slice e2)) (hi : P.info? e = some q) (hz : q.zero = some z) {w : World} {base : Option Addr} {sLen sCap : Nat} {x : Value} {n c : Nat} {A : Option Addr} (hx : x = .slice A n c) {olds news : List Value} {ty : TypeId}
    (hg : sCap < sLen + n) (h63 : sLen + n < 1099511627776) (hby : q.bytes ≤ 128)
    (hfo : (Builtin.firstCells q.size sLen (.slice base sLen sCap)).run P w.drew = .ok olds.toArray w.drew) (hf : (Builtin.firstCells q.size n x).run P w.drew = .ok news.toArray w.drew) :
    (Builtin.append_ #[t, t2] ty #[.slice base sLen sCap, x]).run P w = .ok (.slice (some ⟨w.heap.size, 0, none⟩) (sLen + n) (grownCap w (sLen + n) sCap e))
      (w.drew.alloc (.cells (olds.toArray ++ news.toArray ++ Builtin.zeroCells z.cells (grownCap w (sLen + n) sCap e - (sLen + n))) e)) := by
  subst hx
  have hn : ¬ (sLen + n ≤ sCap) := by omega
  have h63' : ¬ (9223372036854775807 < ((sLen : Int) + (n : Int))) := by omega
  have hfit : Builtin.nextslicecap (sLen + n) sCap * q.bytes ≤ 281474976710656 := by
    have h1 := nextslicecap_le hg
    have h2 : Builtin.nextslicecap (sLen + n) sCap * q.bytes ≤ (2 * (sLen + n)) * 128 := Nat.mul_le_mul h1 hby
    omega
  have h48' : ¬ (281474976710656 < Builtin.nextslicecap (sLen + n) sCap * q.bytes) := by omega
  simp [Builtin.append_, run_underlying ht, run_underlying ht2, sizeOf, typeInfo, zeroValue, hi, hz, Builtin.lenOf, hn, h63', h48', Question.forced, hf, hfo, newRow, grownCap]
  congr 2
  apply Array.ext'
  simp [List.append_assoc]
theorem grownCap_ge (w : World) {need old : Nat} (e : TypeId) : need ≤ grownCap w need old e := by
  show need ≤ need + _
  omega

/-! ### what is appended -/
/-- Elements in a list of cells, theirs or not. -/
def ElemsL (C : Cx) (t : Ty) (l : List t.D) (dp : Bool) (S : List Nat) (cs : List Value) : Prop :=
  if dp = true then ∃ ss : List (List Nat), S = ss.flatten ∧ ss.length = l.length ∧ ∀ i x, l[i]? = some x → ∃ us, RelX C.w t x us (ss.getD i []) ∧ ∀ j u, us[j]? = some u → cs[i * t.size + j]? = some u
  else S = [] ∧ ∀ i x, l[i]? = some x → ∃ us, RelD C.F C.w t x us ∧ ∀ j u, us[j]? = some u → cs[i * t.size + j]? = some u
theorem ElemsL.flat {C : Cx} {t : Ty} {l : List t.D} {dp dp' : Bool} {S : List Nat} {cs : List Value} (hf : t.flat = true) (h : ElemsL C t l dp S cs) : S = [] ∧ ElemsL C t l dp' [] cs := by
  have key : S = [] ∧ ∀ i x, l[i]? = some x → ∃ us, RelX C.w t x us [] ∧ ∀ j u, us[j]? = some u → cs[i * t.size + j]? = some u := by
    unfold ElemsL at h
    split at h
    · obtain ⟨ss, h1, h2, h3⟩ := h
      constructor
      · rw [h1, List.flatten_eq_nil_iff]
        intro s hs
        obtain ⟨m, hm, rfl⟩ := List.mem_iff_getElem.1 hs
        obtain ⟨zs, c1, _⟩ := h3 m _ (List.getElem?_eq_getElem (show m < l.length by omega))
        have := c1.flat hf
        rwa [List.getD_eq_getElem?_getD, List.getElem?_eq_getElem hm] at this
      · intro i x hx
        obtain ⟨us, u1, u2⟩ := h3 i x hx
        rw [u1.flat hf] at u1
        exact ⟨us, u1, u2⟩
    · refine ⟨h.1, fun i x hx => ?_⟩
      obtain ⟨us, u1, u2⟩ := h.2 i x hx
      exact ⟨us, u1.flat _ hf, u2⟩
  refine ⟨key.1, ?_⟩
  unfold ElemsL
  split
  · refine ⟨List.replicate l.length [], by simp, by simp, fun i x hx => ?_⟩
    obtain ⟨us, u1, u2⟩ := key.2 i x hx
    refine ⟨us, ?_, u2⟩
    rw [List.getD_eq_getElem?_getD, List.getElem?_replicate, if_pos (List.getElem?_eq_some_iff.1 hx).1]
    exact u1
  · refine ⟨rfl, fun i x hx => ?_⟩
    obtain ⟨us, u1, u2⟩ := key.2 i x hx
    exact ⟨us, u1.toD (fun b hb => by cases hb), u2⟩
theorem ElemsL.mono {C : Cx} {t : Ty} {l : List t.D} {dp : Bool} {S : List Nat} {cs cs' : List Value} (h : ElemsL C t l dp S cs) (hc : ∀ (j : Nat) u, j < l.length * t.size → cs[j]? = some u → cs'[j]? = some u) : ElemsL C t l dp S cs' := by
  have bd : ∀ {i j : Nat} {x : t.D} {us : List Value} {u : Value}, l[i]? = some x → us.length = t.size → us[j]? = some u → i * t.size + j < l.length * t.size := by
    intro i j x us u hi hl hj
    have h1 : i < l.length := (List.getElem?_eq_some_iff.1 hi).1
    have h2 : j < us.length := (List.getElem?_eq_some_iff.1 hj).1
    have : (i + 1) * t.size ≤ l.length * t.size := Nat.mul_le_mul_right _ h1
    rw [Nat.add_mul] at this; omega
  unfold ElemsL at h ⊢
  split at h
  · rename_i hd
    rw [if_pos hd]
    obtain ⟨ss, h1, h2, h3⟩ := h
    refine ⟨ss, h1, h2, fun i x hx => ?_⟩
    obtain ⟨us, u1, u2⟩ := h3 i x hx
    exact ⟨us, u1, fun j u hj => hc _ _ (bd hx u1.len hj) (u2 j u hj)⟩
  · rename_i hd
    rw [if_neg hd]
    refine ⟨h.1, fun i x hx => ?_⟩
    obtain ⟨us, u1, u2⟩ := h.2 i x hx
    exact ⟨us, u1, fun j u hj => hc _ _ (bd hx u1.len hj) (u2 j u hj)⟩
theorem ElemsL.append {C : Cx} {t : Ty} {l m : List t.D} {dp : Bool} {S S' : List Nat} {cs ds : List Value} (h : ElemsL C t l dp S cs) (k : ElemsL C t m dp S' ds) (hl : cs.length = l.length * t.size) : ElemsL C t (l ++ m) dp (S ++ S') (cs ++ ds) := by
  unfold ElemsL at h k ⊢
  have put : ∀ {i : Nat} {x : t.D} {P : Nat → List Value → Prop}, (l ++ m)[i]? = some x → (∀ i x, l[i]? = some x → ∃ us, P i us ∧ us.length = t.size ∧ ∀ j u, us[j]? = some u → cs[i * t.size + j]? = some u) → True := fun _ _ => trivial
  have left : ∀ {i j : Nat} {us : List Value} {u : Value}, i < l.length → us.length = t.size → us[j]? = some u → cs[i * t.size + j]? = some u → (cs ++ ds)[i * t.size + j]? = some u := by
    intro i j us u hi hz hj hc
    rw [List.getElem?_append_left (List.getElem?_eq_some_iff.1 hc).1]; exact hc
  have right : ∀ {i j : Nat} {u : Value}, ds[i * t.size + j]? = some u → (cs ++ ds)[(l.length + i) * t.size + j]? = some u := by
    intro i j u hc
    rw [List.getElem?_append_right (by rw [hl, Nat.add_mul]; omega), hl, show (l.length + i) * t.size + j - l.length * t.size = i * t.size + j by rw [Nat.add_mul]; omega]
    exact hc
  split at h
  · rename_i hd
    rw [if_pos hd] at k ⊢
    obtain ⟨ss, h1, h2, h3⟩ := h
    obtain ⟨rr, k1, k2, k3⟩ := k
    refine ⟨ss ++ rr, by rw [h1, k1, List.flatten_append], by simp [h2, k2], fun i x hx => ?_⟩
    by_cases hi : i < l.length
    · rw [List.getElem?_append_left hi] at hx
      obtain ⟨us, u1, u2⟩ := h3 i x hx
      refine ⟨us, ?_, fun j u hj => left hi u1.len hj (u2 j u hj)⟩
      rw [List.getD_eq_getElem?_getD, List.getElem?_append_left (by omega), ← List.getD_eq_getElem?_getD]; exact u1
    · obtain ⟨d, rfl⟩ : ∃ d, i = l.length + d := ⟨i - l.length, by omega⟩
      rw [List.getElem?_append_right (by omega), show l.length + d - l.length = d by omega] at hx
      obtain ⟨us, u1, u2⟩ := k3 d x hx
      refine ⟨us, ?_, fun j u hj => right (u2 j u hj)⟩
      rw [List.getD_eq_getElem?_getD, List.getElem?_append_right (by omega), show l.length + d - ss.length = d by omega, ← List.getD_eq_getElem?_getD]; exact u1
  · rename_i hd
    rw [if_neg hd] at k ⊢
    refine ⟨by rw [h.1, k.1]; rfl, fun i x hx => ?_⟩
    by_cases hi : i < l.length
    · rw [List.getElem?_append_left hi] at hx
      obtain ⟨us, u1, u2⟩ := h.2 i x hx
      exact ⟨us, u1, fun j u hj => left hi u1.len hj (u2 j u hj)⟩
    · obtain ⟨d, rfl⟩ : ∃ d, i = l.length + d := ⟨i - l.length, by omega⟩
      rw [List.getElem?_append_right (by omega), show l.length + d - l.length = d by omega] at hx
      obtain ⟨us, u1, u2⟩ := k.2 d x hx
      exact ⟨us, u1, fun j u hj => right (u2 j u hj)⟩
theorem ElemsL.ofIn {C : Cx} {t : Ty} {l : List t.D} {dp : Bool} {S : List Nat} {cs : Array Value} (h : ElemsL C t l dp S cs.toList) : ElemsIn C t l dp S cs := by
  unfold ElemsL at h
  unfold ElemsIn
  simpa using h
/-- An array that is ours: its header, its elements' cells. -/
theorem arr_L (hg : Good base C) {o : Nat} {t : Ty} {l : List t.D} {ver : Nat} {dp : Bool} {v : Value} (hH : C.H o = .arr t l ver dp) (hv : OslOk C o ver v) :
    ∃ A c cs, v = .slice A l.length c ∧ l.length ≤ c ∧ cs.length = l.length * t.size ∧ ElemsL C t l dp (C.own o) cs ∧ (∀ u ∈ cs, u.oneCell' = true) ∧ ((l = [] ∧ c = 0 ∧ cs = []) ∨ (l ≠ [] ∧ A = some ⟨C.blk o, 0, none⟩ ∧
      ∃ full tid, C.w.heap[C.blk o]? = some (.cells full tid (0, 0)) ∧ c * t.size ≤ full.size ∧ full.toList.take (l.length * t.size) = cs)) := by
  have hb := hg.ob o
  simp only [OslOk, hH] at hv
  obtain ⟨_, hv | ⟨_, hv⟩⟩ := hv
  · omega
  rw [hH] at hb
  simp only [ObjOk, ArrOk] at hb
  by_cases hl : l = []
  · subst hl
    rcases hb with hb | hb
    · rcases hv with ⟨_, A, rfl⟩ | ⟨h0, _⟩
      · refine ⟨A, 0, [], rfl, Nat.le_refl _, by simp, ?_, by simp, .inl ⟨rfl, rfl, rfl⟩⟩
        unfold ElemsL
        rw [hb.2]
        split
        · exact ⟨[], rfl, rfl, fun i x hx => by simp at hx⟩
        · exact ⟨rfl, fun i x hx => by simp at hx⟩
      · simp at h0
    · exact absurd rfl hb.1
  · rcases hb with hb | ⟨_, full, tid, hc, he⟩
    · exact absurd hb.1 hl
    rcases hv with ⟨h0, _⟩ | ⟨_, c, cs', tid', rfl, h1, h2, h3⟩
    · exact absurd (List.eq_nil_of_length_eq_zero h0) hl
    rw [hc] at h2
    cases h2
    have hroom : l.length * t.size ≤ full.size := Nat.le_trans (Nat.mul_le_mul_right _ h1) h3
    have hel : ElemsL C t l dp (C.own o) full.toList := by
      unfold ElemsOk at he
      unfold ElemsL
      simpa using he
    have hel2 := hel.mono (cs' := full.toList.take (l.length * t.size)) (fun j u hj hu => by rw [List.getElem?_take, if_pos hj]; exact hu)
    refine ⟨_, c, _, rfl, h1, by simp; omega, hel2, ?_, .inr ⟨hl, rfl, full, tid, hc, h3, rfl⟩⟩
    intro u hu
    obtain ⟨m, hm, rfl⟩ := List.mem_iff_getElem.1 hu
    have hm' : m < l.length * t.size := by simp at hm; omega
    have hp := t.size_pos
    have hi : m / t.size < l.length := Nat.div_lt_of_lt_mul (by rw [Nat.mul_comm]; exact hm')
    have hmod : m % t.size < t.size := Nat.mod_lt _ hp
    have hdm : m / t.size * t.size + m % t.size = m := by rw [Nat.mul_comm]; exact Nat.div_add_mod m t.size
    have get : ∀ {us : List Value}, us.length = t.size → (∀ u ∈ us, u.oneCell' = true) → (∀ j u, us[j]? = some u → (full.toList.take (l.length * t.size))[m / t.size * t.size + j]? = some u) → ((full.toList.take (l.length * t.size))[m]).oneCell' = true := by
      intro us hz h1c hget
      have := hget (m % t.size) _ (List.getElem?_eq_getElem (by omega))
      rw [hdm, List.getElem?_eq_getElem hm] at this
      rw [Option.some.inj this]
      exact h1c _ (List.getElem_mem _)
    unfold ElemsL at hel2
    split at hel2
    · obtain ⟨ss, _, _, e3⟩ := hel2
      obtain ⟨us, u1, u2⟩ := e3 _ _ (List.getElem?_eq_getElem hi)
      exact get u1.len u1.onecell u2
    · obtain ⟨us, u1, u2⟩ := hel2.2 _ _ (List.getElem?_eq_getElem hi)
      exact get u1.len u1.onecell u2
end
end Go.Proofs.YthanbjnpfenniaaDoor.Fw

namespace Go.Proofs.YthanbjnpfenniaaDoor.Fw
open Go Go.RowKit
set_option linter.unusedVariables false
set_option linter.unusedSimpArgs false

theorem Free.sub {base : Nat} {C : Cx} {S S' : List Nat} (h : Free base C S) (hs : S'.Sublist S) : Free base C S' := ⟨h.1.sublist hs, fun b hb => h.2 b (hs.subset hb)⟩
/-- The cells of a slice that nobody writes. -/
theorem RelD.cells {F : Nat → Prop} {w : World} {t : Ty} {l : List t.D} {v : Value} (h : RelD F w (.sl t) l [v]) :
    ∃ A c cs, v = .slice A l.length c ∧ l.length ≤ c ∧ cs.length = l.length * t.size ∧ (∀ u ∈ cs, u.oneCell' = true) ∧ (∀ i x, l[i]? = some x → ∃ us, RelD F w t x us ∧ ∀ j u, us[j]? = some u → cs[i * t.size + j]? = some u) ∧
      ((l = [] ∧ cs = []) ∨ ∃ b o, A = some ⟨b, o, none⟩ ∧ ∀ j u, cs[j]? = some u → w.cell? ⟨b, o + j, none⟩ = some u) := by
  simp only [RelD] at h
  obtain ⟨A, c, hv, hc, h⟩ := h
  replace hv := (List.cons.inj hv).1
  rcases h with rfl | ⟨b, o, rfl, hF, h⟩
  · exact ⟨A, c, [], hv, hc, by simp, by simp, fun i x hx => by simp at hx, .inl ⟨rfl, rfl⟩⟩
  · have hp := t.size_pos
    have all : ∀ m, m < l.length * t.size → ∃ u, w.cell? ⟨b, o + m, none⟩ = some u ∧ u.oneCell' = true := by
      intro m hm
      have hi : m / t.size < l.length := Nat.div_lt_of_lt_mul (by rw [Nat.mul_comm]; exact hm)
      have hmod : m % t.size < t.size := Nat.mod_lt _ hp
      have hdm : m / t.size * t.size + m % t.size = m := by rw [Nat.mul_comm]; exact Nat.div_add_mod m t.size
      obtain ⟨us, u1, u2⟩ := h _ _ (List.getElem?_eq_getElem hi)
      have hz := u1.len
      have := u2 (m % t.size) _ (List.getElem?_eq_getElem (by omega))
      rw [Nat.add_assoc, hdm] at this
      exact ⟨_, this, u1.onecell _ (List.getElem_mem _)⟩
    refine ⟨_, c, (List.range (l.length * t.size)).map fun m => (w.cell? ⟨b, o + m, none⟩).getD undef, hv, hc, by simp, ?_, ?_, .inr ⟨b, o, rfl, ?_⟩⟩
    · intro u hu
      obtain ⟨m, hm, rfl⟩ := List.mem_map.1 hu
      obtain ⟨u', a1, a2⟩ := all m (List.mem_range.1 hm)
      rw [a1]; exact a2
    · intro i x hx
      obtain ⟨us, u1, u2⟩ := h i x hx
      refine ⟨us, u1, fun j u hj => ?_⟩
      have hi : i < l.length := (List.getElem?_eq_some_iff.1 hx).1
      have hj' : j < t.size := by rw [← u1.len]; exact (List.getElem?_eq_some_iff.1 hj).1
      have hlt : i * t.size + j < l.length * t.size := by
        have : (i + 1) * t.size ≤ l.length * t.size := Nat.mul_le_mul_right _ hi
        rw [Nat.add_mul] at this; omega
      have := u2 j u hj
      rw [Nat.add_assoc] at this
      rw [List.getElem?_map, List.getElem?_range hlt]
      simp [this]
    · intro j u hj
      have hj' : j < l.length * t.size := by have := (List.getElem?_eq_some_iff.1 hj).1; simpa using this
      rw [List.getElem?_map, List.getElem?_range hj'] at hj
      obtain ⟨u', a1, _⟩ := all j hj'
      simp only [Option.map_some, Option.some.injEq, a1, Option.getD_some] at hj
      rw [a1, hj]

section
variable {P : Program} {T : Tb} {α : Type} {base : Nat} {C : Cx} {a : Act} {tv : Nat → AV} {nid : Nat} {next : Act → World → Prop} {Q : Exit → Act → World → Prop} {r : α} {k : AV → List (Nat × AO) → Option α}
variable {dst : Option Tmp} {type : TypeId} {pos : String} {after : Array Edge} {guard : Option (Nat × Bool)}

theorem run_first {w : World} {size n c : Nat} {A : Option Addr} {cs : List Value} (hl : cs.length = n * size) (h : (n = 0 ∧ cs = []) ∨ ∃ b o, A = some ⟨b, o, none⟩ ∧ ∀ j u, cs[j]? = some u → w.cell? ⟨b, o + j, none⟩ = some u) :
    (Builtin.firstCells size n (.slice A n c)).run P w = .ok cs.toArray w := by
  rcases h with ⟨rfl, rfl⟩ | ⟨b, o, rfl, h⟩
  · cases A with
    | none => exact run_firstCells_none (P := P) w size 0 0 c
    | some ad => exact run_firstCells_some (P := P) w size 0 ad 0 c [] (by simp) (fun j v hj => by simp at hj)
  · exact run_firstCells_some (P := P) w size n _ n c cs hl (fun j v hj => by rw [addr_add]; exact h j v hj)
/-- What is appended. -/
theorem src_rel (hg : Good base C) {x : AV} {v : Value} {t : Ty} {l : List t.D} {own : Bool} {dies : List Nat} (hr : RelA C x v) (h : srcOf C.H x = .some t l own dies) :
    ∃ A c cs S, v = .slice A l.length c ∧ cs.length = l.length * t.size ∧ (∀ u ∈ cs, u.oneCell' = true) ∧ ElemsL C t l own S cs ∧ Free base (C.drop dies) S ∧ (∀ o ∈ dies, C.H o ≠ .hole) ∧ (l = [] → S = []) ∧
      ((l = [] ∧ cs = []) ∨ ∃ b o, A = some ⟨b, o, none⟩ ∧ ∀ j u, cs[j]? = some u → C.w.cell? ⟨b, o + j, none⟩ = some u) := by
  unfold srcOf at h
  split at h <;> try (cases h; done)
  · rename_i t' l'
    cases h
    simp only [RelA] at hr
    obtain ⟨A, c, cs, h1, h2, h3, h4, h5, h6⟩ := hr.cells
    refine ⟨A, c, cs, [], h1, h3, h4, ?_, Free.nil _ _, by simp, fun _ => rfl, h6⟩
    unfold ElemsL
    rw [if_neg (by simp)]
    exact ⟨rfl, h5⟩
  · rename_i o ver
    split at h <;> try (cases h; done)
    rename_i t' l' cur dp hH
    split at h <;> try (cases h; done)
    rename_i hv
    subst hv
    simp only [RelA] at hr
    obtain ⟨A, c, cs, h1, h2, h3, h4, h5, h6⟩ := arr_L hg hH hr
    have cells : (l' = [] ∧ cs = []) ∨ ∃ b o, A = some ⟨b, o, none⟩ ∧ ∀ j u, cs[j]? = some u → C.w.cell? ⟨b, o + j, none⟩ = some u := by
      rcases h6 with ⟨e1, _, e2⟩ | ⟨_, hA, full, tid, e1, e2, e3⟩
      · exact .inl ⟨e1, e2⟩
      · refine .inr ⟨_, 0, hA, fun j u hj => ?_⟩
        rw [cell_of_cells e1, Nat.zero_add]
        rw [← e3, List.getElem?_take] at hj
        split at hj
        · simpa using hj
        · cases hj
    split at h
    · rename_i hf
      cases h
      obtain ⟨f1, f2⟩ := h4.flat (dp' := true) hf
      exact ⟨A, c, cs, [], h1, h3, h5, f2, Free.nil _ _, by simp, fun _ => rfl, cells⟩
    · split at h
      · rename_i hdp
        cases h
        subst hdp
        have hown : l = [] → C.own o = [] := by
          intro e
          have hb := hg.ob o
          rw [hH] at hb
          simp only [ObjOk, ArrOk] at hb
          rcases hb with hb | hb
          · exact hb.2
          · exact absurd e hb.1
        refine ⟨A, c, cs, C.own o, h1, h3, h5, h4, ?_, by simp [hH], hown, cells⟩
        by_cases hl : l = []
        · rw [hown hl]; exact Free.nil _ _
        · have hfr := Free.drop hg (ids := [o]) (by simp)
          refine hfr.sub ?_
          simp only [List.flatMap_cons, List.flatMap_nil, List.append_nil, blks, hH]
          rw [if_neg (by simpa using hl)]
          exact List.sublist_cons_self _ _
      · rename_i hdp
        cases h
        have : dp = false := by simpa using hdp
        subst this
        refine ⟨A, c, cs, [], h1, h3, h5, ?_, Free.nil _ _, by simp, fun _ => rfl, cells⟩
        unfold ElemsL at h4 ⊢
        rw [if_neg (by simp)] at h4 ⊢
        exact ⟨rfl, h4.2⟩
theorem drew_heap (w : World) : w.drew.heap = w.heap := rfl
theorem zeroCells_size {z : Array Value} (n : Nat) : (Builtin.zeroCells z n).size = n * z.size := by simp [Builtin.zeroCells]
theorem setCast {t t' : Ty} (h : t' = t) (l : List t'.D) : (h ▸ l : List t.D).length = l.length := by subst h; rfl
/-- A slice of no room is given elements. -/
theorem so_append_new (hT : TbOk P T) (hg : Good base C) (hb : base ≤ C.w.heap.size) (hn : C.H nid = .hole) {t t2 e e2 : TypeId} {d : Ty} {ty : TypeId} (hu : P.underlying t = some (.slice e)) (hu2 : P.underlying t2 = some (.slice e2)) (hd : T.dt e = some d)
    {A0 : Option Addr} {x : AV} {v : Value} {l : List d.D} {own : Bool} {dies : List Nat} (hr : RelA C x v) (hs : srcOf C.H x = .some d l own dies) (hlim : l.length < lim) :
    ∃ val w' C', (Builtin.append_ #[t, t2] ty #[.slice A0 0 0, v]).run P C.w = .ok val w' ∧ C'.w = w' ∧ Good base C' ∧ To base C C' ∧ C'.H = updU (kill dies ++ [(nid, .arr d l 0 (own || d.flat))]) C.H ∧ RelA C' (.osl nid 0) val := by
  obtain ⟨i, q, zv, d1, d2, d3, d4, d5, d6, d7, d8, d9⟩ := hT.dt e d hd
  obtain ⟨A, c, cs, S, rfl, h2, h3, h4, h5, h6, h7, h8⟩ := src_rel hg hr hs
  have hnn : dies.contains nid = false := by
    cases hcn : dies.contains nid with
    | false => rfl
    | true => exact absurd hn (h6 nid (by simpa using hcn))
  have hg1 := hg.drop dies
  have hn1 : (C.drop dies).H nid = .hole := by simp only [Cx.drop, hnn]; exact hn
  have hH' : ∀ (x : AO) (b : Nat) (S : List Nat) (w : World), ((C.drop dies).new nid b S x w).H = updU (kill dies ++ [(nid, x)]) C.H := by
    intro x b S w
    show upd (C.drop dies).H nid _ = _
    rw [updU_append, drop_H h6]; rfl
  have hzl : zv.cells.size = d.size := by have := (dflt_rel C.w d9).len; simpa using this
  by_cases hl : l = []
  · subst hl
    have hf : (Builtin.firstCells q.size 0 (.slice A 0 c)).run P C.w = .ok ([] : List Value).toArray C.w := run_first (by simp) (.inl ⟨rfl, rfl⟩)
    refine ⟨_, C.w, (C.drop dies).new nid 0 [] (.arr d [] 0 (own || d.flat)) C.w, run_append_room2 (w' := C.w) hu hu2 d5 (n := 0) (c := c) (A := A) rfl (Nat.le_refl _) hf (by cases A0 <;> simp [storeCells]), rfl, Good.arr_nil hg1 hn1 (fun _ _ => rfl) (Nat.le_refl _), ?_, hH' _ _ _ _, osl_nil rfl _⟩
    exact (To.drop base C dies).trans ⟨Ext.new hg1 hn1 (fun _ _ => rfl), Nat.le_refl _, Below.refl _ _, fun _ h => .inl h, fun _ h => h⟩
  · have hlp : 0 < l.length := List.length_pos_iff.2 hl
    have hf : (Builtin.firstCells q.size l.length (.slice A l.length c)).run P C.w.drew = .ok cs.toArray C.w.drew := by
      rw [d6]
      refine run_first h2 (h8.imp (fun h => absurd h.1 hl) (fun ⟨b, o, hA, h⟩ => ⟨b, o, hA, fun j u hj => ?_⟩))
      exact h j u hj
    have hfo : (Builtin.firstCells q.size 0 (.slice A0 0 0)).run P C.w.drew = .ok ([] : List Value).toArray C.w.drew := run_first (by simp) (.inl ⟨rfl, rfl⟩)
    have hrun := run_append_grow2 (P := P) (ty := ty) hu hu2 d5 d8 (w := C.w) (base := A0) (sLen := 0) (sCap := 0) (x := .slice A l.length c) rfl (by omega) (by show 0 + l.length < lim; omega) (by omega) hfo hf
    simp only [Nat.zero_add] at hrun
    generalize hcap : grownCap C.w l.length 0 e = cap at hrun
    have hcapge : l.length ≤ cap := by rw [← hcap]; exact grownCap_ge _ _
    generalize hcells : (#[] ++ cs.toArray ++ Builtin.zeroCells zv.cells (cap - l.length) : Array Value) = cells at hrun
    have hcl : cells.toList = cs ++ (Builtin.zeroCells zv.cells (cap - l.length)).toList := by rw [← hcells]; simp
    have hcsz : cells.size = cap * d.size := by
      rw [← hcells]
      simp only [Array.size_append, zeroCells_size, hzl, List.size_toArray, h2]
      have : cap * d.size = l.length * d.size + (cap - l.length) * d.size := by rw [← Nat.add_mul]; congr 1; omega
      simp; omega
    have hmode : ∃ S', ElemsL C d l (own || d.flat) S' cs ∧ Free base (C.drop dies) S' := by
      cases hfl : d.flat with
      | true => exact ⟨[], by simpa using (h4.flat (dp' := true) hfl).2, Free.nil _ _⟩
      | false => exact ⟨S, by simpa using h4, h5⟩
    obtain ⟨S', m1, m2⟩ := hmode
    have hel : ElemsIn (C.drop dies) d l (own || d.flat) S' cells := by
      refine ElemsL.ofIn (C := C) ?_
      refine m1.mono fun j u hj hu => ?_
      rw [hcl, List.getElem?_append_left (by omega)]; exact hu
    have hw : ∀ k, k < C.w.heap.size → (C.w.drew.alloc (.cells cells e)).heap[k]? = C.w.heap[k]? := fun k hk => heap_alloc C.w.drew _ k hk
    have hs' : (C.w.drew.alloc (.cells cells e)).heap.size = C.w.heap.size + 1 := heap_alloc_size C.w.drew _
    have hnew : (C.w.drew.alloc (.cells cells e)).heap[C.w.heap.size]? = some (.cells cells e (0, 0)) := heap_alloc_new C.w.drew _
    refine ⟨_, _, (C.drop dies).new nid C.w.heap.size S' (.arr d l 0 (own || d.flat)) (C.w.drew.alloc (.cells cells e)), hrun, rfl, Good.arr hg1 hb hn1 hl m2 hel hw hs' hnew, ?_, hH' _ _ _ _, osl_new rfl hl hcapge hnew (by omega)⟩
    exact (To.drop base C dies).trans ⟨Ext.new hg1 hn1 hw, by show C.w.heap.size ≤ (C.w.drew.alloc (.cells cells e)).heap.size; omega, (Below.refl base C.w).drew.alloc hb _, fun _ h => .inl h, fun _ h => h⟩
/-- An array of ours is given elements. -/
theorem so_append_own (hT : TbOk P T) (hg : Good base C) (hb : base ≤ C.w.heap.size) {t t2 e e2 : TypeId} {d : Ty} {ty : TypeId} (hu : P.underlying t = some (.slice e)) (hu2 : P.underlying t2 = some (.slice e2)) (hd : T.dt e = some d)
    {o cur : Nat} {l0 : List d.D} {dp : Bool} (hH : C.H o = .arr d l0 cur dp) {vs : Value} (hv : RelA C (.osl o cur) vs)
    {x : AV} {v : Value} {l : List d.D} {own : Bool} {dies : List Nat} (hr : RelA C x v) (hs : srcOf C.H x = .some d l own dies) (hfit : fitsIn d own dp = true) (hnd : dies.contains o = false) (hlim : l0.length + l.length < lim) :
    ∃ val w' C', (Builtin.append_ #[t, t2] ty #[vs, v]).run P C.w = .ok val w' ∧ C'.w = w' ∧ Good base C' ∧ To base C C' ∧ C'.H = updU (kill dies ++ [(o, .arr d (l0 ++ l) (cur + 1) dp)]) C.H ∧ RelA C' (.osl o (cur + 1)) val := by
  obtain ⟨i, q, zv, d1, d2, d3, d4, d5, d6, d7, d8, d9⟩ := hT.dt e d hd
  obtain ⟨A, c, cs, S, rfl, h2, h3, h4, h5, h6, h7, h8⟩ := src_rel hg hr hs
  simp only [RelA] at hv
  obtain ⟨A0, c0, ds, rfl, k1, k2, k3, k4, k5⟩ := arr_L hg hH hv
  have hg1 := hg.drop dies
  have hH1 : (C.drop dies).H o = .arr d l0 cur dp := by simp only [Cx.drop, hnd]; exact hH
  have hzl : zv.cells.size = d.size := by have := (dflt_rel C.w d9).len; simpa using this
  have hmode : ∃ S', ElemsL C d l dp S' cs ∧ Free base (C.drop dies) S' := by
    unfold fitsIn at hfit
    cases hfl : d.flat with
    | true => exact ⟨[], (h4.flat (dp' := dp) hfl).2, Free.nil _ _⟩
    | false => rw [hfl] at hfit; simp at hfit; subst hfit; exact ⟨S, h4, h5⟩
  obtain ⟨S', m1, m2⟩ := hmode
  have hall := k3.append m1 k2
  -- the new state of the object, its block, the cells
  have fin : ∀ (bk : Nat) (w' : World) (cells : Array Value) (tid : TypeId) (cap : Nat), (∀ k, k ≠ bk → k < C.w.heap.size → w'.heap[k]? = C.w.heap[k]?) → C.w.heap.size ≤ w'.heap.size → bk < w'.heap.size → w'.heap[bk]? = some (.cells cells tid (0, 0)) → (∃ more, cells.toList = ds ++ cs ++ more) →
      l0.length + l.length ≤ cap → cap * d.size ≤ cells.size → ((l0 ≠ [] ∧ bk = C.blk o) ∨ C.w.heap.size ≤ bk) → Below base C.w w' → l0 ++ l ≠ [] →
      ∃ C', C'.w = w' ∧ Good base C' ∧ To base C C' ∧ C'.H = updU (kill dies ++ [(o, .arr d (l0 ++ l) (cur + 1) dp)]) C.H ∧ RelA C' (.osl o (cur + 1)) (.slice (some ⟨bk, 0, none⟩) (l0.length + l.length) cap) := by
    intro bk w' cells tid cap hw hsz hbk hnew hmore hcap hcaps hwhich hbel hne
    let C2 : Cx := { C.drop dies with H := upd (C.drop dies).H o (.arr d (l0 ++ l) (cur + 1) dp), blk := upd C.blk o bk, own := upd C.own o (C.own o ++ S'), w := w' }
    have hne' : ¬ ((l0 ++ l).isEmpty = true) := by rw [List.isEmpty_iff]; exact hne
    have hbl : blks C2 o = bk :: (C.own o ++ S') := by
      simp only [blks, C2, upd_same, if_neg hne']
    have hold : ∀ b, b ∈ blks (C.drop dies) o ↔ (l0 ≠ [] ∧ (b = C.blk o ∨ b ∈ C.own o)) := by
      intro b
      simp only [blks, hH1]
      by_cases hl0 : l0 = []
      · simp [hl0]
      · rw [if_neg (by simpa using hl0)]
        simp [Cx.drop, hl0]
    have hown0 : l0 = [] → C.own o = [] := by
      intro e
      have hb := hg.ob o
      rw [hH] at hb
      simp only [ObjOk, ArrOk] at hb
      rcases hb with hb | hb
      · exact hb.2
      · exact absurd e hb.1
    have hownold : ∀ b, b ∈ C.own o → b ∈ blks (C.drop dies) o := by
      intro b hb'
      rw [hold]
      by_cases hl0 : l0 = []
      · rw [hown0 hl0] at hb'; cases hb'
      · exact ⟨hl0, .inr hb'⟩
    have hbkother : ∀ p, p ≠ o → bk ∉ blks (C.drop dies) p := by
      intro p hp hbp
      rcases hwhich with ⟨hl0, rfl⟩ | h
      · exact hg1.dj p o _ hp hbp ((hold _).2 ⟨hl0, .inl rfl⟩)
      · have := (hg1.low p _ hbp).2.1
        have : bk < C.w.heap.size := this
        omega
    have hbkF : ¬ C.F bk ∧ ¬ C.G bk ∧ base ≤ bk := by
      rcases hwhich with ⟨hl0, rfl⟩ | h
      · obtain ⟨a1, a2, a3, a4⟩ := hg1.low o _ ((hold _).2 ⟨hl0, .inl rfl⟩)
        exact ⟨a3, a4, a1⟩
      · exact ⟨fun h' => by have := hg.fz _ h'; omega, fun h' => by have := hg.gz _ h'; omega, by omega⟩
    have hwo : ∀ p, p ≠ o → ∀ b ∈ blks (C.drop dies) p, w'.heap[b]? = C.w.heap[b]? := fun p hp b hb' => hw b (fun e => by subst e; exact hbkother p hp hb') (hg1.low p b hb').2.1
    have hext : Ext (C.drop dies) C2 := by
      refine ⟨fun _ h => h, fun _ h => h, fun b hb' => hw b (fun e => by subst e; exact hb'.elim hbkF.1 hbkF.2.1) (hb'.elim (hg.fz b) (hg.gz b)), fun p => ?_⟩
      by_cases hp : p = o
      · subst hp
        simp only [ObjExt, hH1]
        show match AO.arr d l0 cur dp, upd (C.drop dies).H p (.arr d (l0 ++ l) (cur + 1) dp) p with
          | .hole, _ => True | .dead, .dead => True | .box _, .box _ => _ | .box _, .dead => True | .arr t l ver _, .arr t' l' ver' _ => _ | .arr _ _ _ _, .dead => True | _, _ => False
        rw [upd_same]
        exact .inl (by omega)
      · exact ObjExt.same (by show upd _ _ _ _ = _; rw [upd_ne _ _ hp]) (by show upd _ _ _ _ = _; rw [upd_ne _ _ hp]; rfl) (hwo p hp)
    have hElems : ElemsOk C2 o d (l0 ++ l) dp cells := by
      have hL : ElemsL C d (l0 ++ l) dp (C.own o ++ S') cells.toList := by
        obtain ⟨more, hm⟩ := hmore
        refine hall.mono fun j u hj hu => ?_
        rw [hm, List.getElem?_append_left (by have := (List.getElem?_eq_some_iff.1 hu).1; exact this)]
        exact hu
      refine (ElemsL.ofIn hL).new (C' := C2) (by show upd _ _ _ _ = _; rw [upd_same]) (fun _ h => h) fun b hb' => ?_
      rcases hb' with hb' | hb'
      · refine hw b ?_ ?_
        · rintro rfl
          rcases List.mem_append.1 hb' with h | h
          · rcases hwhich with ⟨hl0, e⟩ | h'
            · have hnodup := hg1.nd o
              simp only [blks, hH1] at hnodup
              rw [if_neg (by simpa using hl0), List.nodup_cons] at hnodup
              exact hnodup.1 (by rw [e] at h; exact h)
            · have := (hg1.low o _ (hownold _ h)).2.1
              have : b < C.w.heap.size := this
              omega
          · obtain ⟨_, q2, q3, q4, q5⟩ := m2.2 _ h
            rcases hwhich with ⟨hl0, e⟩ | h'
            · exact q5 o ((hold _).2 ⟨hl0, .inl e⟩)
            · have : b < C.w.heap.size := q2
              omega
        · rcases List.mem_append.1 hb' with h | h
          · exact (hg1.low o _ (hownold _ h)).2.1
          · exact (m2.2 _ h).2.1
      · exact hw b (fun e => by subst e; exact hbkF.1 hb') (hg.fz b hb')
    refine ⟨C2, rfl, ?_, ?_, ?_, ?_⟩
    · refine hg1.one o hext (fun p hp => by show upd _ _ _ _ = _; rw [upd_ne _ _ hp]) (fun p hp => by show upd _ _ _ _ = _; rw [upd_ne _ _ hp]; rfl) (fun p hp => by show upd _ _ _ _ = _; rw [upd_ne _ _ hp]; rfl) hwo (fun _ h => h) (fun _ h => h) hsz ?_ ?_ ?_ ?_
      · show ObjOk C2 o (upd _ o _ o)
        rw [upd_same]
        simp only [ObjOk, ArrOk]
        exact .inr ⟨hne, cells, tid, by show w'.heap[upd C.blk o bk o]? = _; rw [upd_same]; exact hnew, hElems⟩
      · intro b hb'
        rw [hbl] at hb'
        show base ≤ b ∧ b < w'.heap.size ∧ ¬ C.F b ∧ ¬ C.G b
        rcases List.mem_cons.1 hb' with rfl | hb'
        · exact ⟨hbkF.2.2, hbk, hbkF.1, hbkF.2.1⟩
        · rcases List.mem_append.1 hb' with h | h
          · obtain ⟨a1, a2, a3, a4⟩ := hg1.low o _ (hownold _ h)
            have : b < C.w.heap.size := a2
            exact ⟨a1, by omega, a3, a4⟩
          · obtain ⟨a1, a2, a3, a4, _⟩ := m2.2 _ h
            have : b < C.w.heap.size := a2
            exact ⟨a1, by omega, a3, a4⟩
      · rw [hbl, List.nodup_cons]
        refine ⟨fun h => ?_, ?_⟩
        · rcases List.mem_append.1 h with h | h
          · rcases hwhich with ⟨hl0, e⟩ | h'
            · have hnodup := hg1.nd o
              simp only [blks, hH1] at hnodup
              rw [if_neg (by simpa using hl0), List.nodup_cons] at hnodup
              exact hnodup.1 (by rw [e] at h; exact h)
            · have : bk < C.w.heap.size := (hg1.low o _ (hownold _ h)).2.1
              omega
          · obtain ⟨_, q2, q3, q4, q5⟩ := m2.2 _ h
            rcases hwhich with ⟨hl0, e⟩ | h'
            · exact q5 o ((hold _).2 ⟨hl0, .inl e⟩)
            · have : bk < C.w.heap.size := q2
              omega
        · rw [List.nodup_append]
          refine ⟨?_, m2.1, fun b hb' b2 hb2 e => ?_⟩
          · by_cases hl0 : l0 = []
            · rw [hown0 hl0]; exact List.nodup_nil
            · have hnodup := hg1.nd o
              simp only [blks, hH1] at hnodup
              rw [if_neg (by simpa using hl0), List.nodup_cons] at hnodup
              exact hnodup.2
          · subst e
            exact (m2.2 _ hb2).2.2.2.2 o (hownold _ hb')
      · intro p hp b hb' hbp
        rw [hbl] at hb'
        rcases List.mem_cons.1 hb' with rfl | hb'
        · exact hbkother p hp hbp
        · rcases List.mem_append.1 hb' with h | h
          · exact hg1.dj p o _ hp hbp (hownold _ h)
          · exact (m2.2 _ h).2.2.2.2 p hbp
    · exact (To.drop base C dies).trans ⟨hext, hsz, hbel, fun _ h => .inl h, fun _ h => h⟩
    · show upd (C.drop dies).H o _ = _
      rw [updU_append, drop_H h6]; rfl
    · simp only [RelA, OslOk]
      refine ⟨⟨_, _, _, rfl⟩, ?_⟩
      show match upd (C.drop dies).H o (.arr d (l0 ++ l) (cur + 1) dp) o with
        | .arr t l cur' _ => _ | .dead => True | _ => False
      rw [upd_same]
      refine .inr ⟨rfl, .inr ⟨by intro e; exact hne (List.eq_nil_of_length_eq_zero e), cap, cells, tid, ?_, by simpa using hcap, ?_, hcaps⟩⟩
      · show _ = Value.slice (some ⟨upd C.blk o bk o, 0, none⟩) _ _
        rw [upd_same]; simp
      · show w'.heap[upd C.blk o bk o]? = _
        rw [upd_same]; exact hnew
  have hfcs : ∀ (w : World), w.heap = C.w.heap → (Builtin.firstCells q.size l.length (.slice A l.length c)).run P w = .ok cs.toArray w := by
    intro w hw
    rw [d6]
    refine run_first h2 (h8.imp (fun h => ⟨by rw [h.1]; rfl, h.2⟩) (fun ⟨b, o, hA, h⟩ => ⟨b, o, hA, fun j u hj => ?_⟩))
    rw [cell_of_heap (w := C.w) (by rw [hw])]; exact h j u hj
  by_cases hroom : l0.length + l.length ≤ c0
  · -- there is room
    rcases k5 with ⟨rfl, rfl, rfl⟩ | ⟨hl0, rfl, full, tid, f1, f2, f3⟩
    · -- nothing into nothing
      have hl : l = [] := List.eq_nil_of_length_eq_zero (by simpa using hroom)
      subst hl
      have hcs : cs = [] := by simpa using h2
      subst hcs
      have hrun := run_append_room2 (P := P) (ty := ty) (w' := C.w) (base := A0) (sLen := 0) (sCap := 0) hu hu2 d5 (n := 0) (c := c) (A := A) rfl (Nat.le_refl _) (hfcs C.w rfl) (by cases A0 <;> simp [storeCells])
      let C2 : Cx := { C.drop dies with H := upd (C.drop dies).H o (.arr d [] (cur + 1) dp) }
      have hbl : blks C2 o = [] := by simp [blks, C2]
      have hext : Ext (C.drop dies) C2 := by
        refine ⟨fun _ h => h, fun _ h => h, fun _ _ => rfl, fun p => ?_⟩
        by_cases hp : p = o
        · subst hp
          simp only [ObjExt, hH1]
          show match AO.arr d [] cur dp, upd (C.drop dies).H p (.arr d [] (cur + 1) dp) p with
            | .hole, _ => True | .dead, .dead => True | .box _, .box _ => _ | .box _, .dead => True | .arr t l ver _, .arr t' l' ver' _ => _ | .arr _ _ _ _, .dead => True | _, _ => False
          rw [upd_same]
          exact .inl (by omega)
        · exact ObjExt.same (by show upd _ _ _ _ = _; rw [upd_ne _ _ hp]) rfl (fun _ _ => rfl)
      refine ⟨_, C.w, C2, hrun, rfl, ?_, (To.drop base C dies).trans ⟨hext, Nat.le_refl _, Below.refl _ _, fun _ h => .inl h, fun _ h => h⟩, ?_, ?_⟩
      · refine hg1.one o hext (fun p hp => by show upd _ _ _ _ = _; rw [upd_ne _ _ hp]) (fun _ _ => rfl) (fun _ _ => rfl) (fun _ _ _ _ => rfl) (fun _ h => h) (fun _ h => h) (Nat.le_refl _) ?_ (by rw [hbl]; intro b h; cases h) (by rw [hbl]; exact List.nodup_nil) (by rw [hbl]; intro p _ b h; cases h)
        show ObjOk C2 o (upd _ o _ o)
        rw [upd_same]
        simp only [ObjOk, ArrOk]
        have hb' := hg.ob o
        rw [hH] at hb'
        simp only [ObjOk, ArrOk] at hb'
        rcases hb' with hb' | hb'
        · exact .inl ⟨trivial, hb'.2⟩
        · exact absurd rfl hb'.1
      · show upd (C.drop dies).H o _ = _
        rw [updU_append, drop_H h6]; rfl
      · simp only [RelA, OslOk]
        refine ⟨⟨_, _, _, rfl⟩, ?_⟩
        show match upd (C.drop dies).H o (.arr d [] (cur + 1) dp) o with
          | .arr t l cur' _ => _ | .dead => True | _ => False
        rw [upd_same]
        exact .inr ⟨rfl, .inl ⟨rfl, _, rfl⟩⟩
    · have hds : ds.length = l0.length * d.size := k2
      have hroomc : l0.length * d.size + cs.length ≤ full.size := by
        rw [h2, ← Nat.add_mul]
        exact Nat.le_trans (Nat.mul_le_mul_right _ hroom) f2
      have hst := run_storeCells_at (P := P) (C.blk o) (l0.length * d.size) tid cs 0 full C.w f1 (by simpa using hroomc) h3
      simp only [Nat.add_zero] at hst
      have hrun := run_append_room2 (P := P) (ty := ty) (base := some ⟨C.blk o, 0, none⟩) (sLen := l0.length) (sCap := c0) hu hu2 d5 (n := l.length) (c := c) (A := A) (w' := C.w.setRow (C.blk o) (full.toList.take (l0.length * d.size) ++ cs ++ full.toList.drop (l0.length * d.size + cs.length)).toArray) rfl hroom (hfcs C.w rfl) (by simp only [d6, addr_add, Nat.zero_add]; exact hst)
      have hlow := hg.low o (C.blk o) (by simp only [blks, hH]; rw [if_neg (by simpa using hl0)]; simp)
      obtain ⟨C', c1, c2, c3, c4, c5⟩ := fin (C.blk o) (C.w.setRow (C.blk o) (full.toList.take (l0.length * d.size) ++ cs ++ full.toList.drop (l0.length * d.size + cs.length)).toArray) (full.toList.take (l0.length * d.size) ++ cs ++ full.toList.drop (l0.length * d.size + cs.length)).toArray tid c0 (fun k hk _ => setRow_other _ _ _ _ hk) (by simp) (by simpa using hlow.2.1) (setRow_heap _ _ _ _ _ _ f1) ⟨full.toList.drop (l0.length * d.size + cs.length), by rw [f3]⟩ hroom (by simp; omega) (.inl ⟨hl0, rfl⟩) (setRow_below hlow.1 _) (by intro e; exact hl0 (List.append_eq_nil_iff.1 e).1)
      exact ⟨_, _, C', hrun, c1, c2, c3, c4, c5⟩
  · -- it grows
    have hg0 : c0 < l0.length + l.length := by omega
    have hne : l0 ++ l ≠ [] := by
      intro e
      rw [List.append_eq_nil_iff] at e
      rw [e.1, e.2] at hg0
      simp at hg0
    have hfo : (Builtin.firstCells q.size l0.length (.slice A0 l0.length c0)).run P C.w.drew = .ok ds.toArray C.w.drew := by
      rw [d6]
      rcases k5 with ⟨rfl, rfl, rfl⟩ | ⟨hl0, rfl, full, tid, f1, f2, f3⟩
      · exact run_first (by simp) (.inl ⟨rfl, rfl⟩)
      · refine run_first k2 (.inr ⟨_, 0, rfl, fun j u hj => ?_⟩)
        rw [cell_of_cells (w := C.w.drew) f1, Nat.zero_add]
        rw [← f3, List.getElem?_take] at hj
        split at hj
        · simpa using hj
        · cases hj
    have hrun := run_append_grow2 (P := P) (ty := ty) hu hu2 d5 d8 (w := C.w) (base := A0) (sLen := l0.length) (sCap := c0) (x := .slice A l.length c) rfl hg0 hlim (by omega) hfo (hfcs C.w.drew rfl)
    generalize hcap : grownCap C.w (l0.length + l.length) c0 e = cap at hrun
    have hcapge : l0.length + l.length ≤ cap := by rw [← hcap]; exact grownCap_ge _ _
    generalize hcells : (ds.toArray ++ cs.toArray ++ Builtin.zeroCells zv.cells (cap - (l0.length + l.length)) : Array Value) = cells at hrun
    have hcl : cells.toList = ds ++ cs ++ (Builtin.zeroCells zv.cells (cap - (l0.length + l.length))).toList := by rw [← hcells]; simp
    have hcsz : cells.size = cap * d.size := by
      rw [← hcells]
      simp only [Array.size_append, zeroCells_size, hzl, List.size_toArray, h2, k2]
      have : cap * d.size = (l0.length + l.length) * d.size + (cap - (l0.length + l.length)) * d.size := by rw [← Nat.add_mul]; congr 1; omega
      rw [this, Nat.add_mul]
    obtain ⟨C', c1, c2, c3, c4, c5⟩ := fin C.w.heap.size (C.w.drew.alloc (.cells cells e)) cells e cap (fun k _ hk => heap_alloc C.w.drew _ k hk) (by rw [heap_alloc_size]; exact Nat.le_succ _) (by rw [heap_alloc_size]; exact Nat.lt_succ_self _) (heap_alloc_new C.w.drew _) ⟨_, hcl⟩ hcapge (by omega) (.inr (Nat.le_refl _)) ((Below.refl base C.w).drew.alloc hb _) hne
    exact ⟨_, _, C', hrun, c1, c2, c3, c4, c5⟩
end
end Go.Proofs.YthanbjnpfenniaaDoor.Fw

namespace Go.Proofs.YthanbjnpfenniaaDoor.Fw
open Go Go.RowKit
set_option linter.unusedVariables false
set_option linter.unusedSimpArgs false

/-! ### what a function answers -/
/-- One value of a kind. -/
def VOk (t : Ty) (v : Value) : Prop := if t.isPr = true then ∃ cs, v = .agg cs else v.oneCell' = true
def RelRs (R : (t : Ty) → t.D → List Value → List Nat → Prop) : (rs : List Ty) → DL rs → List Value → List Nat → Prop
  | [], _, vs, S => vs = [] ∧ S = []
  | [a], d, vs, S => ∃ v, vs = [v] ∧ VOk a v ∧ R a d v.cells.toList S
  | a :: b :: r, d, vs, S => ∃ v vr Sa Sb, vs = v :: vr ∧ S = Sa ++ Sb ∧ VOk a v ∧ R a d.1 v.cells.toList Sa ∧ RelRs R (b :: r) d.2 vr Sb
def resV : List Value → Value
  | [v] => v
  | l => .tuple l.toArray
def ResOk (fresh : Bool) (F : Nat → Prop) (w : World) (rs : List Ty) (d : DL rs) (v : Value) (S : List Nat) : Prop :=
  ∃ vs, v = resV vs ∧ RelRs (if fresh = true then RelX w else fun t d vs S => RelD F w t d vs ∧ S = []) rs d vs S
def cx0 (F G : Nat → Prop) (w : World) : Cx := ⟨fun _ => .hole, fun _ => 0, fun _ => [], F, G, w⟩
/-- A call: the function is entered, and comes back. -/
def Entered (P : Program) (f : FuncId) (vals : Array Value) (w : World) (R : Value → World → Prop) : Prop :=
  (callFunc f vals).run P w = .ok (.enter f vals) w ∧ Calls P f vals w fun e w' => ∃ v, e = .returned v ∧ R v w'
/-- What is asked of a function that is called by value. -/
def PureOk (P : Program) (T : Tb) (f : FuncId) (args : List AV) (d : DL (T.rs f)) : Prop :=
  ∀ (w : World) (F G : Nat → Prop) (vals : List Value), (∀ b, F b → b < w.heap.size) → (∀ b, G b → b < w.heap.size) → GlOk F w → RelL (cx0 F G w) args vals →
    Entered P f vals.toArray w fun v w' => Below w.heap.size w w' ∧ ∃ F' S, (∀ b, F b → F' b) ∧ (∀ b, F' b → b < w'.heap.size ∧ (F b ∨ w.heap.size ≤ b)) ∧ ResOk (T.fresh f) F' w' (T.rs f) d v S ∧ S.Nodup ∧ ∀ b ∈ S, w.heap.size ≤ b ∧ b < w'.heap.size ∧ ¬ F' b

theorem VOk.ofCells {t : Ty} {v : Value} {C : Cx} {l : List AV} (h : VOk t v) (hr : RelL C l v.cells.toList) (hl : v.cells.size = t.size) (h1 : ∀ u ∈ v.cells.toList, u.oneCell' = true) : RelA C (Fw.ofCells t.isPr l) v := by
  unfold VOk at h
  unfold Fw.ofCells
  split at h
  · rename_i hp
    rw [if_pos hp]
    obtain ⟨cs, rfl⟩ := h
    simp only [RelA]
    exact ⟨cs.toList, by simp, by simpa [Value.cells] using h1, by simpa [Value.cells] using hr⟩
  · rename_i hp
    rw [if_neg hp]
    have hc : v.cells = #[v] := by cases v <;> first | rfl | simp [Value.oneCell'] at h
    rw [hc] at hr
    match l, hr with
    | [x], hr =>
      obtain ⟨u, hu, hx⟩ := hr.one
      simp at hu
      subst hu
      exact hx
    | [], hr => simp [RelL] at hr
    | x :: y :: r, hr => have := hr.len; simp at this

theorem RelD.noSl {F F' : Nat → Prop} {w w' : World} : ∀ {t : Ty} {d : t.D} {vs : List Value}, t.hasSl = false → RelD F w t d vs → RelD F' w' t d vs
  | .int _, _, _, _, h => by simpa only [RelD] using h
  | .bool, _, _, _, h => by simpa only [RelD] using h
  | .str, _, _, _, h => by simpa only [RelD] using h
  | .sl _, _, _, hs, _ => by simp [Ty.hasSl] at hs
  | .pr _ _, _, _, hs, h => by
    simp only [Ty.hasSl, Bool.or_eq_false_iff] at hs
    simp only [RelD] at h ⊢
    obtain ⟨va, vb, rfl, h1, h2⟩ := h
    exact ⟨va, vb, rfl, RelD.noSl hs.1 h1, RelD.noSl hs.2 h2⟩

/-! ### what a callee is shown -/
theorem allM_rel {C C' : Cx} {f : AV → Option AV} : ∀ {xs ys : List AV} {vs : List Value}, (∀ x y v, x ∈ xs → f x = some y → RelA C x v → RelA C' y v) → allM f xs = some ys → RelL C xs vs → RelL C' ys vs
  | [], ys, vs, _, h, hr => by simp [allM] at h; subst h; simp only [RelL] at hr; subst hr; simp [RelL]
  | x :: r, ys, vs, hf, h, hr => by
    simp only [allM] at h
    split at h <;> try (cases h; done)
    rename_i y s h1 h2
    cases h
    simp only [RelL] at hr ⊢
    obtain ⟨v, vr, rfl, hv, hr⟩ := hr
    exact ⟨v, vr, rfl, hf x y v (by simp) h1 hv, allM_rel (fun a b c ha => hf a b c (List.mem_cons_of_mem _ ha)) h2 hr⟩
theorem allM_len {f : AV → Option AV} : ∀ {xs ys : List AV}, allM f xs = some ys → ys.length = xs.length
  | [], ys, h => by simp [allM] at h; subst h; rfl
  | x :: r, ys, h => by
    simp only [allM] at h
    split at h <;> try (cases h; done)
    cases h
    simp [allM_len (by assumption)]
theorem allM_relR {C C' : Cx} {b : Nat} (hw : C'.w = C.w) {f : AV → Option AV} : ∀ {xs ys : List AV} {off : Nat}, (∀ x y v, x ∈ xs → f x = some y → RelA C x v → RelA C' y v) → allM f xs = some ys → RelR C b xs off → RelR C' b ys off
  | [], ys, off, _, h, hr => by simp [allM] at h; subst h; simp [RelR]
  | x :: r, ys, off, hf, h, hr => by
    simp only [allM] at h
    split at h <;> try (cases h; done)
    rename_i y s h1 h2
    cases h
    simp only [RelR] at hr ⊢
    obtain ⟨⟨u, u1, u2, u3⟩, hr⟩ := hr
    exact ⟨⟨u, by rw [hw]; exact u1, u2, hf x y u (by simp) h1 u3⟩, allM_relR hw (fun a b c ha => hf a b c (List.mem_cons_of_mem _ ha)) h2 hr⟩
theorem snap_rel {base : Nat} {C : Cx} (hg : Good base C) {F : Nat → Prop} (hF : ∀ b, C.F b → F b) : ∀ (d : Nat) {x y : AV} {v : Value}, snap C.H d x = some y → (∀ o ∈ idsA C.H d x, ∀ b ∈ blks C o, F b) → RelA C x v → RelA (cx0 F (fun b => b < C.w.heap.size) C.w) y v := by
  intro d
  induction d with
  | zero => intro x y v h; cases x <;> simp [snap] at h
  | succ d ih =>
    intro x y v h hids hr
    have sub : ∀ {l : List AV}, (∀ o ∈ l.flatMap (idsA C.H d), ∀ b ∈ blks C o, F b) → ∀ x' y' v', x' ∈ l → snap C.H d x' = some y' → RelA C x' v' → RelA (cx0 F (fun b => b < C.w.heap.size) C.w) y' v' :=
      fun hl x' y' v' hx' h1 h2 => ih h1 (fun o ho => hl o (List.mem_flatMap.2 ⟨x', hx', ho⟩)) h2
    cases x with
    | int k n => simp only [snap, Option.some.injEq] at h; subst h; simpa only [RelA] using hr
    | bool b => simp only [snap, Option.some.injEq] at h; subst h; simpa only [RelA] using hr
    | dec p hp => simp only [snap, Option.some.injEq] at h; subst h; simpa only [RelA] using hr
    | ndec p hp => simp only [snap, Option.some.injEq] at h; subst h; simpa only [RelA] using hr
    | anyb => simp only [snap, Option.some.injEq] at h; subst h; simpa only [RelA] using hr
    | str s => simp only [snap, Option.some.injEq] at h; subst h; simpa only [RelA] using hr
    | sl t l => simp only [snap, Option.some.injEq] at h; subst h; simp only [RelA] at hr ⊢; exact hr.mono hF (fun _ _ => rfl)
    | zsl => simp only [snap, Option.some.injEq] at h; subst h; simpa only [RelA] using hr
    | nilp => simp only [snap, Option.some.injEq] at h; subst h; simpa only [RelA] using hr
    | top => simp only [snap, Option.some.injEq] at h; subst h; simp only [RelA]
    | eptr o ver i off => simp [snap] at h
    | isl o ver i c => simp [snap] at h
    | iptr o ver i c j => simp [snap] at h
    | glb g => simp only [snap, Option.some.injEq] at h; subst h; simpa only [RelA] using hr
    | osl o ver =>
      simp only [snap] at h
      split at h <;> try (cases h; done)
      rename_i t l cur dp hH
      split at h <;> try (cases h; done)
      rename_i hv
      subst hv
      cases h
      simp only [RelA] at hr ⊢
      exact arr_D hg hH hr hF (hids o (by simp [idsA]))
    | bptr o off =>
      simp only [snap] at h
      split at h <;> try (cases h; done)
      rename_i cells hH
      obtain ⟨ys, h1, rfl⟩ := Option.map_eq_some_iff.1 h
      simp only [RelA, BptrOk, hH] at hr
      obtain ⟨_, rfl⟩ := hr
      have hb := hg.ob o
      rw [hH] at hb
      simp only [ObjOk] at hb
      obtain ⟨cs, tid, b1, b2, b3⟩ := hb
      have hlow := hg.low o (C.blk o) (by simp [blks, hH])
      simp only [idsA, hH] at hids
      simp only [RelA]
      refine ⟨C.blk o, off, rfl, .inr hlow.2.1, allM_relR (C := C) (C' := cx0 F (fun b => b < C.w.heap.size) C.w) rfl (sub (l := cells.drop off) hids) h1 (RelR.mk fun j z hz => ?_)⟩
      · rw [List.getElem?_drop] at hz
        obtain ⟨u, u1, u2⟩ := b3.get hz
        exact ⟨u, by rw [cell_of_cells b1]; simpa using u1, b2 u (List.mem_of_getElem? u1), u2⟩
    | ref cells =>
      simp only [snap] at h
      obtain ⟨ys, h1, rfl⟩ := Option.map_eq_some_iff.1 h
      simp only [RelA] at hr ⊢
      obtain ⟨b, off, rfl, hb, hr⟩ := hr
      exact ⟨b, off, rfl, .inr (hb.elim (hg.fz b) (hg.gz b)), allM_relR (C := C) (C' := cx0 F (fun b => b < C.w.heap.size) C.w) rfl (sub hids) h1 hr⟩
    | agg l =>
      simp only [snap] at h
      obtain ⟨ys, h1, rfl⟩ := Option.map_eq_some_iff.1 h
      simp only [RelA] at hr ⊢
      obtain ⟨vs, rfl, h2, hr⟩ := hr
      exact ⟨vs, rfl, h2, allM_rel (C := C) (sub hids) h1 hr⟩
    | tup l =>
      simp only [snap] at h
      obtain ⟨ys, h1, rfl⟩ := Option.map_eq_some_iff.1 h
      simp only [RelA] at hr ⊢
      obtain ⟨vs, rfl, hr⟩ := hr
      exact ⟨vs, rfl, allM_rel (C := C) (sub hids) h1 hr⟩
    | mth f o off => simp [snap] at h
    | fn f l =>
      simp only [snap] at h
      obtain ⟨ys, h1, rfl⟩ := Option.map_eq_some_iff.1 h
      simp only [RelA] at hr ⊢
      obtain ⟨vs, rfl, hr⟩ := hr
      exact ⟨vs, rfl, allM_rel (C := C) (sub hids) h1 hr⟩

/-! ### what comes back -/
/-- Data that are ours from now on. -/
theorem impC_rel {base : Nat} : ∀ {t : Ty} {C : Cx} {n : Nat} {d : t.D} {vs : List Value} {S : List Nat}, Good base C → (∀ j, j < t.sls → C.H (n + j) = .hole) → RelX C.w t d vs S → Free base C S →
    ∃ C', C'.w = C.w ∧ C'.F = C.F ∧ C'.G = C.G ∧ Good base C' ∧ Ext C C' ∧ C'.H = updU (impC n t d).2 C.H ∧ RelL C' (impC n t d).1 vs ∧ (∀ o b, b ∈ blks C' o → b ∈ blks C o ∨ b ∈ S) ∧ ∀ j, n + t.sls ≤ j → C'.H j = C.H j
  | .int k, C, n, d, vs, S, hg, _, hr, _ => by
    simp only [RelX] at hr
    obtain ⟨rfl, _⟩ := hr
    exact ⟨C, rfl, rfl, rfl, hg, Ext.refl C, rfl, by simp [impC, RelL, RelA], fun _ _ h => .inl h, fun _ _ => rfl⟩
  | .bool, C, n, d, vs, S, hg, _, hr, _ => by
    simp only [RelX] at hr
    obtain ⟨rfl, _⟩ := hr
    exact ⟨C, rfl, rfl, rfl, hg, Ext.refl C, rfl, by simp [impC, RelL, RelA], fun _ _ h => .inl h, fun _ _ => rfl⟩
  | .str, C, n, d, vs, S, hg, _, hr, _ => by
    simp only [RelX] at hr
    obtain ⟨rfl, _⟩ := hr
    exact ⟨C, rfl, rfl, rfl, hg, Ext.refl C, rfl, by simp [impC, RelL, RelA], fun _ _ h => .inl h, fun _ _ => rfl⟩
  | .sl e, C, n, l, vs, S, hg, hh, hr, hf => by
    have hn : C.H n = .hole := hh 0 (by simp [Ty.sls])
    simp only [RelX] at hr
    rcases hr with ⟨rfl, rfl, A, rfl⟩ | ⟨hl, b, c, cs, tid, ss, rfl, h1, h2, h3, rfl, h4, h5⟩
    · refine ⟨C.new n 0 [] (.arr e [] (ver0 e) true) C.w, rfl, rfl, rfl, Good.arr_nil hg hn (fun _ _ => rfl) (Nat.le_refl _), Ext.new hg hn (fun _ _ => rfl), rfl, ?_, ?_, ?_⟩
      · simp only [impC, RelL]
        exact ⟨_, [], rfl, osl_nil rfl A, rfl⟩
      · intro o b' hb'
        by_cases ho : o = n
        · subst ho; simp [blks, Cx.new] at hb'
        · rw [blks_same (C := C) (by simp [Cx.new, upd_ne _ _ ho]) (by simp [Cx.new, upd_ne _ _ ho]) (by simp [Cx.new, upd_ne _ _ ho])] at hb'
          exact .inl hb'
      · intro j hj
        simp only [Ty.sls] at hj
        exact upd_ne _ _ (by omega)
    · have hne : ¬ (l.isEmpty = true) := by simpa using hl
      let C' := C.new n b ss.flatten (.arr e l (ver0 e) true) C.w
      have hbl : blks C' n = b :: ss.flatten := by simp only [blks, C', Cx.new, upd_same, if_neg hne]
      have hext : Ext C C' := Ext.new hg hn (fun _ _ => rfl)
      refine ⟨C', rfl, rfl, rfl, ?_, hext, rfl, ?_, ?_, ?_⟩
      · refine hg.one n hext (fun o h => by simp [C', Cx.new, upd_ne _ _ h]) (fun o h => by simp [C', Cx.new, upd_ne _ _ h]) (fun o h => by simp [C', Cx.new, upd_ne _ _ h]) (fun _ _ _ _ => rfl) (fun _ h => h) (fun _ h => h) (Nat.le_refl _) ?_ ?_ ?_ ?_
        · show ObjOk _ n (upd C.H n (.arr e l (ver0 e) true) n)
          rw [upd_same]
          simp only [ObjOk, ArrOk]
          refine .inr ⟨hl, cs, tid, ?_, ?_⟩
          · show C.w.heap[upd C.blk n b n]? = _
            rw [upd_same]; exact h2
          · unfold ElemsOk
            rw [if_pos rfl]
            exact ⟨ss, by simp [C', Cx.new], h4, h5⟩
        · rw [hbl]; intro b' hb'; obtain ⟨a1, a2, a3, a4, _⟩ := hf.2 b' hb'; exact ⟨a1, a2, a3, a4⟩
        · rw [hbl]; exact hf.1
        · rw [hbl]; intro o _ b' hb'; exact (hf.2 b' hb').2.2.2.2 o
      · simp only [impC, RelL]
        exact ⟨_, [], rfl, osl_new rfl hl h1 h2 h3, rfl⟩
      · intro o b' hb'
        by_cases ho : o = n
        · subst ho; rw [hbl] at hb'; exact .inr hb'
        · rw [blks_same (C := C) (by simp [C', Cx.new, upd_ne _ _ ho]) (by simp [C', Cx.new, upd_ne _ _ ho]) (by simp [C', Cx.new, upd_ne _ _ ho])] at hb'
          exact .inl hb'
      · intro j hj
        simp only [Ty.sls] at hj
        exact upd_ne _ _ (by omega)
  | .pr a b, C, n, d, vs, S, hg, hh, hr, hf => by
    simp only [RelX] at hr
    obtain ⟨va, vb, Sa, Sb, rfl, rfl, h1, h2⟩ := hr
    simp only [Ty.sls] at hh
    obtain ⟨C1, a1, a2, a3, a4, a5, a6, a7, a8, a9⟩ := impC_rel (n := n) hg (fun j hj => hh j (by omega)) h1 (hf.sub (List.sublist_append_left _ _))
    have hf2 : Free base C1 Sb := by
      refine ⟨hf.1.sublist (List.sublist_append_right _ _), fun x hx => ?_⟩
      obtain ⟨b1, b2, b3, b4, b5⟩ := hf.2 x (List.mem_append.2 (.inr hx))
      refine ⟨b1, by rw [a1]; exact b2, by rw [a2]; exact b3, by rw [a3]; exact b4, fun o ho => ?_⟩
      rcases a8 o x ho with h | h
      · exact b5 o h
      · exact (List.nodup_append.1 hf.1).2.2 x h x hx rfl
    obtain ⟨C2, c1, c2, c3, c4, c5, c6, c7, c8, c9⟩ := impC_rel (t := b) (n := n + a.sls) a4 (fun j hj => by rw [a9 (n + a.sls + j) (by omega), Nat.add_assoc]; exact hh (a.sls + j) (by omega)) (by rw [a1]; exact h2) hf2
    refine ⟨C2, c1.trans a1, c2.trans a2, c3.trans a3, c4, Ext.trans (base := base) a5 c5, ?_, ?_, ?_, ?_⟩
    · rw [c6, a6]; simp only [impC]; rw [updU_append]
    · simp only [impC]; exact (a7.mono c5).append c7
    · intro o x hx
      rcases c8 o x hx with h | h
      · rcases a8 o x h with h | h
        · exact .inl h
        · exact .inr (List.mem_append.2 (.inl h))
      · exact .inr (List.mem_append.2 (.inr h))
    · intro j hj
      simp only [Ty.sls] at hj
      rw [c9 j (by omega), a9 j (by omega)]
end Go.Proofs.YthanbjnpfenniaaDoor.Fw

namespace Go.Proofs.YthanbjnpfenniaaDoor.Fw
open Go Go.RowKit
set_option linter.unusedVariables false
set_option linter.unusedSimpArgs false

theorem VOk.one {t : Ty} {v : Value} {C : Cx} (h : VOk t v) (h1 : ∀ u ∈ v.cells.toList, u.oneCell' = true) : True := trivial
/-- Results that are ours from now on. -/
theorem impL_own {base : Nat} : ∀ {rs : List Ty} {C : Cx} {n : Nat} {d : DL rs} {vs : List Value} {S : List Nat}, Good base C → (∀ j, j < slsL rs → C.H (n + j) = .hole) → RelRs (RelX C.w) rs d vs S → Free base C S →
    ∃ C', C'.w = C.w ∧ C'.F = C.F ∧ C'.G = C.G ∧ Good base C' ∧ Ext C C' ∧ C'.H = updU (impL true n rs d).2 C.H ∧ RelL C' (impL true n rs d).1 vs
  | [], C, n, d, vs, S, hg, _, hr, _ => by
    simp only [RelRs] at hr
    obtain ⟨rfl, _⟩ := hr
    exact ⟨C, rfl, rfl, rfl, hg, Ext.refl C, rfl, by simp [impL, RelL]⟩
  | [a], C, n, d, vs, S, hg, hh, hr, hf => by
    simp only [RelRs] at hr
    obtain ⟨v, rfl, hv, hr⟩ := hr
    obtain ⟨C1, a1, a2, a3, a4, a5, a6, a7, _⟩ := impC_rel (n := n) hg (fun j hj => hh j (by simpa [slsL] using hj)) hr hf
    refine ⟨C1, a1, a2, a3, a4, a5, by simpa [impL, impT] using a6, ?_⟩
    simp only [impL, impT, if_pos, RelL]
    exact ⟨v, [], rfl, hv.ofCells a7 (by simpa using hr.len) hr.onecell, rfl⟩
  | a :: b :: r, C, n, d, vs, S, hg, hh, hr, hf => by
    simp only [RelRs] at hr
    obtain ⟨v, vr, Sa, Sb, rfl, rfl, hv, h1, h2⟩ := hr
    simp only [slsL] at hh
    obtain ⟨C1, a1, a2, a3, a4, a5, a6, a7, a8, a9⟩ := impC_rel (t := a) (n := n) hg (fun j hj => hh j (by omega)) h1 (hf.sub (List.sublist_append_left _ _))
    have hf2 : Free base C1 Sb := by
      refine ⟨hf.1.sublist (List.sublist_append_right _ _), fun x hx => ?_⟩
      obtain ⟨b1, b2, b3, b4, b5⟩ := hf.2 x (List.mem_append.2 (.inr hx))
      refine ⟨b1, by rw [a1]; exact b2, by rw [a2]; exact b3, by rw [a3]; exact b4, fun o ho => ?_⟩
      rcases a8 o x ho with h | h
      · exact b5 o h
      · exact (List.nodup_append.1 hf.1).2.2 x h x hx rfl
    obtain ⟨C2, c1, c2, c3, c4, c5, c6, c7⟩ := impL_own (rs := b :: r) (n := n + a.sls) a4 (fun j hj => by rw [a9 (n + a.sls + j) (by omega), Nat.add_assoc]; exact hh (a.sls + j) (by simp only [slsL] at hj; omega)) (by rw [a1]; exact h2) hf2
    refine ⟨C2, c1.trans a1, c2.trans a2, c3.trans a3, c4, Ext.trans (base := base) a5 c5, ?_, ?_⟩
    · rw [c6, a6]; simp only [impL, impT, if_pos]; rw [updU_append]
    · simp only [impL, impT, if_pos, RelL]
      exact ⟨v, vr, rfl, (hv.ofCells a7 (by simpa using h1.len) h1.onecell).mono c5, c7⟩
theorem RelRs.toD {w : World} {F : Nat → Prop} : ∀ {rs : List Ty} {d : DL rs} {vs : List Value} {S : List Nat}, (∀ b ∈ S, F b) → RelRs (RelX w) rs d vs S → RelRs (fun t d vs S => RelD F w t d vs ∧ S = []) rs d vs []
  | [], _, _, _, _, h => by simp only [RelRs] at h ⊢; exact ⟨h.1, trivial⟩
  | [a], _, _, _, hF, h => by
    simp only [RelRs] at h ⊢
    obtain ⟨v, rfl, hv, hr⟩ := h
    exact ⟨v, rfl, hv, hr.toD hF, trivial⟩
  | a :: b :: r, _, _, _, hF, h => by
    simp only [RelRs] at h ⊢
    obtain ⟨v, vr, Sa, Sb, rfl, rfl, hv, h1, h2⟩ := h
    exact ⟨v, vr, [], [], rfl, rfl, hv, ⟨h1.toD fun b hb => hF b (List.mem_append.2 (.inl hb)), rfl⟩, RelRs.toD (fun b hb => hF b (List.mem_append.2 (.inr hb))) h2⟩
theorem RelRs.monoD {F F' : Nat → Prop} {w w' : World} : ∀ {rs : List Ty} {d : DL rs} {vs : List Value} {S : List Nat}, (∀ t (d : t.D) vs, t ∈ rs → RelD F w t d vs → RelD F' w' t d vs) → RelRs (fun t d vs S => RelD F w t d vs ∧ S = []) rs d vs S → RelRs (fun t d vs S => RelD F' w' t d vs ∧ S = []) rs d vs []
  | [], _, _, _, _, h => by simp only [RelRs] at h ⊢; exact ⟨h.1, trivial⟩
  | [a], _, _, _, hF, h => by
    simp only [RelRs] at h ⊢
    obtain ⟨v, rfl, hv, hr, _⟩ := h
    exact ⟨v, rfl, hv, hF _ _ _ (by simp) hr, trivial⟩
  | a :: b :: r, _, _, _, hF, h => by
    simp only [RelRs] at h ⊢
    obtain ⟨v, vr, Sa, Sb, rfl, rfl, hv, ⟨h1, rfl⟩, h2⟩ := h
    exact ⟨v, vr, [], [], rfl, rfl, hv, ⟨hF _ _ _ (by simp) h1, rfl⟩, RelRs.monoD (fun t d vs ht => hF t d vs (List.mem_cons_of_mem _ ht)) h2⟩
theorem impL_frz {C : Cx} (n : Nat) : ∀ {rs : List Ty} {d : DL rs} {vs : List Value} {S : List Nat}, RelRs (fun t d vs S => RelD C.F C.w t d vs ∧ S = []) rs d vs S → RelL C (impL false n rs d).1 vs ∧ (impL false n rs d).2 = []
  | [], _, _, _, h => by simp only [RelRs] at h; obtain ⟨rfl, _⟩ := h; simp [impL, RelL]
  | [a], d, _, _, h => by
    simp only [RelRs] at h
    obtain ⟨v, rfl, hv, hr, _⟩ := h
    obtain ⟨h1, h2⟩ := RelD.toAVs hr
    simp only [impL, impT, RelL]
    exact ⟨⟨v, [], rfl, by simpa [enc] using hv.ofCells h1 (by simpa using hr.len) h2, rfl⟩, by simp⟩
  | a :: b :: r, d, _, _, h => by
    simp only [RelRs] at h
    obtain ⟨v, vr, Sa, Sb, rfl, rfl, hv, ⟨hr, _⟩, h3⟩ := h
    obtain ⟨h1, h2⟩ := RelD.toAVs hr
    obtain ⟨h4, h5⟩ := impL_frz (C := C) (n + a.sls) h3
    simp only [impL, impT, RelL]
    refine ⟨⟨v, vr, rfl, by simpa [enc] using hv.ofCells h1 (by simpa using hr.len) h2, h4⟩, ?_⟩
    simpa using h5
theorem resV_rel {C : Cx} {l : List AV} {vs : List Value} (h : RelL C l vs) : RelA C (resA l) (resV vs) := by
  match l, h with
  | [], h => simp only [RelL] at h; subst h; simp only [RelA, resV]; exact ⟨[], rfl, by simp [RelL]⟩
  | [x], h => obtain ⟨u, rfl, hx⟩ := h.one; exact hx
  | x :: y :: r, h =>
    have hl := h.len
    match vs, hl with
    | u :: s :: q, _ => simp only [RelA, resV]; exact ⟨_, rfl, h⟩

section
variable {P : Program} {T : Tb} {α : Type} {base : Nat} {C : Cx} {a : Act} {tv : Nat → AV} {nid : Nat} {next : Act → World → Prop} {Q : Exit → Act → World → Prop} {r : α} {k : AV → List (Nat × AO) → Option α}
variable {dst : Option Tmp} {type : TypeId} {pos : String} {after : Array Edge} {guard : Option (Nat × Bool)}

/-- Behind a call by value. -/
theorem pure_back (hg : Good base C) (hb : base ≤ C.w.heap.size) {g : FuncId} {own : Bool} (hn : ∀ j, j < slsL (T.rs g) → C.H (nid + j) = .hole) (hof : own = true → T.fresh g = true)
    {F F' : Nat → Prop} (hF : ∀ b, F b → F' b) (hF' : ∀ b, F' b → F b ∨ C.w.heap.size ≤ b) {w' : World} (hlt : ∀ b, F' b → b < w'.heap.size) (hw : Below C.w.heap.size C.w w')
    (hap : T.fresh g = false → (∀ t ∈ T.rs g, t.hasSl = false) ∨ F = C.F) {d : DL (T.rs g)} {v : Value} {S : List Nat} (hr : ResOk (T.fresh g) F' w' (T.rs g) d v S) (hnd : S.Nodup) (hS : ∀ b ∈ S, C.w.heap.size ≤ b ∧ b < w'.heap.size ∧ ¬ F' b) {dst : Option Tmp}
    (hk : Kont base C a dst next (impR own nid (T.rs g) d).1 (impR own nid (T.rs g) d).2) : next (a.put dst v) w' := by
  obtain ⟨vs, rfl, hr⟩ := hr
  have hbl : ∀ k, k < C.w.heap.size → w'.heap[k]? = C.w.heap[k]? := hw.block
  let C1 : Cx := { C with w := w' }
  have g1 : Good base C1 := hg.world hbl hw.size
  have e1 : Ext C C1 := Ext.world hg hbl
  by_cases ho : own = true
  · subst ho
    rw [hof rfl, if_pos rfl] at hr
    have hfr : Free base C1 S := ⟨hnd, fun b hb' => by
      obtain ⟨h1, h2, h3⟩ := hS b hb'
      exact ⟨by omega, h2, fun h => by have := hg.fz b h; omega, fun h => by have := hg.gz b h; omega, fun o h => by have := (hg.low o b h).2.1; omega⟩⟩
    obtain ⟨C2, a1, a2, a3, a4, a5, a6, a7⟩ := impL_own (n := nid) g1 hn hr hfr
    have := hk C2 (resV vs) a4 ⟨Ext.trans (base := base) e1 a5, by rw [a1]; exact hw.size, by rw [a1]; exact hw.mono hb, fun b h => by rw [a2] at h; exact .inl h, fun b h => by rw [a3] at h; exact h⟩ (by simpa [impR] using a6) (resV_rel a7)
    rwa [a1] at this
  · have ho' : own = false := by simpa using ho
    subst ho'
    have key : ∀ F2 : Nat → Prop, (∀ b, C.F b → F2 b) → (∀ b, F2 b → (C.F b ∨ C.w.heap.size ≤ b) ∧ b < w'.heap.size) → RelRs (fun t d vs S => RelD F2 w' t d vs ∧ S = []) (T.rs g) d vs [] → next (a.put dst (resV vs)) w' := by
      intro F2 h1 h2 h3
      let C2 : Cx := { C with w := w', F := F2 }
      have e2 : Ext C C2 := { F := h1, G := fun _ h => h, heap := e1.heap, obj := e1.obj }
      have g2 : Good base C2 :=
        { ob := fun o => (hg.ob o).same e2 rfl rfl rfl fun k hk => hbl k (hg.low o k hk).2.1
          low := fun o b h => by
            obtain ⟨b1, b2, b3, b4⟩ := hg.low o b h
            refine ⟨b1, by have := hw.size; show b < w'.heap.size; omega, fun h' => ?_, b4⟩
            rcases (h2 b h').1 with h' | h'
            · exact b3 h'
            · omega
          nd := hg.nd
          dj := hg.dj
          fz := fun b h => (h2 b h).2
          gz := fun b h => by have := hg.gz b h; have := hw.size; show b < w'.heap.size; omega
          gl := hg.glx e2 }
      obtain ⟨h4, h5⟩ := impL_frz (C := C2) nid h3
      have h6 : (impR false nid (T.rs g) d).2 = [] := by simpa [impR] using h5
      have := hk C2 (resV vs) g2 ⟨e2, hw.size, hw.mono hb, fun b h => (h2 b h).1.imp id (fun h => by omega), fun b h => h⟩ (by rw [h6]; rfl) (resV_rel h4)
      exact this
    by_cases hf : T.fresh g = true
    · rw [if_pos hf] at hr
      refine key (fun b => C.F b ∨ b ∈ S) (fun b h => .inl h) (fun b h => ?_) (hr.toD fun b h => .inr h)
      rcases h with h | h
      · exact ⟨.inl h, by have := hg.fz b h; have := hw.size; omega⟩
      · obtain ⟨h1, h2, _⟩ := hS b h
        exact ⟨.inr h1, h2⟩
    · have hf' : T.fresh g = false := by simpa using hf
      rw [if_neg hf] at hr
      rcases hap hf' with hns | rfl
      · exact key C.F (fun _ h => h) (fun b h => ⟨.inl h, by have := hg.fz b h; have := hw.size; omega⟩) (hr.monoD fun t d vs ht => RelD.noSl (hns t ht))
      · exact key F' hF (fun b h => ⟨hF' b h, hlt b h⟩) (hr.monoD fun _ _ _ _ h => h)

theorem so_pure {Ca : Ca T} (hC : ∀ f args d, Ca.pure f args = some d → PureOk P T f args d) (hg : Good base C) (hb : base ≤ C.w.heap.size) {g : FuncId} {fid : FuncId} (hn : ∀ j, j < slsL (T.rs g) → C.H (nid + j) = .hole) {args : List AV} {vals : List Value} (hr : RelL C args vals)
    (hk : ∀ v u, k v u = some r → Kont base C a dst next v u) (h : pureC T Ca fid C.H nid dst g args k = some r) :
    Entered P g vals.toArray C.w fun v w' => next (a.put dst v) w' := by
  unfold pureC at h
  split at h <;> try (cases h; done)
  rename_i hap
  split at h <;> try (cases h; done)
  rename_i as has
  obtain ⟨d, hd, h⟩ := Option.bind_eq_some_iff.1 h
  have hK := hk _ _ h
  have hof : ownsAt T fid g dst = true → T.fresh g = true := by
    unfold ownsAt
    split
    · intro h; rw [Bool.and_eq_true] at h; exact h.2
    · intro h; cases h
  let F : Nat → Prop := if apartR T g = true then (fun b => b < C.w.heap.size) else C.F
  have hCF : ∀ b, C.F b → F b := by
    intro b hb'
    show (if apartR T g = true then (fun b => b < C.w.heap.size) else C.F) b
    split
    · exact hg.fz b hb'
    · exact hb'
  have hsn : RelL (cx0 F (fun b => b < C.w.heap.size) C.w) as vals := by
    refine allM_rel (C := C) (fun x y v hx h1 h2 => snap_rel hg hCF depth h1 (fun o ho b hb' => ?_) h2) has hr
    rw [Bool.or_eq_true] at hap
    rcases hap with hap | hap
    · show (if apartR T g = true then (fun b => b < C.w.heap.size) else C.F) b
      rw [if_pos hap]; exact (hg.low o b hb').2.1
    · have : o ∈ args.flatMap (idsA C.H depth) := List.mem_flatMap.2 ⟨x, hx, ho⟩
      rw [List.isEmpty_iff] at hap
      rw [hap] at this; cases this
  obtain ⟨hc, hcalls⟩ := hC g as d hd C.w F (fun b => b < C.w.heap.size) vals (fun b hb' => by
    have hb2 : (if apartR T g = true then (fun b => b < C.w.heap.size) else C.F) b := hb'
    split at hb2
    · exact hb2
    · exact hg.fz b hb2) (fun b h => h) (hg.gl.mono hCF fun _ _ => rfl) hsn
  refine ⟨hc, hcalls.mono fun e w' he => ?_⟩
  obtain ⟨v, rfl, hw, F', S, h1, h2, h3, h4, h5⟩ := he
  refine ⟨v, rfl, ?_⟩
  refine pure_back (T := T) (F := F) (F' := F') hg hb hn hof h1 (fun b h => (h2 b h).2) (fun b h => (h2 b h).1) hw (fun hf => ?_) h3 h4 h5 hK
  by_cases hp : apartR T g = true
  · left
    simp only [apartR, hf, Bool.false_or, Bool.not_eq_true', List.any_eq_false] at hp
    intro t ht
    simpa using hp t ht
  · right
    show (if apartR T g = true then (fun b => b < C.w.heap.size) else C.F) = C.F
    rw [if_neg hp]
end
end Go.Proofs.YthanbjnpfenniaaDoor.Fw

namespace Go.Proofs.YthanbjnpfenniaaDoor.Fw
open Go Go.RowKit
set_option linter.unusedVariables false
set_option linter.unusedSimpArgs false

section
variable {P : Program} {T : Tb} {α : Type} {base : Nat} {C : Cx} {a : Act} {tv : Nat → AV} {nid : Nat} {next : Act → World → Prop} {Q : Exit → Act → World → Prop} {r : α} {k : AV → List (Nat × AO) → Option α}
variable {dst : Option Tmp} {type : TypeId} {pos : String} {after : Array Edge} {guard : Option (Nat × Bool)}
theorem so_append (hT : TbOk P T) (hg : Good base C) (hb : base ≤ C.w.heap.size) (hn : C.H nid = .hole) (ht : Tmps C tv a) (hk : ∀ v u, k v u = some r → Kont base C a dst next v u) {cx : Call} (hc : cx.callee = .builtin .append) {s x : Operand} {t t2 : TypeId} (hxs : cx.args.toList = [s, x]) (hts : cx.argTypes.toList = [t, t2])
    (h : (match T.ty t2 with
        | some ⟨.slice _, _, _, _⟩ => appendC T tv C.H nid t (opnd tv s) (opnd tv x) k
        | _ => none) = some r) : (Oper.mk dst (.call cx) type pos after guard).wp P a C.w next Q := by
  have hs := opnd_rel ht s
  have hx := opnd_rel ht x
  have ha : cx.args = #[s, x] := by rw [← Array.toArray_toList (xs := cx.args), hxs]
  have hb' : cx.argTypes = #[t, t2] := by rw [← Array.toArray_toList (xs := cx.argTypes), hts]
  split at h <;> try (cases h; done)
  rename_i e2 _ _ _ he2
  have hu2 := (hT.ty _ _ he2).und
  simp only [undOk] at hu2
  unfold appendC at h
  split at h <;> try (cases h; done)
  rename_i e _ _ _ he
  have hu := (hT.ty _ _ he).und
  simp only [undOk] at hu
  split at h <;> try (cases h; done)
  rename_i d hd
  have fin : ∀ {val : Value} {w' : World} {C' : Cx} {v : AV} {u : List (Nat × AO)}, (Builtin.append_ #[t, t2] type #[a.eval s, a.eval x]).run P C.w = .ok val w' → C'.w = w' → Good base C' → To base C C' → C'.H = updU u C.H → RelA C' v val → k v u = some r → (Oper.mk dst (.call cx) type pos after guard).wp P a C.w next Q := by
    intro val w' C' v u h1 h2 h3 h4 h5 h6 h7
    subst h2
    exact wp_value (w' := C'.w) (v := val) (by simp [execOp, resolve, hc, ha, hb', invoke, builtin, h1]) (hk _ _ h7 C' val h3 h4 h5 h6)
  split at h <;> try (cases h; done)
  · rename_i t' l' own dies e3 e4
    split at h <;> try (cases h; done)
    rename_i e5
    subst e5
    split at h <;> try (cases h; done)
    rename_i hlim
    rw [e3] at hs
    simp only [RelA] at hs
    obtain ⟨A, hs⟩ := hs
    obtain ⟨val, w', C', h1, h2, h3, h4, h5, h6⟩ := so_append_new (ty := type) (A0 := A) hT hg hb hn hu hu2 hd hx e4 hlim
    exact fin (by rw [hs]; exact h1) h2 h3 h4 h5 h6 h
  · rename_i o ver t' l' own dies e3 e4
    split at h <;> try (cases h; done)
    rename_i t3 l cur dp hH
    split at h <;> try (cases h; done)
    rename_i e5
    subst e5
    split at h <;> try (cases h; done)
    rename_i e6
    subst e6
    split at h <;> try (cases h; done)
    rename_i e7
    subst e7
    split at h <;> try (cases h; done)
    rename_i hfit
    split at h <;> try (cases h; done)
    rename_i hdies
    split at h <;> try (cases h; done)
    rename_i hlim
    rw [e3] at hs
    obtain ⟨val, w', C', h1, h2, h3, h4, h5, h6⟩ := so_append_own (ty := type) hT hg hb hu hu2 hd hH hs hx e4 hfit (by simpa using hdies) hlim
    exact fin h1 h2 h3 h4 h5 h6 h

theorem step_sound (hT : TbOk P T) {Ca : Ca T} (hC : ∀ f args d, Ca.pure f args = some d → PureOk P T f args d) {fid : FuncId} {o : Oper} (hg : Good base C) (hb : base ≤ C.w.heap.size) (hn : ∀ j, j < newCnt T fid o → C.H (nid + j) = .hole) (ht : Tmps C tv a)
    (hk : ∀ v u, k v u = some r → Kont base C a o.dst next v u) (h : stepE T Ca fid tv C.H nid o k = some r) : o.wp P a C.w next Q := by
  obtain ⟨dst, op, type, pos, after, guard⟩ := o
  cases op <;> try (simp [stepE] at h; done)
  case move x => exact so_move hg ht hk (by simp only [stepE] at h; exact h) _ (.inl rfl)
  case assign x => exact so_move hg ht hk (by simp only [stepE] at h; exact h) _ (.inr rfl)
  case pick c x y => exact so_pick hg ht hk (by simp only [stepE] at h; exact h)
  case alloc t => exact so_alloc (nid := nid) hT hg hb (hn 0 (by simp [newCnt])) hk (by simp only [stepE] at h; exact h)
  case box t x => exact so_box (nid := nid) hg hb (hn 0 (by simp [newCnt])) ht hk (by simp only [stepE] at h; exact h)
  case build t ps => exact so_build hT hg ht hk (by simp only [stepE] at h; exact h)
  case buildSlice t len ps => exact so_buildSlice (nid := nid) hT hg hb (hn 0 (by simp [newCnt])) ht hk (by simp only [stepE] at h; exact h)
  case load t x => exact so_load hT hg ht hk (by simp only [stepE] at h; exact h)
  case store t x y => exact so_store hT hg ht hk (by simp only [stepE] at h; exact h)
  case nilCheck x => exact so_nil hg ht hk (by simp only [stepE] at h; exact h)
  case binOp op t x y t2 => exact so_bin hT hg ht hk (by simp only [stepE] at h; exact h)
  case unOp op t x => exact so_un hg ht hk (by simp only [stepE] at h; exact h)
  case convert s t x => exact so_convert hT hg ht hk (by simp only [stepE] at h; exact h)
  case makeFunc f first caps =>
    cases f <;> try (simp [stepE] at h; done)
    exact so_makeFunc hg ht hk (by simp only [stepE] at h; exact h)
  case makeSlice t x y => exact so_makeSlice (nid := nid) hT hg hb (hn 0 (by simp [newCnt])) ht hk (by simp only [stepE] at h; exact h)
  case slice t x lo hi m => exact so_slice hT hg ht hk (by simp only [stepE] at h; exact h)
  case fieldAddr t x f => exact so_fieldAddr hT hg ht hk (by simp only [stepE] at h; exact h)
  case field t x f => exact so_field hT hg ht hk (by simp only [stepE] at h; exact h)
  case indexAddr t x ix => exact so_indexAddr hT hg ht hk (by simp only [stepE] at h; exact h)
  case index t x ix => exact so_index hT hg ht hk (by simp only [stepE] at h; exact h)
  case extract x i => exact so_extract hg ht hk (by simp only [stepE] at h; exact h)
  case call c =>
    simp only [stepE] at h
    split at h <;> try (cases h; done)
    · rename_i hc
      split at h <;> try (cases h; done)
      rename_i h1 h2
      exact so_len hT hg ht hk hc h1 h2 h
    · rename_i hc
      split at h <;> try (cases h; done)
      rename_i h1 h2
      exact so_append (nid := nid) hT hg hb (hn 0 (by simp [newCnt, hc])) ht hk hc h1 h2 h
    · rename_i hc
      exact so_max hg ht hk hc h
    · rename_i hc
      exact so_min hg ht hk hc h
    · rename_i f hc
      have hf := opnd_rel ht f
      split at h <;> try (cases h; done)
      rename_i g caps e
      split at h <;> try (cases h; done)
      split at h <;> try (cases h; done)
      rename_i hcnt
      rw [e] at hf
      simp only [RelA] at hf
      obtain ⟨vs, hv, hcaps⟩ := hf
      obtain ⟨h1, h2⟩ := so_pure hC hg hb (fun j hj => hn j (by omega)) ((opnds_rel ht c.args.toList).append hcaps) hk h
      unfold Oper.wp
      have hrun : (execOp a.eval (Oper.mk dst (.call c) type pos after guard)).run P C.w = .ok (.enter g ((c.args.toList.map a.eval) ++ vs).toArray) C.w := by
        have : (c.args.map a.eval ++ vs.toArray) = ((c.args.toList.map a.eval) ++ vs).toArray := by
          apply Array.toList_inj.1; simp
        simp only [execOp, resolve, hc, hv, Deferred.ofValue, invoke]
        simp [this, h1]
      rw [hrun, Oper.upon_enter]
      refine h2.mono fun e w' he => ?_
      obtain ⟨v, rfl, hx⟩ := he
      exact hx
end
end Go.Proofs.YthanbjnpfenniaaDoor.Fw

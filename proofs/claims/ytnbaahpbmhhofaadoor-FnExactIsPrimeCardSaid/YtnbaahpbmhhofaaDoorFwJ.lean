/- One operation of the interpreter is what the machine does: structs and slices out of parts. -/
import Derived.Test.YtnbaahpbmhhofaaDoorFwI
namespace Go.Proofs.YtnbaahpbmhhofaaDoor.Fw
open Go Go.RowKit
set_option linter.unusedVariables false
set_option linter.unusedSimpArgs false

theorem foldl_set : ∀ (xs : List Value) (s off : Nat) (cs : Array Value), off + s + xs.length ≤ cs.size →
    (xs.zipIdx s).foldl (fun cs (p : Value × Nat) => cs.setIfInBounds (off + p.2) p.1) cs = (cs.toList.take (off + s) ++ xs ++ cs.toList.drop (off + s + xs.length)).toArray
  | [], s, off, cs, _ => by simp
  | x :: r, s, off, cs, h => by
    simp only [List.length_cons] at h
    simp only [List.zipIdx_cons, List.foldl_cons]
    rw [foldl_set r (s + 1) off _ (by simp; omega)]
    have hn : off + s < cs.toList.length := by simp; omega
    have e0 : (cs.setIfInBounds (off + s) x).toList = cs.toList.set (off + s) x := by simp
    have e : cs.toList.set (off + s) x = cs.toList.take (off + s) ++ x :: cs.toList.drop (off + s + 1) := by rw [List.set_eq_take_append_cons_drop, if_pos hn]
    have hm : min (off + s) cs.toList.length = off + s := by omega
    have e1 : (cs.toList.set (off + s) x).take (off + (s + 1)) = cs.toList.take (off + s) ++ [x] := by
      rw [e, List.take_append, List.length_take, hm, show off + (s + 1) - (off + s) = 1 by omega, List.take_take, show min (off + (s + 1)) (off + s) = off + s by omega]
      simp
    have e2 : (cs.toList.set (off + s) x).drop (off + (s + 1) + r.length) = cs.toList.drop (off + s + (r.length + 1)) := by
      rw [e, List.drop_append, List.length_take, hm, show off + (s + 1) + r.length - (off + s) = r.length + 1 by omega, List.drop_succ_cons, List.drop_drop, List.drop_eq_nil_of_le (by simp; omega)]
      simp only [List.nil_append]
      congr 1; omega
    rw [e0, e1, e2]
    simp
theorem fold_arr (v : Value) (off : Nat) (cs : Array Value) (h : off + v.cells.size ≤ cs.size) :
    (v.cells.zipIdx.foldl (fun cs (x : Value × Nat) => match x with | (c, j) => cs.setIfInBounds (off + j) c) cs) = (cs.toList.take off ++ v.cells.toList ++ cs.toList.drop (off + v.cells.toList.length)).toArray := by
  have := foldl_set v.cells.toList 0 off cs (by simpa using h)
  simp only [Nat.add_zero] at this
  rw [← this, ← Array.foldl_toList, Array.toList_zipIdx]
/-- Parts laid into cells, here and there. -/
theorem fill_rel {C : Cx} {place : Nat → Option (Nat × Nat)} : ∀ {ps : List (Nat × AV)} {qs : List (Nat × Value)} {cs cs' : List AV} {vs : List Value}, fillC place cs ps = some cs' → RelL C cs vs → (∀ u ∈ vs, u.oneCell' = true) →
    ps.map (·.1) = qs.map (·.1) → RelL C (ps.map (·.2)) (qs.map (·.2)) → ∃ vs', Instr.fill place vs.toArray qs = some vs'.toArray ∧ RelL C cs' vs' ∧ ∀ u ∈ vs', u.oneCell' = true
  | [], qs, cs, cs', vs, h, hr, h1, hi, hp => by
    cases qs with
    | nil => simp only [fillC, Option.some.injEq] at h; subst h; exact ⟨vs, rfl, hr, h1⟩
    | cons _ _ => simp at hi
  | (i, x) :: ps, qs, cs, cs', vs, h, hr, h1, hi, hp => by
    cases qs with
    | nil => simp at hi
    | cons q qs =>
      obtain ⟨j, v⟩ := q
      simp only [List.map_cons, List.cons.injEq] at hi
      obtain ⟨rfl, hi⟩ := hi
      simp only [List.map_cons, RelL] at hp
      obtain ⟨v', vr, he, hv, hp⟩ := hp
      cases he
      simp only [fillC] at h
      split at h <;> try (cases h; done)
      rename_i off size hpl
      split at h <;> try (cases h; done)
      rename_i ys hys
      split at h <;> try (cases h; done)
      rename_i hsz
      split at h <;> try (cases h; done)
      rename_i hroom
      obtain ⟨k1, k2⟩ := cellsO_rel hv hys
      have hl := hr.len
      have hvs : v.cells.size = size := by rw [← hsz, k1.len]; simp
      have hput := hr.put (n := off) k1 (by omega)
      obtain ⟨vs', a1, a2, a3⟩ := fill_rel h hput (fun u hu => by
        rcases List.mem_append.1 hu with hu | hu
        · rcases List.mem_append.1 hu with hu | hu
          · exact h1 u (List.mem_of_mem_take hu)
          · exact k2 u hu
        · exact h1 u (List.mem_of_mem_drop hu)) hi hp
      refine ⟨vs', ?_, a2, a3⟩
      have hc : ¬ ((v.cells.size ≠ size || off + v.cells.size > vs.toArray.size) = true) := by simp; omega
      simp only [Instr.fill, hpl]
      rw [if_neg (by simpa using hc)]
      rw [fold_arr v off vs.toArray (by simp; omega)]
      simpa using a1
theorem fill_none {place : Nat → Option (Nat × Nat)} : True := trivial

section
variable {P : Program} {T : Tb} {α : Type} {base : Nat} {C : Cx} {a : Act} {tv : Nat → AV} {nid : Nat} {next : Act → World → Prop} {Q : Exit → Act → World → Prop} {r : α} {k : AV → List (Nat × AO) → Option α}
variable {dst : Option Tmp} {type : TypeId} {pos : String} {after : Array Edge} {guard : Option (Nat × Bool)}

theorem places_ok (hT : TbOk P T) : ∀ {fs : List Field} {l : List (Nat × TypeId)} {ps : List (Nat × Nat)}, fs.map (fun f => (f.offset, f.type)) = l → places T l = some ps → fs.mapM (fun f => (P.info? f.type).map fun i => (f.offset, i.size)) = some ps
  | [], l, ps, h, hp => by simp at h; subst h; simp [places] at hp; subst hp; rfl
  | f :: fs, l, ps, h, hp => by
    cases l with
    | nil => simp at h
    | cons x l =>
      simp only [List.map_cons, List.cons.injEq] at h
      obtain ⟨rfl, h⟩ := h
      simp only [places] at hp
      split at hp <;> try (cases hp; done)
      rename_i j s hj hs
      cases hp
      obtain ⟨q, z, h1, h2, _⟩ := (hT.ty _ _ hj).info
      simp only [List.mapM_cons, h1, Option.map_some, Option.bind_eq_bind, Option.bind_some, places_ok hT h hs]
      simp [h2]
theorem parts_rel (ht : Tmps C tv a) : ∀ ps : List (Nat × Operand), RelL C ((ps.map fun p => (p.1, opnd tv p.2)).map (·.2)) ((ps.map fun p => (p.1, a.eval p.2)).map (·.2))
  | [] => by simp [RelL]
  | p :: r => by simp only [List.map_cons, RelL]; exact ⟨_, _, rfl, opnd_rel ht p.2, parts_rel ht r⟩
theorem so_build (hT : TbOk P T) (hg : Good base C) (ht : Tmps C tv a) (hk : ∀ v u, k v u = some r → Kont base C a dst next v u) {t : TypeId} {ps : Array (Nat × Operand)}
    (h : (match T.ty t with
    | some ⟨.struct fs, _, _, z⟩ => match places T fs with
      | some ps' => match fillC (fun i => ps'[i]?) z (ps.toList.map fun p => (p.1, opnd tv p.2)) with
        | some cs => k (.agg cs) []
        | none => none
      | none => none
    | some ⟨.array _ e, _, _, z⟩ => match T.ty e with
      | some j => match fillC (fun i => some (i * j.size, j.size)) z (ps.toList.map fun p => (p.1, opnd tv p.2)) with
        | some cs => k (.agg cs) []
        | none => none
      | none => none
    | _ => none) = some r) : (Oper.mk dst (.build t ps) type pos after guard).wp P a C.w next Q := by
  have fin : ∀ {cs : List AV} {vs : List Value}, P.built t ((ps.toList.map fun p => (p.1, a.eval p.2))) = some vs.toArray → RelL C cs vs → (∀ u ∈ vs, u.oneCell' = true) → k (.agg cs) [] = some r → (Oper.mk dst (.build t ps) type pos after guard).wp P a C.w next Q := by
    intro cs vs h1 h2 h3 h4
    have hrun := run_build (P := P) C.w t (ps.map fun p => (p.1, a.eval p.2)) vs.toArray (by simpa using h1)
    refine wp_value (w' := C.w) (v := .agg vs.toArray) ?_ ((hk _ _ h4).pure hg (by simp only [RelA]; exact ⟨vs, rfl, h3, h2⟩))
    simp only [execOp, Sem.run_bind]
    rw [hrun]
    rfl
  split at h <;> try (cases h; done)
  · rename_i fs s b z hi
    have hti := hT.ty t _ hi
    obtain ⟨q, zv, h1, h2, h3, h4, h5, h6⟩ := hti.info
    obtain ⟨fds, hu, hf, _⟩ := hti.und
    split at h <;> try (cases h; done)
    rename_i pl hpl
    split at h <;> try (cases h; done)
    rename_i cs hc
    obtain ⟨z1, z2⟩ := zero_rel C h5
    obtain ⟨vs, a1, a2, a3⟩ := fill_rel (qs := ps.toList.map fun p => (p.1, a.eval p.2)) hc z1 z2 (by simp) (parts_rel ht ps.toList)
    refine fin (vs := vs) ?_ a2 a3 h
    simp only [Program.built, h1, hu, h4, places_ok hT hf hpl]
    simpa using a1
  · rename_i n e s b z hi
    have hti := hT.ty t _ hi
    obtain ⟨q, zv, h1, h2, h3, h4, h5, h6⟩ := hti.info
    have hu := hti.und
    split at h <;> try (cases h; done)
    rename_i j hj
    split at h <;> try (cases h; done)
    rename_i cs hc
    obtain ⟨q', z', e1, e2, _⟩ := (hT.ty _ _ hj).info
    obtain ⟨z1, z2⟩ := zero_rel C h5
    obtain ⟨vs, a1, a2, a3⟩ := fill_rel (qs := ps.toList.map fun p => (p.1, a.eval p.2)) hc z1 z2 (by simp) (parts_rel ht ps.toList)
    refine fin (vs := vs) ?_ a2 a3 h
    simp only [Program.built, h1, undOk] at hu ⊢
    rw [hu]
    simp only [h4, e1, e2]
    simpa using a1

/-! ### slices of parts -/
theorem fill_seq (size : Nat) : ∀ (us : List Value) (s : Nat) (cs : Array Value), (∀ v ∈ us, v.cells.size = size) → (s + us.length) * size ≤ cs.size →
    Instr.fill (fun i => some (i * size, size)) cs (us.zipIdx s |>.map fun p => (p.2, p.1)) = some (cs.toList.take (s * size) ++ cellsL us ++ cs.toList.drop ((s + us.length) * size)).toArray
  | [], s, cs, _, _ => by simp [Instr.fill, cellsL]
  | v :: us, s, cs, h, hs => by
    have hv := h v (by simp)
    simp only [List.length_cons] at hs
    have e : (s + (us.length + 1)) * size = s * size + size + us.length * size := by rw [Nat.add_mul, Nat.add_mul]; omega
    have e' : (s + 1 + us.length) * size = s * size + size + us.length * size := by rw [Nat.add_mul, Nat.add_mul]; omega
    rw [e] at hs
    have hc : ¬ (decide (v.cells.size ≠ size) || decide (s * size + v.cells.size > cs.size)) = true := by simp; omega
    simp only [List.zipIdx_cons, List.map_cons, Instr.fill]
    rw [if_neg hc, fold_arr v (s * size) cs (by omega)]
    have hl : v.cells.toList.length = size := by simpa using hv
    rw [fill_seq size us (s + 1) _ (fun u hu => h u (List.mem_cons_of_mem _ hu)) (by simp [hv]; omega)]
    congr 2
    simp only [List.length_cons]
    rw [e, e']
    have hm : min (s * size) cs.toList.length = s * size := by simp; omega
    have h1 : (cs.toList.take (s * size) ++ v.cells.toList ++ cs.toList.drop (s * size + v.cells.toList.length)).take ((s + 1) * size) = cs.toList.take (s * size) ++ v.cells.toList := by
      rw [List.append_assoc, ← List.append_assoc]
      apply List.take_left'
      rw [List.length_append, List.length_take, hm, hl, Nat.add_mul]; omega
    have h2 : (cs.toList.take (s * size) ++ v.cells.toList ++ cs.toList.drop (s * size + v.cells.toList.length)).drop (s * size + size + us.length * size) = cs.toList.drop (s * size + size + us.length * size) := by
      rw [List.drop_append, List.drop_eq_nil_of_le (by rw [List.length_append, List.length_take, hm, hl]; omega), List.length_append, List.length_take, hm, hl, List.nil_append, List.drop_drop]
      congr 1; omega
    rw [h1, h2]
    simp [cellsL]
theorem partsIn_seq {a : Act} : ∀ {ps : List (Nat × Operand)} {i : Nat} {vs : List AV}, partsIn i (ps.map fun p => (p.1, opnd tv p.2)) = some vs → vs = ps.map (fun p => opnd tv p.2) ∧ (ps.map fun p => (p.1, a.eval p.2)) = ((ps.map fun p => a.eval p.2).zipIdx i).map fun p => (p.2, p.1)
  | [], i, vs, h => by simp [partsIn] at h; subst h; simp
  | p :: r, i, vs, h => by
    simp only [List.map_cons, partsIn] at h
    split at h <;> try (cases h; done)
    rename_i hp
    obtain ⟨vs', h1, h2⟩ := Option.map_eq_some_iff.1 h
    subst h2
    obtain ⟨e1, e2⟩ := partsIn_seq (a := a) h1
    subst hp
    exact ⟨by simp [e1], by simp [e2, List.zipIdx_cons]⟩
/-- A new array of values' cells. -/
theorem newArr_ok (hg : Good base C) (hb : base ≤ C.w.heap.size) (hn : C.H nid = .hole) {t : Ty} {vs : List AV} {us : List Value} {u : List (Nat × AO)} (h : newArr C.H t vs nid = some u) (hr : RelL C vs us) (hne : vs ≠ []) {cs : Array Value} {tid : TypeId} {c : Nat} {w : World}
    (hcs : ∃ more, cs.toList = cellsL us ++ more) (hc : us.length ≤ c) (hcs2 : c * t.size ≤ cs.size) (hw : ∀ k, k < C.w.heap.size → w.heap[k]? = C.w.heap[k]?) (hs : w.heap.size = C.w.heap.size + 1) (hnew : w.heap[C.w.heap.size]? = some (.cells cs tid (0, 0))) (hbel : Below base C.w w) :
    ∃ C', C'.w = w ∧ Good base C' ∧ To base C C' ∧ C'.H = updU u C.H ∧ RelA C' (.osl nid 0) (.slice (some ⟨C.w.heap.size, 0, none⟩) us.length c) := by
  obtain ⟨more, hcs⟩ := hcs
  have hus : us.length = vs.length := hr.len.symm
  have cget : ∀ (j : Nat) u, (cellsL us)[j]? = some u → cs[j]? = some u := by
    intro j u hj
    have hlt : j < (cellsL us).length := (List.getElem?_eq_some_iff.1 hj).1
    rw [← Array.getElem?_toList, hcs, List.getElem?_append_left hlt]; exact hj
  unfold newArr at h
  split at h
  · rename_i l ids hd
    split at h <;> try (cases h; done)
    rename_i hnd
    cases h
    obtain ⟨a1, a2, a3, a4, ss, a5, a6, a7⟩ := dataAllX_rel hg hd hr
    have hl : l ≠ [] := by intro e; subst e; simp at a1; exact hne (List.eq_nil_of_length_eq_zero a1.symm)
    have hh : ∀ o ∈ ids, C.H o ≠ .hole := fun o ho e => by obtain ⟨t', l', v', d', h'⟩ := a4 o ho; rw [h'] at e; cases e
    have hnn : ids.contains nid = false := by
      cases hcn : ids.contains nid with
      | false => rfl
      | true => exact absurd hn (hh nid (by simpa using hcn))
    have hg1 := hg.drop ids
    have hn1 : (C.drop ids).H nid = .hole := by simp only [Cx.drop, hnn]; exact hn
    have hfree := Free.drop hg (nodupB_nodup hnd)
    have hel : ElemsIn (C.drop ids) t l true (ids.flatMap (blks C)) cs := by
      unfold ElemsIn
      rw [if_pos rfl]
      refine ⟨ss, a5, a6, fun i x hx => ?_⟩
      obtain ⟨zs, b1, b2⟩ := a7 i x hx
      exact ⟨zs, b1, fun j u hj => cget _ _ (b2 j u hj)⟩
    refine ⟨(C.drop ids).new nid C.w.heap.size (ids.flatMap (blks C)) (.arr t l 0 true) w, rfl, Good.arr hg1 hb hn1 hl hfree hel hw hs hnew, ?_, ?_, ?_⟩
    · refine (To.drop base C ids).trans ⟨Ext.new hg1 hn1 hw, by show C.w.heap.size ≤ w.heap.size; omega, hbel, fun _ h => .inl h, fun _ h => h⟩
    · show upd (C.drop ids).H nid _ = _
      rw [updU_append, drop_H hh]; rfl
    · have hlen : us.length = l.length := by omega
      rw [hlen]
      exact osl_new rfl hl (by omega) hnew hcs2
  · split at h
    · rename_i l hd
      cases h
      obtain ⟨a1, a2, a3, a4⟩ := dataAll_rel hd hr
      have hl : l ≠ [] := by intro e; subst e; simp at a1; exact hne (List.eq_nil_of_length_eq_zero a1.symm)
      have hel : ElemsIn C t l false [] cs := by
        unfold ElemsIn
        rw [if_neg (by simp)]
        refine ⟨rfl, fun i x hx => ?_⟩
        obtain ⟨zs, b1, b2⟩ := a4 i x hx
        exact ⟨zs, b1, fun j u hj => cget _ _ (b2 j u hj)⟩
      refine ⟨C.new nid C.w.heap.size [] (.arr t l 0 false) w, rfl, Good.arr hg hb hn hl (Free.nil base C) hel hw hs hnew, ?_, rfl, ?_⟩
      · exact ⟨Ext.new hg hn hw, by show C.w.heap.size ≤ w.heap.size; omega, hbel, fun _ h => .inl h, fun _ h => h⟩
      · have hlen : us.length = l.length := by omega
        rw [hlen]
        exact osl_new rfl hl (by omega) hnew hcs2
    · cases h
theorem cellsL_len {size : Nat} : ∀ {us : List Value}, (∀ v ∈ us, v.cells.size = size) → (cellsL us).length = us.length * size
  | [], _ => by simp [cellsL]
  | v :: r, h => by
    have h1 := h v (by simp)
    have h2 := cellsL_len (us := r) fun u hu => h u (List.mem_cons_of_mem _ hu)
    simp only [cellsL, List.flatMap_cons, List.length_append, List.length_cons] at h2 ⊢
    rw [h2, Nat.add_mul]
    simp [h1]; omega
theorem newArr_size (hg : Good base C) {t : Ty} {vs : List AV} {us : List Value} {u : List (Nat × AO)} (h : newArr C.H t vs nid = some u) (hr : RelL C vs us) : ∀ v ∈ us, v.cells.size = t.size := by
  unfold newArr at h
  split at h
  · rename_i l ids hd
    exact (dataAllX_rel hg hd hr).2.1
  · split at h
    · rename_i l hd
      exact (dataAll_rel hd hr).2.1
    · cases h
theorem updU_nil (H : Nat → AO) : updU [] H = H := rfl
theorem To.world (hg : Good base C) {w : World} (hw : ∀ k, k < C.w.heap.size → w.heap[k]? = C.w.heap[k]?) (hs : C.w.heap.size ≤ w.heap.size) (hbel : Below base C.w w) : To base C { C with w := w } :=
  ⟨Ext.world hg hw, hs, hbel, fun _ h => .inl h, fun _ h => h⟩
theorem so_buildSlice (hT : TbOk P T) (hg : Good base C) (hb : base ≤ C.w.heap.size) (hn : C.H nid = .hole) (ht : Tmps C tv a) (hk : ∀ v u, k v u = some r → Kont base C a dst next v u) {t : TypeId} {len : Nat} {ps : Array (Nat × Operand)}
    (h : (match T.ty t with
    | some ⟨.slice e, _, _, _⟩ => if len = 0 then (match ps.toList, T.dt e with | [], some _ => k .zsl [] | _, _ => none) else match T.dt e, partsIn 0 (ps.toList.map fun p => (p.1, opnd tv p.2)) with
      | some d, some vs => if vs.length = len then (if len * d.size ≤ 16777216 then match newArr C.H d vs nid with
        | some u => k (.osl nid 0) u
        | none => none else none) else none
      | _, _ => none
    | _ => none) = some r) : (Oper.mk dst (.buildSlice t len ps) type pos after guard).wp P a C.w next Q := by
  split at h <;> try (cases h; done)
  rename_i e s b z hi
  have hu := (hT.ty t _ hi).und
  simp only [undOk] at hu
  split at h
  · rename_i h0
    split at h <;> try (cases h; done)
    rename_i d hps hd
    obtain ⟨i, q, zv, d1, d2, d3, d4, d5, d6, d7, d8, d9⟩ := hT.dt e d hd
    subst h0
    have hps' : ps = #[] := by apply Array.toList_eq_nil_iff.1 hps
    subst hps'
    have hx := To.world (base := base) hg (w := C.w.alloc (.cells #[] e)) (fun k hk => heap_alloc _ _ k hk) (by rw [heap_alloc_size]; omega) ((Below.refl base C.w).alloc hb _)
    refine wp_value (w' := C.w.alloc (.cells #[] e)) (v := .slice (some ⟨C.w.heap.size, 0, none⟩) 0 0) ?_ (hk _ _ h { C with w := C.w.alloc (.cells #[] e) } _ (Good.world hg (fun k hk => heap_alloc _ _ k hk) (by rw [heap_alloc_size]; omega)) hx rfl (by simp only [RelA]; exact ⟨_, rfl⟩))
    simp [execOp, Instr.buildSlice, run_underlying hu, sizeOf, typeInfo, d5, d6, Instr.fill, newRow, Array.range_zero']
  · rename_i h0
    split at h <;> try (cases h; done)
    rename_i d vs hd hp
    split at h <;> try (cases h; done)
    rename_i hlen
    split at h <;> try (cases h; done)
    rename_i hlim
    split at h <;> try (cases h; done)
    rename_i u hnew
    obtain ⟨i, q, zv, d1, d2, d3, d4, d5, d6, d7, d8, d9⟩ := hT.dt e d hd
    obtain ⟨e1, e2⟩ := partsIn_seq (a := a) hp
    have hr : RelL C vs (ps.toList.map fun p => a.eval p.2) := by
      have := parts_rel ht ps.toList
      rw [e1]
      simpa [List.map_map, Function.comp_def] using this
    generalize hus : (ps.toList.map fun p => a.eval p.2) = us at hr e2
    have hsz := newArr_size hg hnew hr
    have hul : us.length = len := by rw [← hr.len]; exact hlen
    have hpos := d.size_pos
    have hz0 : len * d.size ≠ 0 := by
      intro e; rcases Nat.mul_eq_zero.1 e with e | e <;> omega
    have hne : vs ≠ [] := by intro e; subst e; simp at hlen; omega
    have hfill := fill_seq d.size us 0 ((Array.range (len * d.size)).map (zv.cells[· % zv.cells.size]!)) hsz (by simp [hul])
    have hcl := cellsL_len hsz
    rw [hul] at hcl
    have hfill' : Instr.fill (fun i => some (i * d.size, d.size)) ((Array.range (len * d.size)).map (zv.cells[· % zv.cells.size]!)) (ps.toList.map fun p => (p.1, a.eval p.2)) = some (cellsL us).toArray := by
      rw [e2, hfill]
      congr 1
      simp only [Nat.zero_mul, Nat.zero_add, List.take_zero, List.nil_append, hul]
      rw [List.drop_eq_nil_of_le (by simp), List.append_nil]
    have hlim' : ¬ (16777216 < len * d.size) := by omega
    have hrun : (execOp a.eval (Oper.mk dst (.buildSlice t len ps) type pos after guard)).run P C.w = .ok (.value (.slice (some ⟨C.w.heap.size, 0, none⟩) len len)) (C.w.alloc (.cells (cellsL us).toArray e)) := by
      have hfill2 : Instr.fill (fun i => some (i * d.size, d.size)) ((Array.range (len * d.size)).map (zv.cells[· % zv.cells.size]!)) (ps.map fun p => (p.1, a.eval p.2)).toList = some (cellsL us).toArray := by simpa using hfill'
      simp only [execOp, Instr.buildSlice, Sem.run_bind, run_underlying hu, Result.andThen_ok, sizeOf, typeInfo, run_program, d5, Sem.run_pure, d6]
      rw [if_neg hlim', if_neg hz0]
      simp only [Sem.run_bind, zeroValue, typeInfo, run_program, d5, d8, Sem.run_pure, Result.andThen_ok]
      rw [hfill2]
      simp [newRow]
    obtain ⟨C', c1, c2, c3, c4, c5⟩ := newArr_ok (base := base) (tid := e) (c := len) (w := C.w.alloc (.cells (cellsL us).toArray e)) hg hb hn hnew hr hne ⟨[], by simp⟩ (by omega) (by simp [hcl]) (fun k hk => heap_alloc _ _ k hk) (heap_alloc_size _ _) (heap_alloc_new _ _) ((Below.refl base C.w).alloc hb _)
    refine wp_value hrun ?_
    rw [← c1]
    exact hk _ _ h C' _ c2 c3 c4 (by rw [hul] at c5; exact c5)
end
end Go.Proofs.YtnbaahpbmhhofaaDoor.Fw

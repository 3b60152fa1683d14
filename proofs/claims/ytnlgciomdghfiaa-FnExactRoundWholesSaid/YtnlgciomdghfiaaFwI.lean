/- One operation of the interpreter is what the machine does: the cases, on. -/
import Derived.Test.YtnlgciomdghfiaaFwH
namespace Go.Proofs.Ytnlgciomdghfiaa.Fw
open Go Go.RowKit
set_option linter.unusedVariables false
set_option linter.unusedSimpArgs false

theorem setT_get : ∀ (cs : List AV) (n : Nat) (v : AV) (j : Nat), (setT cs n v)[j]? = if j = n ∧ n < cs.length then some v else cs[j]?
  | [], n, v, j => by simp [setT]
  | x :: r, 0, v, j => by cases j <;> simp [setT]
  | x :: r, n + 1, v, j => by
    cases j with
    | zero => simp [setT]
    | succ j => simp only [setT, List.getElem?_cons_succ, setT_get r n v j, List.length_cons]; congr 1; simp
theorem setT_len : ∀ (cs : List AV) (n : Nat) (v : AV), (setT cs n v).length = cs.length
  | [], _, _ => rfl
  | _ :: _, 0, _ => rfl
  | _ :: r, n + 1, v => by simp [setT, setT_len r n v]
theorem setT_eq : ∀ (cs : List AV) (n : Nat) (v : AV), setT cs n v = cs.set n v
  | [], _, _ => rfl
  | _ :: _, 0, _ => rfl
  | _ :: r, n + 1, v => by simp [setT, setT_eq r n v]
theorem putCells_eq : ∀ (ys cs : List AV) (n : Nat), n + ys.length ≤ cs.length → putCells cs n ys = cs.take n ++ ys ++ cs.drop (n + ys.length)
  | [], cs, n, _ => by simp [putCells]
  | y :: r, cs, n, h => by
    simp only [List.length_cons] at h
    simp only [putCells, setT_eq]
    rw [putCells_eq r _ _ (by simp; omega)]
    have hn : n < cs.length := by omega
    have e : cs.set n y = cs.take n ++ y :: cs.drop (n + 1) := by rw [List.set_eq_take_append_cons_drop, if_pos hn]
    have e1 : (cs.set n y).take (n + 1) = cs.take n ++ [y] := by
      rw [e, List.take_append, List.length_take, show min n cs.length = n by omega, show n + 1 - n = 1 by omega]
      simp [List.take_take]
    have e2 : (cs.set n y).drop (n + 1 + r.length) = cs.drop (n + (r.length + 1)) := by
      rw [e, List.drop_append, List.length_take, show min n cs.length = n by omega, show n + 1 + r.length - n = r.length + 1 by omega, List.drop_succ_cons, List.drop_drop, List.drop_eq_nil_of_le (by simp; omega)]
      simp only [List.nil_append]
      congr 1; omega
    rw [e1, e2]
    simp
theorem putCells_len : ∀ (ys cs : List AV) (n : Nat), (putCells cs n ys).length = cs.length
  | [], _, _ => rfl
  | y :: r, cs, n => by simp only [putCells]; rw [putCells_len r, setT_len]
theorem RelL.put {C : Cx} {cs ys : List AV} {vs us : List Value} {n : Nat} (h : RelL C cs vs) (k : RelL C ys us) (hn : n + ys.length ≤ cs.length) : RelL C (putCells cs n ys) (vs.take n ++ us ++ vs.drop (n + us.length)) := by
  rw [putCells_eq _ _ _ hn, ← k.len]
  exact (h.take.append k).append h.drop

section
variable {P : Program} {T : Tb} {α : Type} {base : Nat} {C : Cx} {a : Act} {tv : Nat → AV} {nid : Nat} {next : Act → World → Prop} {Q : Exit → Act → World → Prop} {r : α} {k : AV → List (Nat × AO) → Option α}
variable {dst : Option Tmp} {type : TypeId} {pos : String} {after : Array Edge} {guard : Option (Nat × Bool)}

/-! ### stores -/
theorem run_store_ti {t : TypeId} {i : TI} (h : TiOk P t i) {w : World} {b off : Nat} {v : Value} {cur : Array Value} {tid : TypeId} (hb : w.heap[b]? = some (.cells cur tid (0, 0))) (hs : v.cells.size = i.size) (ho : off + v.cells.size ≤ cur.size) (h1 : ∀ u ∈ v.cells.toList, u.oneCell' = true) :
    (storeVar t ⟨b, off, none⟩ v).run P w = .ok () (w.setRow b (cur.toList.take off ++ v.cells.toList ++ cur.toList.drop (off + v.cells.toList.length)).toArray) := by
  have := run_storeCells_at (P := P) b off tid v.cells.toList 0 cur w hb (by simpa using ho) h1
  simp only [Nat.add_zero] at this
  have hs' : ¬ (v.cells.size ≠ i.size) := fun h => h hs
  simp only [storeVar, Sem.run_bind, run_sizeOf_ti h, Result.andThen_ok, if_neg hs', Sem.run_ite, Sem.run_pure]
  exact this
theorem setRow_below {w : World} {b base : Nat} (hb : base ≤ b) (cs : Array Value) : Below base w (w.setRow b cs) :=
  ⟨rfl, rfl, rfl, by simp, fun k hk => setRow_other w b k cs (by omega)⟩
/-- A block of ours has new cells. -/
theorem setRow_step {C : Cx} (hg : Good base C) {o : Nat} {x : AO} {cur cs : Array Value} {tid : TypeId} (hbk : C.w.heap[C.blk o]? = some (.cells cur tid (0, 0))) (hin : C.blk o ∈ blks C o) (hsz : cs.size = cur.size)
    (hx : match C.H o, x with | .box _, .box _ => True | .arr t l ver _, .arr t' l' ver' _ => ver = ver' ∧ t'.size = t.size ∧ l'.length = l.length | _, _ => False) :
    To base C { C with H := upd C.H o x, w := C.w.setRow (C.blk o) cs } := by
  have hlow := hg.low o _ hin
  have hother : ∀ b, b ≠ C.blk o → (C.w.setRow (C.blk o) cs).heap[b]? = C.w.heap[b]? := fun b h => setRow_other _ _ _ _ h
  refine ⟨⟨fun _ h => h, fun _ h => h, fun b hb => hother b (fun e => ?_), fun p => ?_⟩, by simp, setRow_below hlow.1 _, fun _ h => .inl h, fun _ h => h⟩
  · subst e
    rcases hb with h | h
    · exact hlow.2.2.1 h
    · exact hlow.2.2.2 h
  · by_cases hp : p = o
    · subst hp
      simp only [ObjExt, upd_same]
      cases hH : C.H p <;> rw [hH] at hx <;> cases x <;> simp only at hx <;> try (exact hx.elim)
      · trivial
      · obtain ⟨rfl, e2, e3⟩ := hx
        refine .inr ⟨rfl, e2, e3, fun _ => ⟨trivial, fun cs0 tid0 h0 => ?_⟩⟩
        rw [hbk] at h0
        cases h0
        exact ⟨cs, setRow_heap _ _ _ _ _ _ hbk, hsz⟩
    · exact ObjExt.same (by simp [upd_ne _ _ hp]) rfl fun b hb => hother b (fun e => by subst e; exact hg.dj p o _ hp hb hin)
theorem so_store_box (hg : Good base C) {o : Nat} {cells cells' : List AV} {cur cs : Array Value} {tid : TypeId} (hH : C.H o = .box cells) (hbk : C.w.heap[C.blk o]? = some (.cells cur tid (0, 0))) (hsz : cs.size = cur.size)
    (hr : RelL C cells' cs.toList) (h1 : ∀ u ∈ cs.toList, u.oneCell' = true) (hk : Kont base C a dst next .top [(o, .box cells')]) : next (a.put dst undef) (C.w.setRow (C.blk o) cs) := by
  have hin : C.blk o ∈ blks C o := by simp [blks, hH]
  have hto := setRow_step (x := .box cells') hg hbk hin hsz (by rw [hH]; trivial)
  refine hk _ _ ?_ hto rfl (by simp [RelA])
  refine hg.one o hto.ext (fun p h => by simp [upd_ne _ _ h]) (fun _ _ => rfl) (fun _ _ => rfl) (fun p hp b hb => setRow_other _ _ _ _ (fun e => by subst e; exact hg.dj p o _ hp hb hin)) (fun _ h => h) (fun _ h => h) (by simp) ?_ ?_ ?_ ?_
  · simp only [upd_same, ObjOk]
    exact ⟨cs, tid, setRow_heap _ _ _ _ _ _ hbk, h1, hr.mono hto.ext⟩
  · intro b hb
    simp only [blks, upd_same, List.mem_singleton] at hb
    subst hb
    obtain ⟨a1, a2, a3, a4⟩ := hg.low o _ hin
    exact ⟨a1, by simpa using a2, a3, a4⟩
  · simp [blks]
  · intro p hp b hb
    simp only [blks, upd_same, List.mem_singleton] at hb
    subst hb
    exact fun h => hg.dj p o _ hp h hin
theorem so_store_arr (hg : Good base C) {o i : Nat} {t : Ty} {l : List t.D} {ver : Nat} {dp : Bool} {cur : Array Value} {tid : TypeId} {y : t.D} {us : List Value} (hH : C.H o = .arr t l ver dp) (hi : i < l.length) (hf : t.flat = true) (hbk : C.w.heap[C.blk o]? = some (.cells cur tid (0, 0)))
    (hy : RelD C.F C.w t y us) (hk : Kont base C a dst next .top [(o, .arr t (l.set i y) ver dp)]) : next (a.put dst undef) (C.w.setRow (C.blk o) (cur.toList.take (i * t.size) ++ us ++ cur.toList.drop (i * t.size + us.length)).toArray) := by
  have hl : l ≠ [] := by intro e; subst e; simp at hi
  have hne : ¬ (l.isEmpty = true) := by simpa using hl
  have hin : C.blk o ∈ blks C o := by simp only [blks, hH]; rw [if_neg hne]; simp
  have hob := hg.ob o
  rw [hH] at hob
  simp only [ObjOk, ArrOk] at hob
  rcases hob with hob | ⟨_, cs', tid', h1, h2⟩
  · exact absurd hob.1 hl
  rw [hbk] at h1
  cases h1
  have hlen := hy.len
  -- every element's cells
  have hel : ∀ (j : Nat) x, l[j]? = some x → ∃ zs, RelX C.w t x zs [] ∧ ∀ m u, zs[m]? = some u → cur[j * t.size + m]? = some u := by
    intro j x hx
    unfold ElemsOk at h2
    split at h2
    · obtain ⟨ss, b1, b2, b3⟩ := h2
      obtain ⟨zs, c1, c2⟩ := b3 j x hx
      rw [c1.flat hf] at c1
      exact ⟨zs, c1, c2⟩
    · obtain ⟨zs, c1, c2⟩ := h2.2 j x hx
      exact ⟨zs, c1.flat _ hf, c2⟩
  have hroom : i * t.size + t.size ≤ cur.size := by
    obtain ⟨zs, c1, c2⟩ := hel i _ (List.getElem?_eq_getElem hi)
    have hz := c1.len
    have hp := t.size_pos
    have hlt : t.size - 1 < zs.length := by omega
    have := (Array.getElem?_eq_some_iff.1 (c2 (t.size - 1) _ (List.getElem?_eq_getElem hlt))).1
    omega
  have hsz : (cur.toList.take (i * t.size) ++ us ++ cur.toList.drop (i * t.size + us.length)).toArray.size = cur.size := by
    simp [hlen]; omega
  have hto := setRow_step (x := .arr t (l.set i y) ver dp) (cs := (cur.toList.take (i * t.size) ++ us ++ cur.toList.drop (i * t.size + us.length)).toArray) hg hbk hin hsz (by rw [hH]; exact ⟨rfl, rfl, by simp⟩)
  have hne' : ¬ ((l.set i y).isEmpty = true) := by simp; exact hl
  have hnew : ∀ (j : Nat) x, (l.set i y)[j]? = some x → ∃ zs, RelX C.w t x zs [] ∧ ∀ m u, zs[m]? = some u → (cur.toList.take (i * t.size) ++ us ++ cur.toList.drop (i * t.size + us.length)).toArray[j * t.size + m]? = some u := by
    intro j x hx
    rw [List.getElem?_set] at hx
    by_cases hij : i = j
    · subst hij
      rw [if_pos rfl, if_pos hi] at hx
      cases hx
      refine ⟨us, hy.flat _ hf, fun m u hm => ?_⟩
      have hm' : m < us.length := (List.getElem?_eq_some_iff.1 hm).1
      rw [List.getElem?_toArray, List.append_assoc, List.getElem?_append_right (by simp; omega), List.getElem?_append_left (by simp; omega)]
      simp only [List.length_take, Array.length_toList]
      rw [show i * t.size + m - min (i * t.size) cur.size = m by omega]
      exact hm
    · rw [if_neg hij] at hx
      obtain ⟨zs, c1, c2⟩ := hel j x hx
      refine ⟨zs, c1, fun m u hm => ?_⟩
      have hm' : m < t.size := by rw [← c1.len]; exact (List.getElem?_eq_some_iff.1 hm).1
      have hcur := c2 m u hm
      rw [List.getElem?_toArray, List.append_assoc]
      rcases Nat.lt_or_gt_of_ne hij with h | h
      · -- i < j
        have : (i + 1) * t.size ≤ j * t.size := Nat.mul_le_mul_right _ h
        rw [Nat.add_mul] at this
        rw [List.getElem?_append_right (by simp; omega), List.getElem?_append_right (by simp; omega)]
        simp only [List.length_take, Array.length_toList, List.getElem?_drop]
        rw [show i * t.size + us.length + (j * t.size + m - min (i * t.size) cur.size - us.length) = j * t.size + m by omega]
        simpa using hcur
      · have : (j + 1) * t.size ≤ i * t.size := Nat.mul_le_mul_right _ h
        rw [Nat.add_mul] at this
        rw [List.getElem?_append_left (by simp; omega), List.getElem?_take, if_pos (by omega)]
        simpa using hcur
  have hown : C.own o = [] := by
    unfold ElemsOk at h2
    split at h2
    · obtain ⟨ss, b1, b2, b3⟩ := h2
      rw [b1, List.flatten_eq_nil_iff]
      intro s hs
      obtain ⟨m, hm, rfl⟩ := List.mem_iff_getElem.1 hs
      have hm' : m < l.length := by omega
      obtain ⟨zs, c1, _⟩ := b3 m _ (List.getElem?_eq_getElem hm')
      have := c1.flat hf
      rwa [List.getD_eq_getElem?_getD, List.getElem?_eq_getElem hm] at this
    · exact h2.1
  refine hk _ _ ?_ hto rfl (by simp [RelA])
  refine hg.one o hto.ext (fun p h => by simp [upd_ne _ _ h]) (fun _ _ => rfl) (fun _ _ => rfl) (fun p hp b hb => setRow_other _ _ _ _ (fun e => by subst e; exact hg.dj p o _ hp hb hin)) (fun _ h => h) (fun _ h => h) (by simp) ?_ ?_ ?_ ?_
  · simp only [upd_same, ObjOk, ArrOk]
    refine .inr ⟨by simpa using hne', _, tid, setRow_heap _ _ _ _ _ _ hbk, ?_⟩
    unfold ElemsOk
    split
    · refine ⟨List.replicate (l.set i y).length [], by simp [hown], by simp, fun j x hx => ?_⟩
      obtain ⟨zs, c1, c2⟩ := hnew j x hx
      have hj : j < (l.set i y).length := (List.getElem?_eq_some_iff.1 hx).1
      refine ⟨zs, ?_, c2⟩
      rw [List.getD_eq_getElem?_getD, List.getElem?_replicate, if_pos hj]
      exact c1.mono fun b hb => by cases hb
    · refine ⟨hown, fun j x hx => ?_⟩
      obtain ⟨zs, c1, c2⟩ := hnew j x hx
      exact ⟨zs, (c1.toD (fun b hb => by cases hb)).mono (fun _ h => h) (fun b hb => hto.ext.heap b (.inl hb)), c2⟩
  · intro b hb
    simp only [blks, upd_same] at hb
    rw [if_neg hne', hown] at hb
    simp only [List.mem_singleton] at hb
    subst hb
    obtain ⟨a1, a2, a3, a4⟩ := hg.low o _ hin
    exact ⟨a1, by simpa using a2, a3, a4⟩
  · simp only [blks, upd_same]
    rw [if_neg hne', hown]; simp
  · intro p hp b hb
    simp only [blks, upd_same] at hb
    rw [if_neg hne', hown] at hb
    simp only [List.mem_singleton] at hb
    subst hb
    exact fun h => hg.dj p o _ hp h hin
theorem exec_store {ρ : Operand → Value} {t : TypeId} {x y : Operand} {ad : Addr} {w w' : World} (hx : ρ x = .pointer (some ad)) (hr : (storeVar t ad (ρ y)).run P w = .ok () w') : (execOp ρ (Oper.mk dst (.store t x y) type pos after guard)).run P w = .ok .skip w' := by
  simp [execOp, Instr.storeAt, hx, Instr.sureAddr, hr]
theorem so_store (hT : TbOk P T) (hg : Good base C) (ht : Tmps C tv a) (hk : ∀ v u, k v u = some r → Kont base C a dst next v u) {t : TypeId} {x y : Operand}
    (h : (match T.ty t, cellsO (opnd tv y) with
    | some i, some ys => if ys.length = i.size then match opnd tv x with
      | .bptr p off => match C.H p with
        | .box cells => if off + i.size ≤ cells.length then k .top [(p, .box (putCells cells off ys))] else none
        | _ => none
      | .eptr p ver j off => match C.H p with
        | .arr d l cur dp => if cur = ver then (if off = 0 then (if i.size = d.size then (if d.flat = true then (match toD d ys with
          | some y => k .top [(p, .arr d (l.set j y) cur dp)]
          | none => none) else none) else none) else none) else none
        | _ => none
      | _ => none else none
    | _, _ => none) = some r) : (Oper.mk dst (.store t x y) type pos after guard).wp P a C.w next Q := by
  split at h <;> try (cases h; done)
  rename_i i ys hi hys
  have hti := hT.ty t i hi
  obtain ⟨h1, h2⟩ := cellsO_rel (opnd_rel ht y) hys
  split at h <;> try (cases h; done)
  rename_i hlen
  have hsz : (a.eval y).cells.size = i.size := by rw [← hlen, h1.len]; simp
  have hr := opnd_rel ht x
  split at h <;> try (cases h; done)
  · rename_i p off hx
    split at h <;> try (cases h; done)
    rename_i cells hH
    split at h <;> try (cases h; done)
    rename_i hroom
    rw [hx] at hr
    simp only [RelA, BptrOk, hH] at hr
    have hob := hg.ob p
    rw [hH] at hob
    simp only [ObjOk] at hob
    obtain ⟨cur, tid, hb, hone, hrel⟩ := hob
    have hl := hrel.len
    have hrun := run_store_ti hti (off := off) (v := a.eval y) hb hsz (by rw [hsz]; simp at hl; omega) h2
    refine wp_skipped (exec_store hr.2 hrun) ?_
    refine so_store_box hg hH hb ?_ ?_ ?_ (hk _ _ h)
    · have := hsz; simp at hl ⊢; omega
    · simpa using hrel.put h1 (by omega)
    · intro u hu
      rcases List.mem_append.1 hu with hu | hu
      · rcases List.mem_append.1 hu with hu | hu
        · exact hone u (List.mem_of_mem_take hu)
        · exact h2 u hu
      · exact hone u (List.mem_of_mem_drop hu)
  · rename_i p ver j off hx
    split at h <;> try (cases h; done)
    rename_i d l cur dp hH
    split at h <;> try (cases h; done)
    rename_i hv
    subst hv
    split at h <;> try (cases h; done)
    rename_i ho
    subst ho
    split at h <;> try (cases h; done)
    rename_i hs
    split at h <;> try (cases h; done)
    rename_i hf
    split at h <;> try (cases h; done)
    rename_i yv hy
    rw [hx] at hr
    simp only [RelA, EptrOk, hH] at hr
    obtain ⟨_, hr | ⟨_, hj, hr⟩⟩ := hr
    · omega
    have hl : l ≠ [] := by intro e; subst e; simp at hj
    have hob := hg.ob p
    rw [hH] at hob
    simp only [ObjOk, ArrOk] at hob
    rcases hob with hob | ⟨_, cs, tid, hb, hel⟩
    · exact absurd hob.1 hl
    have hD := toD_rel hy h1
    have hroom : j * d.size + d.size ≤ cs.size := by
      have key : ∃ zs : List Value, zs.length = d.size ∧ ∀ m u, zs[m]? = some u → cs[j * d.size + m]? = some u := by
        unfold ElemsOk at hel
        split at hel
        · obtain ⟨ss, b1, b2, b3⟩ := hel
          obtain ⟨zs, c1, c2⟩ := b3 j _ (List.getElem?_eq_getElem hj)
          exact ⟨zs, c1.len, c2⟩
        · obtain ⟨zs, c1, c2⟩ := hel.2 j _ (List.getElem?_eq_getElem hj)
          exact ⟨zs, c1.len, c2⟩
      obtain ⟨zs, c1, c2⟩ := key
      have hp := d.size_pos
      have hlt : d.size - 1 < zs.length := by omega
      have := (Array.getElem?_eq_some_iff.1 (c2 (d.size - 1) _ (List.getElem?_eq_getElem hlt))).1
      omega
    have hrun := run_store_ti hti (off := j * d.size + 0) (v := a.eval y) hb hsz (by rw [hsz]; omega) h2
    refine wp_skipped (exec_store hr hrun) ?_
    exact so_store_arr (dst := dst) (next := next) (a := a) hg hH hj hf hb hD (hk _ _ h)
end
end Go.Proofs.Ytnlgciomdghfiaa.Fw

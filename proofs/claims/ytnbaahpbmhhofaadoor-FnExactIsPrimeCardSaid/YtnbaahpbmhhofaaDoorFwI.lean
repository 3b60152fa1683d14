/- One operation of the interpreter is what the machine does: the cases, on. -/
import Derived.Test.YtnbaahpbmhhofaaDoorFwHa
namespace Go.Proofs.YtnbaahpbmhhofaaDoor.Fw
open Go Go.RowKit
set_option linter.unusedVariables false
set_option linter.unusedSimpArgs false

theorem setT_get : ∀ (cs : List AV) (n : Nat) (v : AV) (j : Nat), (setT cs n v)[j]? = if j = n ∧ n < cs.length then some v else cs[j]?
  | [], n, v, j => by simp [setT]
  | x :: r, 0, v, j => by cases j <;> simp [setT]
  | x :: r, n + 1, v, j => by
    cases j with
    | zero => simp [setT]
    | succ j => simp only [setT, List.getElem?_cons_succ, setT_get r n v j, List.length_cons]; congr 1; simp
theorem setT_len : ∀ (cs : List AV) (n : Nat) (v : AV), (setT cs n v).length = cs.length
  | [], _, _ => rfl
  | _ :: _, 0, _ => rfl
  | _ :: r, n + 1, v => by simp [setT, setT_len r n v]
theorem setT_eq : ∀ (cs : List AV) (n : Nat) (v : AV), setT cs n v = cs.set n v
  | [], _, _ => rfl
  | _ :: _, 0, _ => rfl
  | _ :: r, n + 1, v => by simp [setT, setT_eq r n v]
theorem putCells_eq : ∀ (ys cs : List AV) (n : Nat), n + ys.length ≤ cs.length → putCells cs n ys = cs.take n ++ ys ++ cs.drop (n + ys.length)
  | [], cs, n, _ => by simp [putCells]
  | y :: r, cs, n, h => by
    simp only [List.length_cons] at h
    simp only [putCells, setT_eq]
    rw [putCells_eq r _ _ (by simp; omega)]
    have hn : n < cs.length := by omega
    have e : cs.set n y = cs.take n ++ y :: cs.drop (n + 1) := by rw [List.set_eq_take_append_cons_drop, if_pos hn]
    have e1 : (cs.set n y).take (n + 1) = cs.take n ++ [y] := by
      rw [e, List.take_append, List.length_take, show min n cs.length = n by omega, show n + 1 - n = 1 by omega]
      simp [List.take_take]
    have e2 : (cs.set n y).drop (n + 1 + r.length) = cs.drop (n + (r.length + 1)) := by
      rw [e, List.drop_append, List.length_take, show min n cs.length = n by omega, show n + 1 + r.length - n = r.length + 1 by omega, List.drop_succ_cons, List.drop_drop, List.drop_eq_nil_of_le (by simp; omega)]
      simp only [List.nil_append]
      congr 1; omega
    rw [e1, e2]
    simp
theorem putCells_len : ∀ (ys cs : List AV) (n : Nat), (putCells cs n ys).length = cs.length
  | [], _, _ => rfl
  | y :: r, cs, n => by simp only [putCells]; rw [putCells_len r, setT_len]
theorem RelL.put {C : Cx} {cs ys : List AV} {vs us : List Value} {n : Nat} (h : RelL C cs vs) (k : RelL C ys us) (hn : n + ys.length ≤ cs.length) : RelL C (putCells cs n ys) (vs.take n ++ us ++ vs.drop (n + us.length)) := by
  rw [putCells_eq _ _ _ hn, ← k.len]
  exact (h.take.append k).append h.drop

section
variable {P : Program} {T : Tb} {α : Type} {base : Nat} {C : Cx} {a : Act} {tv : Nat → AV} {nid : Nat} {next : Act → World → Prop} {Q : Exit → Act → World → Prop} {r : α} {k : AV → List (Nat × AO) → Option α}
variable {dst : Option Tmp} {type : TypeId} {pos : String} {after : Array Edge} {guard : Option (Nat × Bool)}

/-! ### stores -/
theorem run_store_ti {t : TypeId} {i : TI} (h : TiOk P t i) {w : World} {b off : Nat} {v : Value} {cur : Array Value} {tid : TypeId} (hb : w.heap[b]? = some (.cells cur tid (0, 0))) (hs : v.cells.size = i.size) (ho : off + v.cells.size ≤ cur.size) (h1 : ∀ u ∈ v.cells.toList, u.oneCell' = true) :
    (storeVar t ⟨b, off, none⟩ v).run P w = .ok () (w.setRow b (cur.toList.take off ++ v.cells.toList ++ cur.toList.drop (off + v.cells.toList.length)).toArray) := by
  have := run_storeCells_at (P := P) b off tid v.cells.toList 0 cur w hb (by simpa using ho) h1
  simp only [Nat.add_zero] at this
  have hs' : ¬ (v.cells.size ≠ i.size) := fun h => h hs
  simp only [storeVar, Sem.run_bind, run_sizeOf_ti h, Result.andThen_ok, if_neg hs', Sem.run_ite, Sem.run_pure]
  exact this
theorem setRow_below {w : World} {b base : Nat} (hb : base ≤ b) (cs : Array Value) : Below base w (w.setRow b cs) :=
  ⟨rfl, rfl, rfl, by simp, fun k hk => setRow_other w b k cs (by omega)⟩
/-- A block of ours has new cells. -/
theorem setRow_step {C : Cx} (hg : Good base C) {o : Nat} {x : AO} {cur cs : Array Value} {tid : TypeId} (hbk : C.w.heap[C.blk o]? = some (.cells cur tid (0, 0))) (hin : C.blk o ∈ blks C o) (hsz : cs.size = cur.size)
    (hx : match C.H o, x with | .box _, .box _ => True | .arr t l ver _, .arr t' l' ver' _ => ver = ver' ∧ t'.size = t.size ∧ l'.length = l.length ∧ (ver = 0 ∨ t.flat = true) | _, _ => False) :
    To base C { C with H := upd C.H o x, w := C.w.setRow (C.blk o) cs } := by
  have hlow := hg.low o _ hin
  have hother : ∀ b, b ≠ C.blk o → (C.w.setRow (C.blk o) cs).heap[b]? = C.w.heap[b]? := fun b h => setRow_other _ _ _ _ h
  refine ⟨⟨fun _ h => h, fun _ h => h, fun b hb => hother b (fun e => ?_), fun p => ?_⟩, by simp, setRow_below hlow.1 _, fun _ h => .inl h, fun _ h => h⟩
  · subst e
    rcases hb with h | h
    · exact hlow.2.2.1 h
    · exact hlow.2.2.2 h
  · by_cases hp : p = o
    · subst hp
      simp only [ObjExt, upd_same]
      cases hH : C.H p <;> rw [hH] at hx <;> cases x <;> simp only at hx <;> try (exact hx.elim)
      · trivial
      · obtain ⟨rfl, e2, e3, e4⟩ := hx
        refine .inr ⟨rfl, e2, e3, fun _ => ⟨trivial, fun cs0 tid0 h0 => ?_, fun hp hf => ?_⟩⟩
        · rw [hbk] at h0
          cases h0
          exact ⟨cs, setRow_heap _ _ _ _ _ _ hbk, hsz⟩
        · rcases e4 with e4 | e4
          · omega
          · rw [hf] at e4; cases e4
    · exact ObjExt.same (by simp [upd_ne _ _ hp]) rfl fun b hb => hother b (fun e => by subst e; exact hg.dj p o _ hp hb hin)
theorem so_store_box (hg : Good base C) {o : Nat} {cells cells' : List AV} {cur cs : Array Value} {tid : TypeId} (hH : C.H o = .box cells) (hbk : C.w.heap[C.blk o]? = some (.cells cur tid (0, 0))) (hsz : cs.size = cur.size)
    (hr : RelL C cells' cs.toList) (h1 : ∀ u ∈ cs.toList, u.oneCell' = true) (hk : Kont base C a dst next .top [(o, .box cells')]) : next (a.put dst undef) (C.w.setRow (C.blk o) cs) := by
  have hin : C.blk o ∈ blks C o := by simp [blks, hH]
  have hto := setRow_step (x := .box cells') hg hbk hin hsz (by rw [hH]; trivial)
  refine hk _ _ ?_ hto rfl (by simp [RelA])
  refine hg.one o hto.ext (fun p h => by simp [upd_ne _ _ h]) (fun _ _ => rfl) (fun _ _ => rfl) (fun p hp b hb => setRow_other _ _ _ _ (fun e => by subst e; exact hg.dj p o _ hp hb hin)) (fun _ h => h) (fun _ h => h) (by simp) ?_ ?_ ?_ ?_
  · simp only [upd_same, ObjOk]
    exact ⟨cs, tid, setRow_heap _ _ _ _ _ _ hbk, h1, hr.mono hto.ext⟩
  · intro b hb
    simp only [blks, upd_same, List.mem_singleton] at hb
    subst hb
    obtain ⟨a1, a2, a3, a4⟩ := hg.low o _ hin
    exact ⟨a1, by simpa using a2, a3, a4⟩
  · simp [blks]
  · intro p hp b hb
    simp only [blks, upd_same, List.mem_singleton] at hb
    subst hb
    exact fun h => hg.dj p o _ hp h hin
theorem so_store_arr (hg : Good base C) {o i : Nat} {t : Ty} {l : List t.D} {ver : Nat} {dp : Bool} {cur : Array Value} {tid : TypeId} {y : t.D} {us : List Value} (hH : C.H o = .arr t l ver dp) (hi : i < l.length) (hf : t.flat = true) (hbk : C.w.heap[C.blk o]? = some (.cells cur tid (0, 0)))
    (hy : RelD C.F C.w t y us) (hk : Kont base C a dst next .top [(o, .arr t (l.set i y) ver dp)]) : next (a.put dst undef) (C.w.setRow (C.blk o) (cur.toList.take (i * t.size) ++ us ++ cur.toList.drop (i * t.size + us.length)).toArray) := by
  have hl : l ≠ [] := by intro e; subst e; simp at hi
  have hne : ¬ (l.isEmpty = true) := by simpa using hl
  have hin : C.blk o ∈ blks C o := by simp only [blks, hH]; rw [if_neg hne]; simp
  have hob := hg.ob o
  rw [hH] at hob
  simp only [ObjOk, ArrOk] at hob
  rcases hob with hob | ⟨_, cs', tid', h1, h2⟩
  · exact absurd hob.1 hl
  rw [hbk] at h1
  cases h1
  have hlen := hy.len
  -- every element's cells
  have hel : ∀ (j : Nat) x, l[j]? = some x → ∃ zs, RelX C.w t x zs [] ∧ ∀ m u, zs[m]? = some u → cur[j * t.size + m]? = some u := by
    intro j x hx
    unfold ElemsOk at h2
    split at h2
    · obtain ⟨ss, b1, b2, b3⟩ := h2
      obtain ⟨zs, c1, c2⟩ := b3 j x hx
      rw [c1.flat hf] at c1
      exact ⟨zs, c1, c2⟩
    · obtain ⟨zs, c1, c2⟩ := h2.2 j x hx
      exact ⟨zs, c1.flat _ hf, c2⟩
  have hroom : i * t.size + t.size ≤ cur.size := by
    obtain ⟨zs, c1, c2⟩ := hel i _ (List.getElem?_eq_getElem hi)
    have hz := c1.len
    have hp := t.size_pos
    have hlt : t.size - 1 < zs.length := by omega
    have := (Array.getElem?_eq_some_iff.1 (c2 (t.size - 1) _ (List.getElem?_eq_getElem hlt))).1
    omega
  have hsz : (cur.toList.take (i * t.size) ++ us ++ cur.toList.drop (i * t.size + us.length)).toArray.size = cur.size := by
    simp [hlen]; omega
  have hto := setRow_step (x := .arr t (l.set i y) ver dp) (cs := (cur.toList.take (i * t.size) ++ us ++ cur.toList.drop (i * t.size + us.length)).toArray) hg hbk hin hsz (by rw [hH]; exact ⟨rfl, rfl, by simp, .inr hf⟩)
  have hne' : ¬ ((l.set i y).isEmpty = true) := by simp; exact hl
  have hnew : ∀ (j : Nat) x, (l.set i y)[j]? = some x → ∃ zs, RelX C.w t x zs [] ∧ ∀ m u, zs[m]? = some u → (cur.toList.take (i * t.size) ++ us ++ cur.toList.drop (i * t.size + us.length)).toArray[j * t.size + m]? = some u := by
    intro j x hx
    rw [List.getElem?_set] at hx
    by_cases hij : i = j
    · subst hij
      rw [if_pos rfl, if_pos hi] at hx
      cases hx
      refine ⟨us, hy.flat _ hf, fun m u hm => ?_⟩
      have hm' : m < us.length := (List.getElem?_eq_some_iff.1 hm).1
      rw [List.getElem?_toArray, List.append_assoc, List.getElem?_append_right (by simp; omega), List.getElem?_append_left (by simp; omega)]
      simp only [List.length_take, Array.length_toList]
      rw [show i * t.size + m - min (i * t.size) cur.size = m by omega]
      exact hm
    · rw [if_neg hij] at hx
      obtain ⟨zs, c1, c2⟩ := hel j x hx
      refine ⟨zs, c1, fun m u hm => ?_⟩
      have hm' : m < t.size := by rw [← c1.len]; exact (List.getElem?_eq_some_iff.1 hm).1
      have hcur := c2 m u hm
      rw [List.getElem?_toArray, List.append_assoc]
      rcases Nat.lt_or_gt_of_ne hij with h | h
      · -- i < j
        have : (i + 1) * t.size ≤ j * t.size := Nat.mul_le_mul_right _ h
        rw [Nat.add_mul] at this
        rw [List.getElem?_append_right (by simp; omega), List.getElem?_append_right (by simp; omega)]
        simp only [List.length_take, Array.length_toList, List.getElem?_drop]
        rw [show i * t.size + us.length + (j * t.size + m - min (i * t.size) cur.size - us.length) = j * t.size + m by omega]
        simpa using hcur
      · have : (j + 1) * t.size ≤ i * t.size := Nat.mul_le_mul_right _ h
        rw [Nat.add_mul] at this
        rw [List.getElem?_append_left (by simp; omega), List.getElem?_take, if_pos (by omega)]
        simpa using hcur
  have hown : C.own o = [] := by
    unfold ElemsOk at h2
    split at h2
    · obtain ⟨ss, b1, b2, b3⟩ := h2
      rw [b1, List.flatten_eq_nil_iff]
      intro s hs
      obtain ⟨m, hm, rfl⟩ := List.mem_iff_getElem.1 hs
      have hm' : m < l.length := by omega
      obtain ⟨zs, c1, _⟩ := b3 m _ (List.getElem?_eq_getElem hm')
      have := c1.flat hf
      rwa [List.getD_eq_getElem?_getD, List.getElem?_eq_getElem hm] at this
    · exact h2.1
  refine hk _ _ ?_ hto rfl (by simp [RelA])
  refine hg.one o hto.ext (fun p h => by simp [upd_ne _ _ h]) (fun _ _ => rfl) (fun _ _ => rfl) (fun p hp b hb => setRow_other _ _ _ _ (fun e => by subst e; exact hg.dj p o _ hp hb hin)) (fun _ h => h) (fun _ h => h) (by simp) ?_ ?_ ?_ ?_
  · simp only [upd_same, ObjOk, ArrOk]
    refine .inr ⟨by simpa using hne', _, tid, setRow_heap _ _ _ _ _ _ hbk, ?_⟩
    unfold ElemsOk
    split
    · refine ⟨List.replicate (l.set i y).length [], by simp [hown], by simp, fun j x hx => ?_⟩
      obtain ⟨zs, c1, c2⟩ := hnew j x hx
      have hj : j < (l.set i y).length := (List.getElem?_eq_some_iff.1 hx).1
      refine ⟨zs, ?_, c2⟩
      rw [List.getD_eq_getElem?_getD, List.getElem?_replicate, if_pos hj]
      exact c1.mono fun b hb => by cases hb
    · refine ⟨hown, fun j x hx => ?_⟩
      obtain ⟨zs, c1, c2⟩ := hnew j x hx
      exact ⟨zs, (c1.toD (fun b hb => by cases hb)).mono (fun _ h => h) (fun b hb => hto.ext.heap b (.inl hb)), c2⟩
  · intro b hb
    simp only [blks, upd_same] at hb
    rw [if_neg hne', hown] at hb
    simp only [List.mem_singleton] at hb
    subst hb
    obtain ⟨a1, a2, a3, a4⟩ := hg.low o _ hin
    exact ⟨a1, by simpa using a2, a3, a4⟩
  · simp only [blks, upd_same]
    rw [if_neg hne', hown]; simp
  · intro p hp b hb
    simp only [blks, upd_same] at hb
    rw [if_neg hne', hown] at hb
    simp only [List.mem_singleton] at hb
    subst hb
    exact fun h => hg.dj p o _ hp h hin
/-- A number is stored in a slice that stands in an element of ours. -/
theorem so_iput (hT : TbOk P T) (hg : Good base C) (hk : ∀ v u, k v u = some r → Kont base C a dst next v u) {t : TypeId} {ti : TI} (hti : TiOk P t ti) {x y : Operand} {ys : List AV} (hys : RelL C ys (a.eval y).cells.toList) (h2 : ∀ u ∈ (a.eval y).cells.toList, u.oneCell' = true) (hsz : (a.eval y).cells.size = ti.size)
    {o ver i c j : Nat} (hr : IptrOk C o ver i c j (a.eval x)) (h : iputC C.H o ver i c j ys k = some r) :
    ∃ ad w', a.eval x = .pointer (some ad) ∧ (storeVar t ad (a.eval y)).run P C.w = .ok () w' ∧ next (a.put dst undef) w' := by
  unfold iputC at h
  split at h <;> try (cases h; done)
  rename_i T' l cur dp hH
  split at h <;> try (cases h; done)
  rename_i hv
  subst hv
  split at h <;> try (cases h; done)
  rename_i hd
  subst hd
  split at h <;> try (cases h; done)
  rename_i k1 m k2 yv hsl
  split at h <;> try (cases h; done)
  rename_i hkk
  subst hkk
  simp only [IptrOk, hH] at hr
  obtain ⟨_, hr | ⟨_, hp, hf, hi, b, n, cap, hcell, hj, hval⟩⟩ := hr
  · omega
  have hl : l ≠ [] := by intro e; subst e; simp at hi
  have hne : ¬ (l.isEmpty = true) := by simpa using hl
  have hob := hg.ob o
  rw [hH] at hob
  simp only [ObjOk, ArrOk] at hob
  rcases hob with hob | ⟨_, cs, tid, hc, hel⟩
  · exact absurd hob.1 hl
  unfold ElemsOk at hel
  rw [if_pos rfl] at hel
  obtain ⟨ss, s1, s2, s3⟩ := hel
  have hbl : blks C o = C.blk o :: C.own o := by simp only [blks, hH, if_neg hne]
  have hgd : l.getD i T'.dflt = l[i] := by rw [List.getD_eq_getElem?_getD, List.getElem?_eq_getElem hi]; rfl
  rw [hgd] at hsl h
  obtain ⟨us, u1, u2⟩ := s3 i _ (List.getElem?_eq_getElem hi)
  obtain ⟨v, v1, v2⟩ := u1.slAt hsl
  have hv := u2 c v v1
  rw [cell_of_cells hc, hv] at hcell
  cases hcell
  rcases v2 with ⟨_, A, hA⟩ | ⟨hm, b', cap', cs1, tid1, hA, hb1, hb2, hb3⟩
  · cases hA; omega
  cases hA
  have hbo : b ∈ C.own o := by rw [s1]; exact getD_mem_flatten hb3
  have hnd := hg.nd o
  rw [hbl] at hnd
  have hbne : b ≠ C.blk o := fun e => (List.nodup_cons.1 hnd).1 (by rw [← e]; exact hbo)
  have hyv : (a.eval y).cells.toList = [.int k1 yv] := by
    obtain ⟨u, e1, e2⟩ := hys.one
    rw [e1]
    simp only [RelA] at e2
    rw [e2]
  have hys1 : (a.eval y).cells.size = 1 := by rw [← Array.length_toList, hyv]; rfl
  have hrun := run_store_ti hti (off := j) (v := a.eval y) hb1 hsz (by omega) h2
  rw [hyv] at hrun
  generalize hcs' : (cs1.toList.take j ++ [Value.int k1 yv] ++ cs1.toList.drop (j + [Value.int k1 yv].length)).toArray = cs' at hrun
  have hcs : ∀ q, cs'[q]? = if q = j then some (.int k1 yv) else cs1[q]? := by
    intro q
    have hset : cs1.toList.take j ++ [Value.int k1 yv] ++ cs1.toList.drop (j + 1) = cs1.toList.set j (.int k1 yv) := by
      rw [List.set_eq_take_append_cons_drop, if_pos (by simp; omega)]; simp
    rw [← hcs']
    simp only [List.length_singleton]
    rw [hset]
    simp only [List.getElem?_toArray, List.getElem?_set, Array.length_toList, Array.getElem?_toList]
    by_cases hq : j = q
    · subst hq; simp; omega
    · rw [if_neg hq, if_neg (fun e => hq e.symm)]
  have hszc : cs'.size = cs1.size := by rw [← hcs']; simp; omega
  have hlow := hg.low o b (by rw [hbl]; exact List.mem_cons_of_mem _ hbo)
  have hother : ∀ q, q ≠ b → (C.w.setRow b cs').heap[q]? = C.w.heap[q]? := fun q h => setRow_other _ _ _ _ h
  have hsame : ∀ q, q ≠ o → ∀ p ∈ blks C q, (C.w.setRow b cs').heap[p]? = C.w.heap[p]? := fun q hq p hp => hother p (fun e => by subst e; exact hg.dj q o p hq hp (by rw [hbl]; exact List.mem_cons_of_mem _ hbo))
  have hto : To base C { C with H := upd C.H o (.arr T' (l.set i (slSet T' c l[i] j yv)) cur true), w := C.w.setRow b cs' } := by
    refine ⟨⟨fun _ h => h, fun _ h => h, fun q hq => hother q (fun e => ?_), fun q => ?_⟩, by simp, setRow_below hlow.1 _, fun _ h => .inl h, fun _ h => h⟩
    · subst e
      rcases hq with h | h
      · exact hlow.2.2.1 h
      · exact hlow.2.2.2 h
    · by_cases hq : q = o
      · subst hq
        simp only [ObjExt, upd_same, hH]
        exact .inr ⟨trivial, trivial, by simp, fun _ => ⟨trivial, fun cs0 tid0 h0 => ⟨cs0, by rw [hother _ (fun e => hbne e.symm)]; exact h0, rfl⟩, fun _ hf => ⟨hf, hother _ (fun e => hbne e.symm)⟩⟩⟩
      · exact ObjExt.same (by simp [upd_ne _ _ hq]) rfl (hsame q hq)
  refine ⟨_, _, hval, hrun, ?_⟩
  have hne' : ¬ ((l.set i (slSet T' c l[i] j yv)).isEmpty = true) := by simp; exact hl
  refine hk _ _ h _ _ ?_ hto rfl (by simp [RelA])
  refine hg.one o hto.ext (fun p h => by simp [upd_ne _ _ h]) (fun _ _ => rfl) (fun _ _ => rfl) hsame (fun _ h => h) (fun _ h => h) (by simp) ?_ ?_ ?_ ?_
  · simp only [upd_same, ObjOk, ArrOk]
    refine .inr ⟨by simpa using hne', cs, tid, by show (C.w.setRow b cs').heap[C.blk o]? = _; rw [hother _ (fun e => hbne e.symm)]; exact hc, ?_⟩
    unfold ElemsOk
    rw [if_pos rfl]
    have hfn : ss.flatten.Nodup := by rw [← s1]; exact (List.nodup_cons.1 hnd).2
    refine ⟨ss, s1, by simpa using s2, fun q z hz => ?_⟩
    rw [List.getElem?_set] at hz
    by_cases hq : i = q
    · subst hq
      rw [if_pos rfl, if_pos hi] at hz
      cases hz
      refine ⟨us, ?_, u2⟩
      have hsn : (ss.getD i []).Nodup := by
        rw [List.getD_eq_getElem?_getD, List.getElem?_eq_getElem (by omega)]
        exact hfn.sublist (List.sublist_flatten_of_mem (List.getElem_mem _))
      exact RelX.slSet hb1 (setRow_heap _ _ _ _ _ _ hb1) hszc hcs hother hsl u1 hsn v1 (by omega)
    · rw [if_neg hq] at hz
      obtain ⟨us', w1, w2⟩ := s3 q z hz
      exact ⟨us', w1.mono fun p hp => hother p (fun e => by subst e; exact flat_apart hfn hq hb3 hp), w2⟩
  · intro p hp
    have hp' : p ∈ blks C o := by
      simp only [blks, upd_same] at hp
      rw [if_neg hne'] at hp
      rw [hbl]; exact hp
    obtain ⟨a1, a2, a3, a4⟩ := hg.low o p hp'
    exact ⟨a1, by simpa using a2, a3, a4⟩
  · simp only [blks, upd_same]
    rw [if_neg hne']; exact hnd
  · intro q hq p hp
    simp only [blks, upd_same] at hp
    rw [if_neg hne', ← hbl] at hp
    exact fun h => hg.dj q o p hq h hp
/-- A whole element with slices is stored. -/
theorem so_wput (hg : Good base C) (hk : ∀ v u, k v u = some r → Kont base C a dst next v u) {p j : Nat} {d : Ty} {l : List d.D} {cur : Nat} {dp : Bool} {ys : List AV} {us : List Value} {cs : Array Value} {tid : TypeId} (hH : C.H p = .arr d l cur dp) (hj : j < l.length)
    (hbk : C.w.heap[C.blk p]? = some (.cells cs tid (0, 0))) (hys : RelL C ys us) (h : wputC C.H p j d l cur dp ys k = some r) :
    next (a.put dst undef) (C.w.setRow (C.blk p) (cs.toList.take (j * d.size) ++ us ++ cs.toList.drop (j * d.size + us.length)).toArray) := by
  unfold wputC at h
  split at h <;> try (cases h; done)
  rename_i hd
  subst hd
  split at h <;> try (cases h; done)
  rename_i hcur
  subst hcur
  split at h <;> try (cases h; done)
  rename_i y ids hX
  split at h <;> try (cases h; done)
  rename_i hnb
  split at h <;> try (cases h; done)
  rename_i hpi
  have hpi : p ∉ ids := by simpa using hpi
  obtain ⟨x1, x2⟩ := toX_rel hg hX hys
  have hlen := x1.len
  have hl : l ≠ [] := by intro e; subst e; simp at hj
  have hne : ¬ (l.isEmpty = true) := by simpa using hl
  have hob := hg.ob p
  rw [hH] at hob
  simp only [ObjOk, ArrOk] at hob
  rcases hob with hob | ⟨_, cs0, tid0, hc, hel⟩
  · exact absurd hob.1 hl
  rw [hbk] at hc
  cases hc
  unfold ElemsOk at hel
  rw [if_pos rfl] at hel
  obtain ⟨ss, s1, s2, s3⟩ := hel
  have hbl : blks C p = C.blk p :: C.own p := by simp only [blks, hH, if_neg hne]
  have hroom : j * d.size + d.size ≤ cs.size := by
    obtain ⟨zs, c1, c2⟩ := s3 j _ (List.getElem?_eq_getElem hj)
    have hz := c1.len
    have hp := d.size_pos
    have := (Array.getElem?_eq_some_iff.1 (c2 (d.size - 1) _ (List.getElem?_eq_getElem (by omega)))).1
    omega
  obtain ⟨k1, k2⟩ := cells_set (n := d.size) (i := j) (cur := cs.toList) hlen (by simpa using hroom)
  generalize hcs' : (cs.toList.take (j * d.size) ++ us ++ cs.toList.drop (j * d.size + us.length)).toArray = cs' at k1 k2
  have hszc : cs'.size = cs.size := by rw [← hcs']; simp [hlen]; omega
  -- the objects that are let go
  have hnh : ∀ o ∈ ids, C.H o ≠ .hole := fun o ho => by obtain ⟨_, _, _, _, e⟩ := x2 o ho; rw [e]; simp
  have hgd := Good.drop hg ids
  have hfr := Free.drop hg (nodupB_nodup hnb)
  have hpc : ¬ (ids.contains p = true) := by simpa using hpi
  have hH1 : (C.drop ids).H p = .arr d l 0 true := by simp only [Cx.drop, if_neg hpc, hH]
  have hbl1 : blks (C.drop ids) p = C.blk p :: C.own p := by rw [blks_drop, if_neg hpc, hbl]
  have hnd := hg.nd p
  rw [hbl] at hnd
  have hlow := hg.low p (C.blk p) (by rw [hbl]; simp)
  have hdj : ∀ b ∈ ids.flatMap (blks C), b ∉ blks C p := by
    intro b hb hbp
    obtain ⟨o, ho, hob⟩ := List.mem_flatMap.1 hb
    exact hg.dj o p b (fun e => by subst e; exact hpi ho) hob hbp
  obtain ⟨f1, f2⟩ := flat_set (ss := ss) (j := j) (S := ids.flatMap (blks C)) (by rw [← s1]; exact (List.nodup_cons.1 hnd).2) hfr.1 (fun b hb h => hdj b hb (by rw [hbl, s1]; exact List.mem_cons_of_mem _ h))
  have hother : ∀ q, q ≠ C.blk p → (C.w.setRow (C.blk p) cs').heap[q]? = C.w.heap[q]? := fun q h => setRow_other _ _ _ _ h
  have hsame : ∀ q, q ≠ p → ∀ b ∈ blks (C.drop ids) q, (C.w.setRow (C.blk p) cs').heap[b]? = C.w.heap[b]? := fun q hq b hb => hother b (fun e => by
    subst e
    exact hgd.dj q p _ hq hb (by rw [hbl1]; simp))
  let C' : Cx := { C.drop ids with H := upd (C.drop ids).H p (.arr d (l.set j y) 0 true), own := upd C.own p (ss.set j (ids.flatMap (blks C))).flatten, w := C.w.setRow (C.blk p) cs' }
  have hext : Ext (C.drop ids) C' := by
    refine ⟨fun _ h => h, fun _ h => h, fun q hq => hother q (fun e => ?_), fun q => ?_⟩
    · subst e
      rcases hq with h | h
      · exact hlow.2.2.1 h
      · exact hlow.2.2.2 h
    · by_cases hq : q = p
      · subst hq
        simp only [ObjExt, C', upd_same, hH1]
        refine .inr ⟨trivial, trivial, by simp, fun _ => ⟨trivial, fun cs0 tid0 h0 => ?_, fun h => by omega⟩⟩
        have h0' : C.w.heap[C.blk q]? = some (.cells cs0 tid0 (0, 0)) := h0
        rw [hbk] at h0'
        cases h0'
        exact ⟨cs', setRow_heap _ _ _ _ _ _ hbk, hszc⟩
      · exact ObjExt.same (by simp [C', upd_ne _ _ hq]) rfl (hsame q hq)
  have hto : To base C C' := (To.drop base C ids).trans ⟨hext, by show C.w.heap.size ≤ (C.w.setRow (C.blk p) cs').heap.size; simp, setRow_below hlow.1 _, fun _ h => .inl h, fun _ h => h⟩
  have hne' : ¬ ((l.set j y).isEmpty = true) := by simp; exact hl
  have hbl' : blks C' p = C.blk p :: (ss.set j (ids.flatMap (blks C))).flatten := by
    simp only [blks, C', upd_same, if_neg hne']; rfl
  have hin : ∀ b ∈ blks C' p, b ∈ blks C p ∨ b ∈ ids.flatMap (blks C) := by
    intro b hb
    rw [hbl'] at hb
    rw [hbl]
    rcases List.mem_cons.1 hb with h | h
    · exact .inl (by rw [h]; simp)
    · rcases f2 b h with h | h
      · exact .inl (by rw [s1]; exact List.mem_cons_of_mem _ h)
      · exact .inr h
  refine hk _ _ h C' _ ?_ hto ?_ (by simp [RelA])
  · refine hgd.one p hext (fun q h => by simp [C', upd_ne _ _ h]) (fun _ _ => rfl) (fun q h => by simp [C', upd_ne _ _ h, Cx.drop]) hsame (fun _ h => h) (fun _ h => h) (by show C.w.heap.size ≤ (C.w.setRow (C.blk p) cs').heap.size; simp) ?_ ?_ ?_ ?_
    · show ObjOk C' p (upd (C.drop ids).H p (.arr d (l.set j y) 0 true) p)
      rw [upd_same]
      simp only [ObjOk, ArrOk]
      refine .inr ⟨by simpa using hne', cs', tid, setRow_heap _ _ _ _ _ _ hbk, ?_⟩
      unfold ElemsOk
      rw [if_pos rfl]
      refine ⟨ss.set j (ids.flatMap (blks C)), by simp [C'], by simpa using s2, fun q z hz => ?_⟩
      have hq' : q < l.length := by have := (List.getElem?_eq_some_iff.1 hz).1; simpa using this
      rw [List.getElem?_set] at hz
      by_cases hq : j = q
      · subst hq
        rw [if_pos rfl, if_pos hj] at hz
        cases hz
        refine ⟨us, ?_, k1⟩
        rw [List.getD_eq_getElem?_getD, List.getElem?_set, if_pos rfl, if_pos (by omega)]
        exact x1.mono fun b hb => hother b (fun e => by subst e; exact hdj _ hb (by rw [hbl]; simp))
      · rw [if_neg hq] at hz
        obtain ⟨us', w1, w2⟩ := s3 q z hz
        refine ⟨us', ?_, fun m u hm => k2 q m u hq (by rw [← w1.len]; exact (List.getElem?_eq_some_iff.1 hm).1) (by simpa using w2 m u hm)⟩
        rw [List.getD_eq_getElem?_getD, List.getElem?_set, if_neg hq, ← List.getD_eq_getElem?_getD]
        exact w1.mono fun b hb => hother b (fun e => by subst e; exact (List.nodup_cons.1 hnd).1 (by rw [s1]; exact getD_mem_flatten hb))
    · intro b hb
      rcases hin b hb with h | h
      · obtain ⟨a1, a2, a3, a4⟩ := hg.low p b h
        exact ⟨a1, by show b < (C.w.setRow (C.blk p) cs').heap.size; simpa using a2, a3, a4⟩
      · obtain ⟨a1, a2, a3, a4, _⟩ := hfr.2 b h
        have a2' : b < C.w.heap.size := a2
        exact ⟨a1, by show b < (C.w.setRow (C.blk p) cs').heap.size; simpa using a2', a3, a4⟩
    · rw [hbl']
      refine List.nodup_cons.2 ⟨fun h => ?_, f1⟩
      rcases f2 _ h with h | h
      · exact (List.nodup_cons.1 hnd).1 (by rw [s1]; exact h)
      · exact hdj _ h (by rw [hbl]; simp)
    · intro q hq b hb hb2
      rcases hin b hb with h | h
      · exact hgd.dj q p b hq hb2 (by rw [hbl1, ← hbl]; exact h)
      · exact (hfr.2 b h).2.2.2.2 q hb2
  · show upd (C.drop ids).H p (.arr d (l.set j y) 0 true) = _
    rw [updU_append, ← drop_H hnh]
    rfl
theorem exec_store {ρ : Operand → Value} {t : TypeId} {x y : Operand} {ad : Addr} {w w' : World} (hx : ρ x = .pointer (some ad)) (hr : (storeVar t ad (ρ y)).run P w = .ok () w') : (execOp ρ (Oper.mk dst (.store t x y) type pos after guard)).run P w = .ok .skip w' := by
  simp [execOp, Instr.storeAt, hx, Instr.sureAddr, hr]
theorem so_store (hT : TbOk P T) (hg : Good base C) (ht : Tmps C tv a) (hk : ∀ v u, k v u = some r → Kont base C a dst next v u) {t : TypeId} {x y : Operand}
    (h : (match T.ty t, cellsO (opnd tv y) with
    | some i, some ys => if ys.length = i.size then match opnd tv x with
      | .bptr p off => match C.H p with
        | .box cells => if off + i.size ≤ cells.length then k .top [(p, .box (putCells cells off ys))] else none
        | _ => none
      | .eptr p ver j off => match C.H p with
        | .arr d l cur dp => if cur = ver then (if off = 0 then (if i.size = d.size then (if d.flat = true then (match toD d ys with
          | some y => k .top [(p, .arr d (l.set j y) cur dp)]
          | none => none) else wputC C.H p j d l cur dp ys k) else none) else none) else none
        | _ => none
      | .iptr p ver i c j => iputC C.H p ver i c j ys k
      | _ => none else none
    | _, _ => none) = some r) : (Oper.mk dst (.store t x y) type pos after guard).wp P a C.w next Q := by
  split at h <;> try (cases h; done)
  rename_i i ys hi hys
  have hti := hT.ty t i hi
  obtain ⟨h1, h2⟩ := cellsO_rel (opnd_rel ht y) hys
  split at h <;> try (cases h; done)
  rename_i hlen
  have hsz : (a.eval y).cells.size = i.size := by rw [← hlen, h1.len]; simp
  have hr := opnd_rel ht x
  split at h <;> try (cases h; done)
  · rename_i p off hx
    split at h <;> try (cases h; done)
    rename_i cells hH
    split at h <;> try (cases h; done)
    rename_i hroom
    rw [hx] at hr
    simp only [RelA, BptrOk, hH] at hr
    have hob := hg.ob p
    rw [hH] at hob
    simp only [ObjOk] at hob
    obtain ⟨cur, tid, hb, hone, hrel⟩ := hob
    have hl := hrel.len
    have hrun := run_store_ti hti (off := off) (v := a.eval y) hb hsz (by rw [hsz]; simp at hl; omega) h2
    refine wp_skipped (exec_store hr.2 hrun) ?_
    refine so_store_box hg hH hb ?_ ?_ ?_ (hk _ _ h)
    · have := hsz; simp at hl ⊢; omega
    · simpa using hrel.put h1 (by omega)
    · intro u hu
      rcases List.mem_append.1 hu with hu | hu
      · rcases List.mem_append.1 hu with hu | hu
        · exact hone u (List.mem_of_mem_take hu)
        · exact h2 u hu
      · exact hone u (List.mem_of_mem_drop hu)
  · rename_i p ver j off hx
    split at h <;> try (cases h; done)
    rename_i d l cur dp hH
    split at h <;> try (cases h; done)
    rename_i hv
    subst hv
    split at h <;> try (cases h; done)
    rename_i ho
    subst ho
    split at h <;> try (cases h; done)
    rename_i hs
    rw [hx] at hr
    simp only [RelA, EptrOk, hH] at hr
    obtain ⟨_, hr | ⟨_, hj, hr⟩⟩ := hr
    · omega
    have hl : l ≠ [] := by intro e; subst e; simp at hj
    have hob := hg.ob p
    rw [hH] at hob
    simp only [ObjOk, ArrOk] at hob
    rcases hob with hob | ⟨_, cs, tid, hb, hel⟩
    · exact absurd hob.1 hl
    have hroom : j * d.size + d.size ≤ cs.size := by
      have key : ∃ zs : List Value, zs.length = d.size ∧ ∀ m u, zs[m]? = some u → cs[j * d.size + m]? = some u := by
        unfold ElemsOk at hel
        split at hel
        · obtain ⟨ss, b1, b2, b3⟩ := hel
          obtain ⟨zs, c1, c2⟩ := b3 j _ (List.getElem?_eq_getElem hj)
          exact ⟨zs, c1.len, c2⟩
        · obtain ⟨zs, c1, c2⟩ := hel.2 j _ (List.getElem?_eq_getElem hj)
          exact ⟨zs, c1.len, c2⟩
      obtain ⟨zs, c1, c2⟩ := key
      have hp := d.size_pos
      have hlt : d.size - 1 < zs.length := by omega
      have := (Array.getElem?_eq_some_iff.1 (c2 (d.size - 1) _ (List.getElem?_eq_getElem hlt))).1
      omega
    have hrun := run_store_ti hti (off := j * d.size + 0) (v := a.eval y) hb hsz (by rw [hsz]; omega) h2
    refine wp_skipped (exec_store hr hrun) ?_
    split at h
    · rename_i hf
      split at h <;> try (cases h; done)
      rename_i yv hy
      have hD := toD_rel hy h1
      exact so_store_arr (dst := dst) (next := next) (a := a) hg hH hj hf hb hD (hk _ _ h)
    · exact so_wput hg hk hH hj hb h1 h
  · rename_i p ver i' c j hx
    rw [hx] at hr
    simp only [RelA] at hr
    obtain ⟨ad, w', e1, e2, e3⟩ := so_iput hT hg hk hti h1 h2 hsz hr h
    exact wp_skipped (exec_store e1 e2) e3
end
end Go.Proofs.YtnbaahpbmhhofaaDoor.Fw

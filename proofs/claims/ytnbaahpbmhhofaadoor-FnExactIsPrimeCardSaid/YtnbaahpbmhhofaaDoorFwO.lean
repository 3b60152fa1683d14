/- One operation of the interpreter is what the machine does: append. -/
import Derived.Test.YtnbaahpbmhhofaaDoorFwN
namespace Go.Proofs.YtnbaahpbmhhofaaDoor.Fw
open Go Go.RowKit
set_option linter.unusedVariables false
set_option linter.unusedSimpArgs false

theorem Free.sub {base : Nat} {C : Cx} {S S' : List Nat} (h : Free base C S) (hs : S'.Sublist S) : Free base C S' := ⟨h.1.sublist hs, fun b hb => h.2 b (hs.subset hb)⟩
/-- The cells of a slice that nobody writes. -/
theorem RelD.cells {F : Nat → Prop} {w : World} {t : Ty} {l : List t.D} {v : Value} (h : RelD F w (.sl t) l [v]) :
    ∃ A c cs, v = .slice A l.length c ∧ l.length ≤ c ∧ cs.length = l.length * t.size ∧ (∀ u ∈ cs, u.oneCell' = true) ∧ (∀ i x, l[i]? = some x → ∃ us, RelD F w t x us ∧ ∀ j u, us[j]? = some u → cs[i * t.size + j]? = some u) ∧
      ((l = [] ∧ cs = []) ∨ ∃ b o, A = some ⟨b, o, none⟩ ∧ ∀ j u, cs[j]? = some u → w.cell? ⟨b, o + j, none⟩ = some u) := by
  simp only [RelD] at h
  obtain ⟨A, c, hv, hc, h⟩ := h
  replace hv := (List.cons.inj hv).1
  rcases h with rfl | ⟨b, o, rfl, hF, h⟩
  · exact ⟨A, c, [], hv, hc, by simp, by simp, fun i x hx => by simp at hx, .inl ⟨rfl, rfl⟩⟩
  · have hp := t.size_pos
    have all : ∀ m, m < l.length * t.size → ∃ u, w.cell? ⟨b, o + m, none⟩ = some u ∧ u.oneCell' = true := by
      intro m hm
      have hi : m / t.size < l.length := Nat.div_lt_of_lt_mul (by rw [Nat.mul_comm]; exact hm)
      have hmod : m % t.size < t.size := Nat.mod_lt _ hp
      have hdm : m / t.size * t.size + m % t.size = m := by rw [Nat.mul_comm]; exact Nat.div_add_mod m t.size
      obtain ⟨us, u1, u2⟩ := h _ _ (List.getElem?_eq_getElem hi)
      have hz := u1.len
      have := u2 (m % t.size) _ (List.getElem?_eq_getElem (by omega))
      rw [Nat.add_assoc, hdm] at this
      exact ⟨_, this, u1.onecell _ (List.getElem_mem _)⟩
    refine ⟨_, c, (List.range (l.length * t.size)).map fun m => (w.cell? ⟨b, o + m, none⟩).getD undef, hv, hc, by simp, ?_, ?_, .inr ⟨b, o, rfl, ?_⟩⟩
    · intro u hu
      obtain ⟨m, hm, rfl⟩ := List.mem_map.1 hu
      obtain ⟨u', a1, a2⟩ := all m (List.mem_range.1 hm)
      rw [a1]; exact a2
    · intro i x hx
      obtain ⟨us, u1, u2⟩ := h i x hx
      refine ⟨us, u1, fun j u hj => ?_⟩
      have hi : i < l.length := (List.getElem?_eq_some_iff.1 hx).1
      have hj' : j < t.size := by rw [← u1.len]; exact (List.getElem?_eq_some_iff.1 hj).1
      have hlt : i * t.size + j < l.length * t.size := by
        have : (i + 1) * t.size ≤ l.length * t.size := Nat.mul_le_mul_right _ hi
        rw [Nat.add_mul] at this; omega
      have := u2 j u hj
      rw [Nat.add_assoc] at this
      rw [List.getElem?_map, List.getElem?_range hlt]
      simp [this]
    · intro j u hj
      have hj' : j < l.length * t.size := by have := (List.getElem?_eq_some_iff.1 hj).1; simpa using this
      rw [List.getElem?_map, List.getElem?_range hj'] at hj
      obtain ⟨u', a1, _⟩ := all j hj'
      simp only [Option.map_some, Option.some.injEq, a1, Option.getD_some] at hj
      rw [a1, hj]

section
variable {P : Program} {T : Tb} {α : Type} {base : Nat} {C : Cx} {a : Act} {tv : Nat → AV} {nid : Nat} {next : Act → World → Prop} {Q : Exit → Act → World → Prop} {r : α} {k : AV → List (Nat × AO) → Option α}
variable {dst : Option Tmp} {type : TypeId} {pos : String} {after : Array Edge} {guard : Option (Nat × Bool)}

theorem run_first {w : World} {size n c : Nat} {A : Option Addr} {cs : List Value} (hl : cs.length = n * size) (h : (n = 0 ∧ cs = []) ∨ ∃ b o, A = some ⟨b, o, none⟩ ∧ ∀ j u, cs[j]? = some u → w.cell? ⟨b, o + j, none⟩ = some u) :
    (Builtin.firstCells size n (.slice A n c)).run P w = .ok cs.toArray w := by
  rcases h with ⟨rfl, rfl⟩ | ⟨b, o, rfl, h⟩
  · cases A with
    | none => exact run_firstCells_none (P := P) w size 0 0 c
    | some ad => exact run_firstCells_some (P := P) w size 0 ad 0 c [] (by simp) (fun j v hj => by simp at hj)
  · exact run_firstCells_some (P := P) w size n _ n c cs hl (fun j v hj => by rw [addr_add]; exact h j v hj)
/-- What is appended. -/
theorem src_rel (hg : Good base C) {x : AV} {v : Value} {t : Ty} {l : List t.D} {own : Bool} {dies : List Nat} (hr : RelA C x v) (h : srcOf C.H x = .some t l own dies) :
    ∃ A c cs S, v = .slice A l.length c ∧ cs.length = l.length * t.size ∧ (∀ u ∈ cs, u.oneCell' = true) ∧ ElemsL C t l own S cs ∧ Free base (C.drop dies) S ∧ (∀ o ∈ dies, C.H o ≠ .hole) ∧ (l = [] → S = []) ∧
      ((l = [] ∧ cs = []) ∨ ∃ b o, A = some ⟨b, o, none⟩ ∧ ∀ j u, cs[j]? = some u → C.w.cell? ⟨b, o + j, none⟩ = some u) := by
  unfold srcOf at h
  split at h <;> try (cases h; done)
  · rename_i t' l'
    cases h
    simp only [RelA] at hr
    obtain ⟨A, c, cs, h1, h2, h3, h4, h5, h6⟩ := hr.cells
    refine ⟨A, c, cs, [], h1, h3, h4, ?_, Free.nil _ _, by simp, fun _ => rfl, h6⟩
    unfold ElemsL
    rw [if_neg (by simp)]
    exact ⟨rfl, h5⟩
  · rename_i o ver
    split at h <;> try (cases h; done)
    rename_i t' l' cur dp hH
    split at h <;> try (cases h; done)
    rename_i hv
    subst hv
    simp only [RelA] at hr
    obtain ⟨A, c, cs, h1, h2, h3, h4, h5, h6⟩ := arr_L hg hH hr
    have cells : (l' = [] ∧ cs = []) ∨ ∃ b o, A = some ⟨b, o, none⟩ ∧ ∀ j u, cs[j]? = some u → C.w.cell? ⟨b, o + j, none⟩ = some u := by
      rcases h6 with ⟨e1, _, e2⟩ | ⟨_, hA, full, tid, e1, e2, e3⟩
      · exact .inl ⟨e1, e2⟩
      · refine .inr ⟨_, 0, hA, fun j u hj => ?_⟩
        rw [cell_of_cells e1, Nat.zero_add]
        rw [← e3, List.getElem?_take] at hj
        split at hj
        · simpa using hj
        · cases hj
    split at h
    · rename_i hf
      cases h
      obtain ⟨f1, f2⟩ := h4.flat (dp' := true) hf
      exact ⟨A, c, cs, [], h1, h3, h5, f2, Free.nil _ _, by simp, fun _ => rfl, cells⟩
    · split at h
      · rename_i hdp
        cases h
        subst hdp
        have hown : l = [] → C.own o = [] := by
          intro e
          have hb := hg.ob o
          rw [hH] at hb
          simp only [ObjOk, ArrOk] at hb
          rcases hb with hb | hb
          · exact hb.2
          · exact absurd e hb.1
        refine ⟨A, c, cs, C.own o, h1, h3, h5, h4, ?_, by simp [hH], hown, cells⟩
        by_cases hl : l = []
        · rw [hown hl]; exact Free.nil _ _
        · have hfr := Free.drop hg (ids := [o]) (by simp)
          refine hfr.sub ?_
          simp only [List.flatMap_cons, List.flatMap_nil, List.append_nil, blks, hH]
          rw [if_neg (by simpa using hl)]
          exact List.sublist_cons_self _ _
      · rename_i hdp
        cases h
        have : dp = false := by simpa using hdp
        subst this
        refine ⟨A, c, cs, [], h1, h3, h5, ?_, Free.nil _ _, by simp, fun _ => rfl, cells⟩
        unfold ElemsL at h4 ⊢
        rw [if_neg (by simp)] at h4 ⊢
        exact ⟨rfl, h4.2⟩
theorem drew_heap (w : World) : w.drew.heap = w.heap := rfl
theorem zeroCells_size {z : Array Value} (n : Nat) : (Builtin.zeroCells z n).size = n * z.size := by simp [Builtin.zeroCells]
theorem setCast {t t' : Ty} (h : t' = t) (l : List t'.D) : (h ▸ l : List t.D).length = l.length := by subst h; rfl
/-- A slice of no room is given elements. -/
theorem so_append_new (hT : TbOk P T) (hg : Good base C) (hb : base ≤ C.w.heap.size) (hn : C.H nid = .hole) {t t2 e e2 : TypeId} {d : Ty} {ty : TypeId} (hu : P.underlying t = some (.slice e)) (hu2 : P.underlying t2 = some (.slice e2)) (hd : T.dt e = some d)
    {A0 : Option Addr} {x : AV} {v : Value} {l : List d.D} {own : Bool} {dies : List Nat} (hr : RelA C x v) (hs : srcOf C.H x = .some d l own dies) (hlim : l.length < lim) :
    ∃ val w' C', (Builtin.append_ #[t, t2] ty #[.slice A0 0 0, v]).run P C.w = .ok val w' ∧ C'.w = w' ∧ Good base C' ∧ To base C C' ∧ C'.H = updU (kill dies ++ [(nid, .arr d l 0 (own || d.flat))]) C.H ∧ RelA C' (.osl nid 0) val := by
  obtain ⟨i, q, zv, d1, d2, d3, d4, d5, d6, d7, d8, d9⟩ := hT.dt e d hd
  obtain ⟨A, c, cs, S, rfl, h2, h3, h4, h5, h6, h7, h8⟩ := src_rel hg hr hs
  have hnn : dies.contains nid = false := by
    cases hcn : dies.contains nid with
    | false => rfl
    | true => exact absurd hn (h6 nid (by simpa using hcn))
  have hg1 := hg.drop dies
  have hn1 : (C.drop dies).H nid = .hole := by simp only [Cx.drop, hnn]; exact hn
  have hH' : ∀ (x : AO) (b : Nat) (S : List Nat) (w : World), ((C.drop dies).new nid b S x w).H = updU (kill dies ++ [(nid, x)]) C.H := by
    intro x b S w
    show upd (C.drop dies).H nid _ = _
    rw [updU_append, drop_H h6]; rfl
  have hzl : zv.cells.size = d.size := by have := (dflt_rel C.w d9).len; simpa using this
  by_cases hl : l = []
  · subst hl
    have hf : (Builtin.firstCells q.size 0 (.slice A 0 c)).run P C.w = .ok ([] : List Value).toArray C.w := run_first (by simp) (.inl ⟨rfl, rfl⟩)
    refine ⟨_, C.w, (C.drop dies).new nid 0 [] (.arr d [] 0 (own || d.flat)) C.w, run_append_room2 (w' := C.w) hu hu2 d5 (n := 0) (c := c) (A := A) rfl (Nat.le_refl _) hf (by cases A0 <;> simp [storeCells]), rfl, Good.arr_nil hg1 hn1 (fun _ _ => rfl) (Nat.le_refl _), ?_, hH' _ _ _ _, osl_nil rfl _⟩
    exact (To.drop base C dies).trans ⟨Ext.new hg1 hn1 (fun _ _ => rfl), Nat.le_refl _, Below.refl _ _, fun _ h => .inl h, fun _ h => h⟩
  · have hlp : 0 < l.length := List.length_pos_iff.2 hl
    have hf : (Builtin.firstCells q.size l.length (.slice A l.length c)).run P C.w.drew = .ok cs.toArray C.w.drew := by
      rw [d6]
      refine run_first h2 (h8.imp (fun h => absurd h.1 hl) (fun ⟨b, o, hA, h⟩ => ⟨b, o, hA, fun j u hj => ?_⟩))
      exact h j u hj
    have hfo : (Builtin.firstCells q.size 0 (.slice A0 0 0)).run P C.w.drew = .ok ([] : List Value).toArray C.w.drew := run_first (by simp) (.inl ⟨rfl, rfl⟩)
    have hrun := run_append_grow2 (P := P) (ty := ty) hu hu2 d5 d8 (w := C.w) (base := A0) (sLen := 0) (sCap := 0) (x := .slice A l.length c) rfl (by omega) (by show 0 + l.length < lim; omega) (by omega) hfo hf
    simp only [Nat.zero_add] at hrun
    generalize hcap : grownCap C.w l.length 0 e = cap at hrun
    have hcapge : l.length ≤ cap := by rw [← hcap]; exact grownCap_ge _ _
    generalize hcells : (#[] ++ cs.toArray ++ Builtin.zeroCells zv.cells (cap - l.length) : Array Value) = cells at hrun
    have hcl : cells.toList = cs ++ (Builtin.zeroCells zv.cells (cap - l.length)).toList := by rw [← hcells]; simp
    have hcsz : cells.size = cap * d.size := by
      rw [← hcells]
      simp only [Array.size_append, zeroCells_size, hzl, List.size_toArray, h2]
      have : cap * d.size = l.length * d.size + (cap - l.length) * d.size := by rw [← Nat.add_mul]; congr 1; omega
      simp; omega
    have hmode : ∃ S', ElemsL C d l (own || d.flat) S' cs ∧ Free base (C.drop dies) S' := by
      cases hfl : d.flat with
      | true => exact ⟨[], by simpa using (h4.flat (dp' := true) hfl).2, Free.nil _ _⟩
      | false => exact ⟨S, by simpa using h4, h5⟩
    obtain ⟨S', m1, m2⟩ := hmode
    have hel : ElemsIn (C.drop dies) d l (own || d.flat) S' cells := by
      refine ElemsL.ofIn (C := C) ?_
      refine m1.mono fun j u hj hu => ?_
      rw [hcl, List.getElem?_append_left (by omega)]; exact hu
    have hw : ∀ k, k < C.w.heap.size → (C.w.drew.alloc (.cells cells e)).heap[k]? = C.w.heap[k]? := fun k hk => heap_alloc C.w.drew _ k hk
    have hs' : (C.w.drew.alloc (.cells cells e)).heap.size = C.w.heap.size + 1 := heap_alloc_size C.w.drew _
    have hnew : (C.w.drew.alloc (.cells cells e)).heap[C.w.heap.size]? = some (.cells cells e (0, 0)) := heap_alloc_new C.w.drew _
    refine ⟨_, _, (C.drop dies).new nid C.w.heap.size S' (.arr d l 0 (own || d.flat)) (C.w.drew.alloc (.cells cells e)), hrun, rfl, Good.arr hg1 hb hn1 hl m2 hel hw hs' hnew, ?_, hH' _ _ _ _, osl_new rfl hl hcapge hnew (by omega)⟩
    exact (To.drop base C dies).trans ⟨Ext.new hg1 hn1 hw, by show C.w.heap.size ≤ (C.w.drew.alloc (.cells cells e)).heap.size; omega, (Below.refl base C.w).drew.alloc hb _, fun _ h => .inl h, fun _ h => h⟩
/-- An array of ours is given elements. -/
theorem so_append_own (hT : TbOk P T) (hg : Good base C) (hb : base ≤ C.w.heap.size) {t t2 e e2 : TypeId} {d : Ty} {ty : TypeId} (hu : P.underlying t = some (.slice e)) (hu2 : P.underlying t2 = some (.slice e2)) (hd : T.dt e = some d)
    {o cur : Nat} {l0 : List d.D} {dp : Bool} (hH : C.H o = .arr d l0 cur dp) {vs : Value} (hv : RelA C (.osl o cur) vs)
    {x : AV} {v : Value} {l : List d.D} {own : Bool} {dies : List Nat} (hr : RelA C x v) (hs : srcOf C.H x = .some d l own dies) (hfit : fitsIn d own dp = true) (hnd : dies.contains o = false) (hlim : l0.length + l.length < lim) :
    ∃ val w' C', (Builtin.append_ #[t, t2] ty #[vs, v]).run P C.w = .ok val w' ∧ C'.w = w' ∧ Good base C' ∧ To base C C' ∧ C'.H = updU (kill dies ++ [(o, .arr d (l0 ++ l) (cur + 1) dp)]) C.H ∧ RelA C' (.osl o (cur + 1)) val := by
  obtain ⟨i, q, zv, d1, d2, d3, d4, d5, d6, d7, d8, d9⟩ := hT.dt e d hd
  obtain ⟨A, c, cs, S, rfl, h2, h3, h4, h5, h6, h7, h8⟩ := src_rel hg hr hs
  simp only [RelA] at hv
  obtain ⟨A0, c0, ds, rfl, k1, k2, k3, k4, k5⟩ := arr_L hg hH hv
  have hg1 := hg.drop dies
  have hH1 : (C.drop dies).H o = .arr d l0 cur dp := by simp only [Cx.drop, hnd]; exact hH
  have hzl : zv.cells.size = d.size := by have := (dflt_rel C.w d9).len; simpa using this
  have hmode : ∃ S', ElemsL C d l dp S' cs ∧ Free base (C.drop dies) S' := by
    unfold fitsIn at hfit
    cases hfl : d.flat with
    | true => exact ⟨[], (h4.flat (dp' := dp) hfl).2, Free.nil _ _⟩
    | false => rw [hfl] at hfit; simp at hfit; subst hfit; exact ⟨S, h4, h5⟩
  obtain ⟨S', m1, m2⟩ := hmode
  have hall := k3.append m1 k2
  -- the new state of the object, its block, the cells
  have fin : ∀ (bk : Nat) (w' : World) (cells : Array Value) (tid : TypeId) (cap : Nat), (∀ k, k ≠ bk → k < C.w.heap.size → w'.heap[k]? = C.w.heap[k]?) → C.w.heap.size ≤ w'.heap.size → bk < w'.heap.size → w'.heap[bk]? = some (.cells cells tid (0, 0)) → (∃ more, cells.toList = ds ++ cs ++ more) →
      l0.length + l.length ≤ cap → cap * d.size ≤ cells.size → ((l0 ≠ [] ∧ bk = C.blk o) ∨ C.w.heap.size ≤ bk) → Below base C.w w' → l0 ++ l ≠ [] →
      ∃ C', C'.w = w' ∧ Good base C' ∧ To base C C' ∧ C'.H = updU (kill dies ++ [(o, .arr d (l0 ++ l) (cur + 1) dp)]) C.H ∧ RelA C' (.osl o (cur + 1)) (.slice (some ⟨bk, 0, none⟩) (l0.length + l.length) cap) := by
    intro bk w' cells tid cap hw hsz hbk hnew hmore hcap hcaps hwhich hbel hne
    let C2 : Cx := { C.drop dies with H := upd (C.drop dies).H o (.arr d (l0 ++ l) (cur + 1) dp), blk := upd C.blk o bk, own := upd C.own o (C.own o ++ S'), w := w' }
    have hne' : ¬ ((l0 ++ l).isEmpty = true) := by rw [List.isEmpty_iff]; exact hne
    have hbl : blks C2 o = bk :: (C.own o ++ S') := by
      simp only [blks, C2, upd_same, if_neg hne']
    have hold : ∀ b, b ∈ blks (C.drop dies) o ↔ (l0 ≠ [] ∧ (b = C.blk o ∨ b ∈ C.own o)) := by
      intro b
      simp only [blks, hH1]
      by_cases hl0 : l0 = []
      · simp [hl0]
      · rw [if_neg (by simpa using hl0)]
        simp [Cx.drop, hl0]
    have hown0 : l0 = [] → C.own o = [] := by
      intro e
      have hb := hg.ob o
      rw [hH] at hb
      simp only [ObjOk, ArrOk] at hb
      rcases hb with hb | hb
      · exact hb.2
      · exact absurd e hb.1
    have hownold : ∀ b, b ∈ C.own o → b ∈ blks (C.drop dies) o := by
      intro b hb'
      rw [hold]
      by_cases hl0 : l0 = []
      · rw [hown0 hl0] at hb'; cases hb'
      · exact ⟨hl0, .inr hb'⟩
    have hbkother : ∀ p, p ≠ o → bk ∉ blks (C.drop dies) p := by
      intro p hp hbp
      rcases hwhich with ⟨hl0, rfl⟩ | h
      · exact hg1.dj p o _ hp hbp ((hold _).2 ⟨hl0, .inl rfl⟩)
      · have := (hg1.low p _ hbp).2.1
        have : bk < C.w.heap.size := this
        omega
    have hbkF : ¬ C.F bk ∧ ¬ C.G bk ∧ base ≤ bk := by
      rcases hwhich with ⟨hl0, rfl⟩ | h
      · obtain ⟨a1, a2, a3, a4⟩ := hg1.low o _ ((hold _).2 ⟨hl0, .inl rfl⟩)
        exact ⟨a3, a4, a1⟩
      · exact ⟨fun h' => by have := hg.fz _ h'; omega, fun h' => by have := hg.gz _ h'; omega, by omega⟩
    have hwo : ∀ p, p ≠ o → ∀ b ∈ blks (C.drop dies) p, w'.heap[b]? = C.w.heap[b]? := fun p hp b hb' => hw b (fun e => by subst e; exact hbkother p hp hb') (hg1.low p b hb').2.1
    have hext : Ext (C.drop dies) C2 := by
      refine ⟨fun _ h => h, fun _ h => h, fun b hb' => hw b (fun e => by subst e; exact hb'.elim hbkF.1 hbkF.2.1) (hb'.elim (hg.fz b) (hg.gz b)), fun p => ?_⟩
      by_cases hp : p = o
      · subst hp
        simp only [ObjExt, hH1]
        show match AO.arr d l0 cur dp, upd (C.drop dies).H p (.arr d (l0 ++ l) (cur + 1) dp) p with
          | .hole, _ => True | .dead, .dead => True | .box _, .box _ => _ | .box _, .dead => True | .arr t l ver _, .arr t' l' ver' _ => _ | .arr _ _ _ _, .dead => True | _, _ => False
        rw [upd_same]
        exact .inl (by omega)
      · exact ObjExt.same (by show upd _ _ _ _ = _; rw [upd_ne _ _ hp]) (by show upd _ _ _ _ = _; rw [upd_ne _ _ hp]; rfl) (hwo p hp)
    have hElems : ElemsOk C2 o d (l0 ++ l) dp cells := by
      have hL : ElemsL C d (l0 ++ l) dp (C.own o ++ S') cells.toList := by
        obtain ⟨more, hm⟩ := hmore
        refine hall.mono fun j u hj hu => ?_
        rw [hm, List.getElem?_append_left (by have := (List.getElem?_eq_some_iff.1 hu).1; exact this)]
        exact hu
      refine (ElemsL.ofIn hL).new (C' := C2) (by show upd _ _ _ _ = _; rw [upd_same]) (fun _ h => h) fun b hb' => ?_
      rcases hb' with hb' | hb'
      · refine hw b ?_ ?_
        · rintro rfl
          rcases List.mem_append.1 hb' with h | h
          · rcases hwhich with ⟨hl0, e⟩ | h'
            · have hnodup := hg1.nd o
              simp only [blks, hH1] at hnodup
              rw [if_neg (by simpa using hl0), List.nodup_cons] at hnodup
              exact hnodup.1 (by rw [e] at h; exact h)
            · have := (hg1.low o _ (hownold _ h)).2.1
              have : b < C.w.heap.size := this
              omega
          · obtain ⟨_, q2, q3, q4, q5⟩ := m2.2 _ h
            rcases hwhich with ⟨hl0, e⟩ | h'
            · exact q5 o ((hold _).2 ⟨hl0, .inl e⟩)
            · have : b < C.w.heap.size := q2
              omega
        · rcases List.mem_append.1 hb' with h | h
          · exact (hg1.low o _ (hownold _ h)).2.1
          · exact (m2.2 _ h).2.1
      · exact hw b (fun e => by subst e; exact hbkF.1 hb') (hg.fz b hb')
    refine ⟨C2, rfl, ?_, ?_, ?_, ?_⟩
    · refine hg1.one o hext (fun p hp => by show upd _ _ _ _ = _; rw [upd_ne _ _ hp]) (fun p hp => by show upd _ _ _ _ = _; rw [upd_ne _ _ hp]; rfl) (fun p hp => by show upd _ _ _ _ = _; rw [upd_ne _ _ hp]; rfl) hwo (fun _ h => h) (fun _ h => h) hsz ?_ ?_ ?_ ?_
      · show ObjOk C2 o (upd _ o _ o)
        rw [upd_same]
        simp only [ObjOk, ArrOk]
        exact .inr ⟨hne, cells, tid, by show w'.heap[upd C.blk o bk o]? = _; rw [upd_same]; exact hnew, hElems⟩
      · intro b hb'
        rw [hbl] at hb'
        show base ≤ b ∧ b < w'.heap.size ∧ ¬ C.F b ∧ ¬ C.G b
        rcases List.mem_cons.1 hb' with rfl | hb'
        · exact ⟨hbkF.2.2, hbk, hbkF.1, hbkF.2.1⟩
        · rcases List.mem_append.1 hb' with h | h
          · obtain ⟨a1, a2, a3, a4⟩ := hg1.low o _ (hownold _ h)
            have : b < C.w.heap.size := a2
            exact ⟨a1, by omega, a3, a4⟩
          · obtain ⟨a1, a2, a3, a4, _⟩ := m2.2 _ h
            have : b < C.w.heap.size := a2
            exact ⟨a1, by omega, a3, a4⟩
      · rw [hbl, List.nodup_cons]
        refine ⟨fun h => ?_, ?_⟩
        · rcases List.mem_append.1 h with h | h
          · rcases hwhich with ⟨hl0, e⟩ | h'
            · have hnodup := hg1.nd o
              simp only [blks, hH1] at hnodup
              rw [if_neg (by simpa using hl0), List.nodup_cons] at hnodup
              exact hnodup.1 (by rw [e] at h; exact h)
            · have : bk < C.w.heap.size := (hg1.low o _ (hownold _ h)).2.1
              omega
          · obtain ⟨_, q2, q3, q4, q5⟩ := m2.2 _ h
            rcases hwhich with ⟨hl0, e⟩ | h'
            · exact q5 o ((hold _).2 ⟨hl0, .inl e⟩)
            · have : bk < C.w.heap.size := q2
              omega
        · rw [List.nodup_append]
          refine ⟨?_, m2.1, fun b hb' b2 hb2 e => ?_⟩
          · by_cases hl0 : l0 = []
            · rw [hown0 hl0]; exact List.nodup_nil
            · have hnodup := hg1.nd o
              simp only [blks, hH1] at hnodup
              rw [if_neg (by simpa using hl0), List.nodup_cons] at hnodup
              exact hnodup.2
          · subst e
            exact (m2.2 _ hb2).2.2.2.2 o (hownold _ hb')
      · intro p hp b hb' hbp
        rw [hbl] at hb'
        rcases List.mem_cons.1 hb' with rfl | hb'
        · exact hbkother p hp hbp
        · rcases List.mem_append.1 hb' with h | h
          · exact hg1.dj p o _ hp hbp (hownold _ h)
          · exact (m2.2 _ h).2.2.2.2 p hbp
    · exact (To.drop base C dies).trans ⟨hext, hsz, hbel, fun _ h => .inl h, fun _ h => h⟩
    · show upd (C.drop dies).H o _ = _
      rw [updU_append, drop_H h6]; rfl
    · simp only [RelA, OslOk]
      refine ⟨⟨_, _, _, rfl⟩, ?_⟩
      show match upd (C.drop dies).H o (.arr d (l0 ++ l) (cur + 1) dp) o with
        | .arr t l cur' _ => _ | .dead => True | _ => False
      rw [upd_same]
      refine .inr ⟨rfl, .inr ⟨by intro e; exact hne (List.eq_nil_of_length_eq_zero e), cap, cells, tid, ?_, by simpa using hcap, ?_, hcaps⟩⟩
      · show _ = Value.slice (some ⟨upd C.blk o bk o, 0, none⟩) _ _
        rw [upd_same]; simp
      · show w'.heap[upd C.blk o bk o]? = _
        rw [upd_same]; exact hnew
  have hfcs : ∀ (w : World), w.heap = C.w.heap → (Builtin.firstCells q.size l.length (.slice A l.length c)).run P w = .ok cs.toArray w := by
    intro w hw
    rw [d6]
    refine run_first h2 (h8.imp (fun h => ⟨by rw [h.1]; rfl, h.2⟩) (fun ⟨b, o, hA, h⟩ => ⟨b, o, hA, fun j u hj => ?_⟩))
    rw [cell_of_heap (w := C.w) (by rw [hw])]; exact h j u hj
  by_cases hroom : l0.length + l.length ≤ c0
  · -- there is room
    rcases k5 with ⟨rfl, rfl, rfl⟩ | ⟨hl0, rfl, full, tid, f1, f2, f3⟩
    · -- nothing into nothing
      have hl : l = [] := List.eq_nil_of_length_eq_zero (by simpa using hroom)
      subst hl
      have hcs : cs = [] := by simpa using h2
      subst hcs
      have hrun := run_append_room2 (P := P) (ty := ty) (w' := C.w) (base := A0) (sLen := 0) (sCap := 0) hu hu2 d5 (n := 0) (c := c) (A := A) rfl (Nat.le_refl _) (hfcs C.w rfl) (by cases A0 <;> simp [storeCells])
      let C2 : Cx := { C.drop dies with H := upd (C.drop dies).H o (.arr d [] (cur + 1) dp) }
      have hbl : blks C2 o = [] := by simp [blks, C2]
      have hext : Ext (C.drop dies) C2 := by
        refine ⟨fun _ h => h, fun _ h => h, fun _ _ => rfl, fun p => ?_⟩
        by_cases hp : p = o
        · subst hp
          simp only [ObjExt, hH1]
          show match AO.arr d [] cur dp, upd (C.drop dies).H p (.arr d [] (cur + 1) dp) p with
            | .hole, _ => True | .dead, .dead => True | .box _, .box _ => _ | .box _, .dead => True | .arr t l ver _, .arr t' l' ver' _ => _ | .arr _ _ _ _, .dead => True | _, _ => False
          rw [upd_same]
          exact .inl (by omega)
        · exact ObjExt.same (by show upd _ _ _ _ = _; rw [upd_ne _ _ hp]) rfl (fun _ _ => rfl)
      refine ⟨_, C.w, C2, hrun, rfl, ?_, (To.drop base C dies).trans ⟨hext, Nat.le_refl _, Below.refl _ _, fun _ h => .inl h, fun _ h => h⟩, ?_, ?_⟩
      · refine hg1.one o hext (fun p hp => by show upd _ _ _ _ = _; rw [upd_ne _ _ hp]) (fun _ _ => rfl) (fun _ _ => rfl) (fun _ _ _ _ => rfl) (fun _ h => h) (fun _ h => h) (Nat.le_refl _) ?_ (by rw [hbl]; intro b h; cases h) (by rw [hbl]; exact List.nodup_nil) (by rw [hbl]; intro p _ b h; cases h)
        show ObjOk C2 o (upd _ o _ o)
        rw [upd_same]
        simp only [ObjOk, ArrOk]
        have hb' := hg.ob o
        rw [hH] at hb'
        simp only [ObjOk, ArrOk] at hb'
        rcases hb' with hb' | hb'
        · exact .inl ⟨trivial, hb'.2⟩
        · exact absurd rfl hb'.1
      · show upd (C.drop dies).H o _ = _
        rw [updU_append, drop_H h6]; rfl
      · simp only [RelA, OslOk]
        refine ⟨⟨_, _, _, rfl⟩, ?_⟩
        show match upd (C.drop dies).H o (.arr d [] (cur + 1) dp) o with
          | .arr t l cur' _ => _ | .dead => True | _ => False
        rw [upd_same]
        exact .inr ⟨rfl, .inl ⟨rfl, _, rfl⟩⟩
    · have hds : ds.length = l0.length * d.size := k2
      have hroomc : l0.length * d.size + cs.length ≤ full.size := by
        rw [h2, ← Nat.add_mul]
        exact Nat.le_trans (Nat.mul_le_mul_right _ hroom) f2
      have hst := run_storeCells_at (P := P) (C.blk o) (l0.length * d.size) tid cs 0 full C.w f1 (by simpa using hroomc) h3
      simp only [Nat.add_zero] at hst
      have hrun := run_append_room2 (P := P) (ty := ty) (base := some ⟨C.blk o, 0, none⟩) (sLen := l0.length) (sCap := c0) hu hu2 d5 (n := l.length) (c := c) (A := A) (w' := C.w.setRow (C.blk o) (full.toList.take (l0.length * d.size) ++ cs ++ full.toList.drop (l0.length * d.size + cs.length)).toArray) rfl hroom (hfcs C.w rfl) (by simp only [d6, addr_add, Nat.zero_add]; exact hst)
      have hlow := hg.low o (C.blk o) (by simp only [blks, hH]; rw [if_neg (by simpa using hl0)]; simp)
      obtain ⟨C', c1, c2, c3, c4, c5⟩ := fin (C.blk o) (C.w.setRow (C.blk o) (full.toList.take (l0.length * d.size) ++ cs ++ full.toList.drop (l0.length * d.size + cs.length)).toArray) (full.toList.take (l0.length * d.size) ++ cs ++ full.toList.drop (l0.length * d.size + cs.length)).toArray tid c0 (fun k hk _ => setRow_other _ _ _ _ hk) (by simp) (by simpa using hlow.2.1) (setRow_heap _ _ _ _ _ _ f1) ⟨full.toList.drop (l0.length * d.size + cs.length), by rw [f3]⟩ hroom (by simp; omega) (.inl ⟨hl0, rfl⟩) (setRow_below hlow.1 _) (by intro e; exact hl0 (List.append_eq_nil_iff.1 e).1)
      exact ⟨_, _, C', hrun, c1, c2, c3, c4, c5⟩
  · -- it grows
    have hg0 : c0 < l0.length + l.length := by omega
    have hne : l0 ++ l ≠ [] := by
      intro e
      rw [List.append_eq_nil_iff] at e
      rw [e.1, e.2] at hg0
      simp at hg0
    have hfo : (Builtin.firstCells q.size l0.length (.slice A0 l0.length c0)).run P C.w.drew = .ok ds.toArray C.w.drew := by
      rw [d6]
      rcases k5 with ⟨rfl, rfl, rfl⟩ | ⟨hl0, rfl, full, tid, f1, f2, f3⟩
      · exact run_first (by simp) (.inl ⟨rfl, rfl⟩)
      · refine run_first k2 (.inr ⟨_, 0, rfl, fun j u hj => ?_⟩)
        rw [cell_of_cells (w := C.w.drew) f1, Nat.zero_add]
        rw [← f3, List.getElem?_take] at hj
        split at hj
        · simpa using hj
        · cases hj
    have hrun := run_append_grow2 (P := P) (ty := ty) hu hu2 d5 d8 (w := C.w) (base := A0) (sLen := l0.length) (sCap := c0) (x := .slice A l.length c) rfl hg0 hlim (by omega) hfo (hfcs C.w.drew rfl)
    generalize hcap : grownCap C.w (l0.length + l.length) c0 e = cap at hrun
    have hcapge : l0.length + l.length ≤ cap := by rw [← hcap]; exact grownCap_ge _ _
    generalize hcells : (ds.toArray ++ cs.toArray ++ Builtin.zeroCells zv.cells (cap - (l0.length + l.length)) : Array Value) = cells at hrun
    have hcl : cells.toList = ds ++ cs ++ (Builtin.zeroCells zv.cells (cap - (l0.length + l.length))).toList := by rw [← hcells]; simp
    have hcsz : cells.size = cap * d.size := by
      rw [← hcells]
      simp only [Array.size_append, zeroCells_size, hzl, List.size_toArray, h2, k2]
      have : cap * d.size = (l0.length + l.length) * d.size + (cap - (l0.length + l.length)) * d.size := by rw [← Nat.add_mul]; congr 1; omega
      rw [this, Nat.add_mul]
    obtain ⟨C', c1, c2, c3, c4, c5⟩ := fin C.w.heap.size (C.w.drew.alloc (.cells cells e)) cells e cap (fun k _ hk => heap_alloc C.w.drew _ k hk) (by rw [heap_alloc_size]; exact Nat.le_succ _) (by rw [heap_alloc_size]; exact Nat.lt_succ_self _) (heap_alloc_new C.w.drew _) ⟨_, hcl⟩ hcapge (by omega) (.inr (Nat.le_refl _)) ((Below.refl base C.w).drew.alloc hb _) hne
    exact ⟨_, _, C', hrun, c1, c2, c3, c4, c5⟩
end
end Go.Proofs.YtnbaahpbmhhofaaDoor.Fw

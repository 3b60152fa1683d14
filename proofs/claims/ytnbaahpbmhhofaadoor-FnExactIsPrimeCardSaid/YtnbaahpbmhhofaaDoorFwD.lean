/- How what is told of a world goes on: a new object, a changed one, one let go, one given to all. -/
import Derived.Test.YtnbaahpbmhhofaaDoorFwC
namespace Go.Proofs.YtnbaahpbmhhofaaDoor.Fw
open Go Go.RowKit
set_option linter.unusedVariables false

def upd {β : Type} (f : Nat → β) (o : Nat) (x : β) : Nat → β := fun p => if p = o then x else f p
@[simp] theorem upd_same {β : Type} (f : Nat → β) (o : Nat) (x : β) : upd f o x o = x := by simp [upd]
theorem upd_ne {β : Type} (f : Nat → β) {o p : Nat} (x : β) (h : p ≠ o) : upd f o x p = f p := by simp [upd, h]

theorem ObjExt.same {C C' : Cx} {o : Nat} (hH : C'.H o = C.H o) (hb : C'.blk o = C.blk o) (hw : ∀ b ∈ blks C o, C'.w.heap[b]? = C.w.heap[b]?) : ObjExt C C' o := by
  simp only [ObjExt, hH]
  cases h : C.H o with
  | hole => trivial
  | dead => trivial
  | box cells => exact hb
  | arr t l ver dp =>
    have key : l ≠ [] → C'.w.heap[C.blk o]? = C.w.heap[C.blk o]? := fun hl => hw _ (by simp only [blks, h]; rw [if_neg (by simpa using hl)]; simp)
    exact .inr ⟨rfl, rfl, rfl, fun hl => ⟨hb, fun cs tid hc => ⟨cs, by rw [key hl]; exact hc, rfl⟩, fun _ hf => ⟨hf, key hl⟩⟩⟩
theorem blks_same {C C' : Cx} {o : Nat} (hH : C'.H o = C.H o) (hb : C'.blk o = C.blk o) (ho : C'.own o = C.own o) : blks C' o = blks C o := by
  simp only [blks, hH, hb, ho]
theorem ElemsOk.mono {C C' : Cx} {o : Nat} {t : Ty} {l : List t.D} {dp : Bool} {cs : Array Value} (hx : Ext C C') (ho : C'.own o = C.own o) (hw : ∀ b ∈ C.own o, C'.w.heap[b]? = C.w.heap[b]?)
    (h : ElemsOk C o t l dp cs) : ElemsOk C' o t l dp cs := by
  unfold ElemsOk at h ⊢
  split at h
  · rename_i hd
    rw [if_pos hd]
    obtain ⟨ss, h1, h2, h3⟩ := h
    refine ⟨ss, by rw [ho, h1], h2, fun i x hi => ?_⟩
    obtain ⟨us, h4, h5⟩ := h3 i x hi
    exact ⟨us, h4.mono fun b hb => hw b (by rw [h1]; exact getD_mem_flatten hb), h5⟩
  · rename_i hd
    rw [if_neg hd]
    refine ⟨by rw [ho, h.1], fun i x hi => ?_⟩
    obtain ⟨us, h4, h5⟩ := h.2 i x hi
    exact ⟨us, h4.mono hx.F (fun b hb => hx.heap b (.inl hb)), h5⟩
theorem ObjOk.same {C C' : Cx} {o : Nat} {x : AO} (hx : Ext C C') (hH : C.H o = x) (hb : C'.blk o = C.blk o) (ho : C'.own o = C.own o) (hw : ∀ b ∈ blks C o, C'.w.heap[b]? = C.w.heap[b]?)
    (h : ObjOk C o x) : ObjOk C' o x := by
  cases x with
  | hole => trivial
  | dead => trivial
  | box cells =>
    simp only [ObjOk] at h ⊢
    obtain ⟨cs, tid, h1, h0, h2⟩ := h
    exact ⟨cs, tid, by rw [hb, hw _ (by simp [blks, hH])]; exact h1, h0, RelL.mono hx h2⟩
  | arr t l ver dp =>
    simp only [ObjOk, ArrOk] at h ⊢
    rcases h with h | ⟨hl, cs, tid, h1, h2⟩
    · exact .inl ⟨h.1, by rw [ho]; exact h.2⟩
    · have hm : ∀ b, b = C.blk o ∨ b ∈ C.own o → b ∈ blks C o := by
        intro b hb'
        simp only [blks, hH]
        rw [if_neg (by simpa using hl)]
        simpa using hb'
      exact .inr ⟨hl, cs, tid, by rw [hb, hw _ (hm _ (.inl rfl))]; exact h1, h2.mono hx ho fun b hb' => hw b (hm b (.inr hb'))⟩

/-- One object is made or changed, all others lie as they lay. -/
theorem Good.one {base : Nat} {C C' : Cx} (n : Nat) (hg : Good base C) (hx : Ext C C')
    (hH : ∀ o, o ≠ n → C'.H o = C.H o) (hb : ∀ o, o ≠ n → C'.blk o = C.blk o) (ho : ∀ o, o ≠ n → C'.own o = C.own o)
    (hw : ∀ o, o ≠ n → ∀ b ∈ blks C o, C'.w.heap[b]? = C.w.heap[b]?) (hF : ∀ b, C'.F b → C.F b) (hG : ∀ b, C'.G b → C.G b) (hs : C.w.heap.size ≤ C'.w.heap.size)
    (hn : ObjOk C' n (C'.H n)) (hl : ∀ b ∈ blks C' n, base ≤ b ∧ b < C'.w.heap.size ∧ ¬ C.F b ∧ ¬ C.G b) (hd : (blks C' n).Nodup) (ha : ∀ o, o ≠ n → ∀ b ∈ blks C' n, b ∉ blks C o) : Good base C' where
  ob o := by
    by_cases h : o = n
    · subst h; exact hn
    · rw [hH o h]; exact (hg.ob o).same hx rfl (hb o h) (ho o h) (hw o h)
  low o b hb' := by
    by_cases h : o = n
    · subst h
      obtain ⟨h1, h2, h3, h4⟩ := hl b hb'
      exact ⟨h1, h2, fun k => h3 (hF b k), fun k => h4 (hG b k)⟩
    · rw [blks_same (hH o h) (hb o h) (ho o h)] at hb'
      obtain ⟨h1, h2, h3, h4⟩ := hg.low o b hb'
      exact ⟨h1, by omega, fun k => h3 (hF b k), fun k => h4 (hG b k)⟩
  nd o := by
    by_cases h : o = n
    · subst h; exact hd
    · rw [blks_same (hH o h) (hb o h) (ho o h)]; exact hg.nd o
  dj o p b hop hb' hb2 := by
    by_cases h : o = n
    · subst h
      have hp : p ≠ o := fun e => hop e.symm
      rw [blks_same (hH p hp) (hb p hp) (ho p hp)] at hb2
      exact ha p hp b hb' hb2
    · rw [blks_same (hH o h) (hb o h) (ho o h)] at hb'
      by_cases h' : p = n
      · subst h'; exact ha o h b hb2 hb'
      · rw [blks_same (hH p h') (hb p h') (ho p h')] at hb2
        exact hg.dj o p b hop hb' hb2
  fz b k := by have := hg.fz b (hF b k); omega
  gz b k := by have := hg.gz b (hG b k); omega
  gl := hg.glx hx

/-- A new object in new blocks. -/
def Cx.new (C : Cx) (n b : Nat) (S : List Nat) (x : AO) (w : World) : Cx := { C with H := upd C.H n x, blk := upd C.blk n b, own := upd C.own n S, w := w }
theorem Ext.new {base : Nat} {C : Cx} (hg : Good base C) {n b : Nat} {S : List Nat} {x : AO} {w : World} (hn : C.H n = .hole) (hw : ∀ k, k < C.w.heap.size → w.heap[k]? = C.w.heap[k]?) : Ext C (C.new n b S x w) where
  F _ h := h
  G _ h := h
  heap k h := hw k (h.elim (hg.fz k) (hg.gz k))
  obj o := by
    by_cases h : o = n
    · subst h; simp only [ObjExt, hn]
    · exact ObjExt.same (by simp [Cx.new, upd_ne _ _ h]) (by simp [Cx.new, upd_ne _ _ h]) fun k hk => hw k (hg.low o k hk).2.1
theorem Good.new {base : Nat} {C : Cx} (hg : Good base C) {n b : Nat} {S : List Nat} {x : AO} {w : World} (hn : C.H n = .hole) (hw : ∀ k, k < C.w.heap.size → w.heap[k]? = C.w.heap[k]?) (hs : C.w.heap.size ≤ w.heap.size) (hbase : base ≤ C.w.heap.size)
    (ho : ObjOk (C.new n b S x w) n x) (hl : ∀ k ∈ blks (C.new n b S x w) n, C.w.heap.size ≤ k ∧ k < w.heap.size) (hd : (blks (C.new n b S x w) n).Nodup) : Good base (C.new n b S x w) := by
  refine hg.one n (Ext.new hg hn hw) (fun o h => by simp [Cx.new, upd_ne _ _ h]) (fun o h => by simp [Cx.new, upd_ne _ _ h]) (fun o h => by simp [Cx.new, upd_ne _ _ h]) (fun o h k hk => hw k (hg.low o k hk).2.1) (fun _ h => h) (fun _ h => h) hs (by simpa [Cx.new] using ho) (fun k hk => ?_) hd (fun o h k hk hk2 => ?_)
  · obtain ⟨h1, h2⟩ := hl k hk
    exact ⟨by omega, h2, fun h => by have := hg.fz k h; omega, fun h => by have := hg.gz k h; omega⟩
  · obtain ⟨h1, h2⟩ := hl k hk
    have := (hg.low o k hk2).2.1
    omega

/-- Objects are let go. -/
def Cx.drop (C : Cx) (ids : List Nat) : Cx := { C with H := fun o => if ids.contains o = true then (match C.H o with | .hole => .hole | _ => .dead) else C.H o }
theorem blks_drop {C : Cx} {ids : List Nat} {o : Nat} : blks (C.drop ids) o = if ids.contains o = true then [] else blks C o := by
  simp only [blks, Cx.drop]
  by_cases h : ids.contains o = true
  · rw [if_pos h, if_pos h]
    cases C.H o <;> rfl
  · rw [if_neg h, if_neg h]
theorem Ext.drop (C : Cx) (ids : List Nat) : Ext C (C.drop ids) where
  F _ h := h
  G _ h := h
  heap _ _ := rfl
  obj o := by
    by_cases h : ids.contains o = true
    · simp only [ObjExt, Cx.drop, if_pos h]
      cases C.H o <;> trivial
    · exact ObjExt.same (by simp only [Cx.drop, if_neg h]) rfl fun _ _ => rfl
theorem Good.drop {base : Nat} {C : Cx} (hg : Good base C) (ids : List Nat) : Good base (C.drop ids) where
  ob o := by
    by_cases h : ids.contains o = true
    · simp only [Cx.drop, if_pos h]
      cases C.H o <;> trivial
    · have : (C.drop ids).H o = C.H o := by simp only [Cx.drop, if_neg h]
      rw [this]
      exact (hg.ob o).same (Ext.drop C ids) rfl rfl rfl fun _ _ => rfl
  low o b hb := by
    rw [blks_drop] at hb
    split at hb
    · cases hb
    · exact hg.low o b hb
  nd o := by
    rw [blks_drop]
    split
    · exact List.nodup_nil
    · exact hg.nd o
  dj o p b hop hb hb2 := by
    rw [blks_drop] at hb hb2
    split at hb
    · cases hb
    · split at hb2
      · cases hb2
      · exact hg.dj o p b hop hb hb2
  fz := hg.fz
  gz := hg.gz
  gl := hg.gl

/-- The blocks of objects that are let go are given to all. -/
def Cx.give (C : Cx) (ids : List Nat) : Cx := { C.drop ids with F := fun b => C.F b ∨ ∃ o ∈ ids, b ∈ blks C o }
theorem Ext.give {base : Nat} {C : Cx} (hg : Good base C) (ids : List Nat) : Ext C (C.give ids) where
  F _ h := .inl h
  G _ h := h
  heap _ _ := rfl
  obj o := (Ext.drop C ids).obj o
theorem Good.give {base : Nat} {C : Cx} (hg : Good base C) (ids : List Nat) : Good base (C.give ids) where
  ob o := by
    by_cases h : ids.contains o = true
    · show ObjOk (C.give ids) o ((C.drop ids).H o)
      simp only [Cx.drop, if_pos h]
      cases C.H o <;> trivial
    · have : (C.give ids).H o = C.H o := by simp only [Cx.give, Cx.drop, if_neg h]
      rw [this]
      exact (hg.ob o).same (Ext.give hg ids) rfl rfl rfl fun _ _ => rfl
  low o b hb := by
    have hb' : b ∈ blks (C.drop ids) o := hb
    rw [blks_drop] at hb'
    split at hb'
    · cases hb'
    · rename_i h
      obtain ⟨h1, h2, h3, h4⟩ := hg.low o b hb'
      refine ⟨h1, h2, ?_, h4⟩
      rintro (h5 | ⟨p, hp, hpb⟩)
      · exact h3 h5
      · have hop : o ≠ p := by rintro rfl; exact h (by simpa using hp)
        exact hg.dj o p b hop hb' hpb
  nd o := (hg.drop ids).nd o
  dj := (hg.drop ids).dj
  fz b h := by
    rcases h with h | ⟨p, _, hpb⟩
    · exact hg.fz b h
    · exact (hg.low p b hpb).2.1
  gz := hg.gz
  gl := hg.glx (Ext.give hg ids)
theorem Ext.trans {base : Nat} {A B C : Cx} (h : Ext A B) (k : Ext B C) : Ext A C where
  F b hb := k.F b (h.F b hb)
  G b hb := k.G b (h.G b hb)
  heap b hb := (k.heap b (hb.imp (h.F b) (h.G b))).trans (h.heap b hb)
  obj o := by
    have h1 := h.obj o
    have h2 := k.obj o
    simp only [ObjExt] at *
    cases ha : A.H o with
    | hole => trivial
    | dead =>
      rw [ha] at h1
      cases hb : B.H o <;> rw [hb] at h1 h2 <;> first | exact h1.elim | skip
      cases hc : C.H o <;> rw [hc] at h2 <;> first | exact h2.elim | trivial
    | box cells =>
      rw [ha] at h1
      cases hb : B.H o <;> rw [hb] at h1 h2 <;> first | exact h1.elim | skip
      · cases hc : C.H o <;> rw [hc] at h2 <;> first | exact h2.elim | trivial
      · cases hc : C.H o <;> rw [hc] at h2 <;> first | exact h2.elim | trivial | exact h2.trans h1
    | arr t l ver dp =>
      rw [ha] at h1
      cases hb : B.H o <;> rw [hb] at h1 h2 <;> first | exact h1.elim | skip
      · cases hc : C.H o <;> rw [hc] at h2 <;> first | exact h2.elim | trivial
      · rename_i t2 l2 ver2 dp2
        cases hc : C.H o <;> rw [hc] at h2 <;> first | exact h2.elim | trivial | skip
        rename_i t3 l3 ver3 dp3
        simp only at h1 h2 ⊢
        rcases h1 with h1 | ⟨a1, a2, a3, a4⟩
        · rcases h2 with h2 | ⟨b1, b2, b3, b4⟩
          · exact .inl (by omega)
          · exact .inl (by omega)
        · rcases h2 with h2 | ⟨b1, b2, b3, b4⟩
          · exact .inl (by omega)
          · refine .inr ⟨by omega, by omega, by omega, fun hl => ?_⟩
            have hl2 : l2 ≠ [] := by intro e; subst e; exact hl (List.eq_nil_of_length_eq_zero (by simpa using a3.symm))
            obtain ⟨c1, c2, c3⟩ := a4 hl
            obtain ⟨d1, d2, d3⟩ := b4 hl2
            refine ⟨d1.trans c1, fun cs tid hcs => ?_, fun hp hf => ?_⟩
            · obtain ⟨cs2, e1, e2⟩ := c2 cs tid hcs
              rw [← c1] at e1 ⊢
              obtain ⟨cs3, e3, e4⟩ := d2 cs2 tid e1
              exact ⟨cs3, e3, e4.trans e2⟩
            · obtain ⟨f1, f2⟩ := c3 hp hf
              obtain ⟨f3, f4⟩ := d3 (by omega) f1
              rw [c1] at f4
              exact ⟨f3, f4.trans f2⟩
theorem Ext.refl (C : Cx) : Ext C C where
  F _ h := h
  G _ h := h
  heap _ _ := rfl
  obj o := ObjExt.same rfl rfl fun _ _ => rfl
/-- The world alone goes on: no block that was there is touched. -/
theorem Ext.world {base : Nat} {C : Cx} (hg : Good base C) {w : World} (hw : ∀ k, k < C.w.heap.size → w.heap[k]? = C.w.heap[k]?) : Ext C { C with w := w } where
  F _ h := h
  G _ h := h
  heap k h := hw k (h.elim (hg.fz k) (hg.gz k))
  obj o := ObjExt.same rfl rfl fun k hk => hw k (hg.low o k hk).2.1
theorem Good.world {base : Nat} {C : Cx} (hg : Good base C) {w : World} (hw : ∀ k, k < C.w.heap.size → w.heap[k]? = C.w.heap[k]?) (hs : C.w.heap.size ≤ w.heap.size) : Good base { C with w := w } where
  ob o := (hg.ob o).same (Ext.world hg hw) rfl rfl rfl fun k hk => hw k (hg.low o k hk).2.1
  low o b hb := by obtain ⟨h1, h2, h3⟩ := hg.low o b hb; exact ⟨h1, by show b < w.heap.size; omega, h3⟩
  nd := hg.nd
  dj := hg.dj
  fz b h := by have := hg.fz b h; show b < w.heap.size; omega
  gz b h := by have := hg.gz b h; show b < w.heap.size; omega
  gl := hg.glx (Ext.world hg hw)
end Go.Proofs.YtnbaahpbmhhofaaDoor.Fw

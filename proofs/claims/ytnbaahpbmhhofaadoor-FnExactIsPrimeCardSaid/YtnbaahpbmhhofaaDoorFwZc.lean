/- Calls: the interpreter is right. -/
import Derived.Test.YtnbaahpbmhhofaaDoorFwY
import Derived.Laws.Sem
namespace Go.Proofs.YtnbaahpbmhhofaaDoor.Fw
open Go Go.RowKit
set_option linter.unusedVariables false
set_option linter.unusedSimpArgs false

/-! ### at a loop's head -/
theorem plain_rel {C C' : Cx} (hF : ∀ b, C.F b → C'.F b) (hG : ∀ b, C.G b → C'.G b) (hw : C'.w = C.w) : ∀ (d : Nat) {x : AV} {v : Value}, plainA d x = true → RelA C x v → RelA C' x v := by
  intro d
  induction d with
  | zero =>
    intro x v hp h
    cases x <;> simp only [plainA, Bool.false_eq_true] at hp <;> simp only [RelA] at h ⊢ <;> first | exact h | exact h.mono hF (fun _ _ => by rw [hw])
  | succ d ih =>
    have sub : ∀ {l : List AV} {vs : List Value}, l.all (plainA d) = true → RelL C l vs → RelL C' l vs := by
      intro l
      induction l with
      | nil => intro vs _ h; simpa [RelL] using h
      | cons x r ihr =>
        intro vs hp h
        simp only [List.all_cons, Bool.and_eq_true] at hp
        simp only [RelL] at h ⊢
        obtain ⟨v, vr, rfl, h1, h2⟩ := h
        exact ⟨v, vr, rfl, ih hp.1 h1, ihr hp.2 h2⟩
    have subR : ∀ {l : List AV} {b off : Nat}, l.all (plainA d) = true → RelR C b l off → RelR C' b l off := by
      intro l
      induction l with
      | nil => intro b off _ h; simp [RelR]
      | cons x r ihr =>
        intro b off hp h
        simp only [List.all_cons, Bool.and_eq_true] at hp
        simp only [RelR] at h ⊢
        obtain ⟨⟨u, h1, h2, h3⟩, h4⟩ := h
        exact ⟨⟨u, by rw [hw]; exact h1, h2, ih hp.1 h3⟩, ihr hp.2 h4⟩
    intro x v hp h
    cases x <;> simp only [plainA, Bool.false_eq_true] at hp <;> simp only [RelA] at h ⊢ <;> try exact h
    · exact h.mono hF (fun _ _ => by rw [hw])
    · obtain ⟨b, off, rfl, hb, h⟩ := h
      exact ⟨b, off, rfl, hb.imp (hF b) (hG b), subR hp h⟩
    · obtain ⟨vs, h1, h2, h3⟩ := h
      exact ⟨vs, h1, h2, sub hp h3⟩
    · obtain ⟨vs, h1, h3⟩ := h
      exact ⟨vs, h1, sub hp h3⟩
    · obtain ⟨vs, h1, h3⟩ := h
      exact ⟨vs, h1, sub hp h3⟩
def leafA : AV → Bool
  | .agg _ => false
  | .tup _ => false
  | .fn _ _ => false
  | _ => true
/-- A walk through values, with other words for what is at the leaves. -/
theorem mapA_rel' {C C' : Cx} {f : AV → AV} (hf : ∀ x v, leafA x = true → RelA C x v → RelA C' (f x) v) : ∀ (d : Nat) {x : AV} {v : Value}, RelA C x v → RelA C' (mapA f d x) v := by
  intro d
  induction d with
  | zero =>
    intro x v h
    cases x <;> simp only [mapA] <;> first | exact hf _ _ rfl h | simp only [RelA]
  | succ d ih =>
    have sub : ∀ {l : List AV} {vs : List Value}, RelL C l vs → RelL C' (l.map (mapA f d)) vs := fun h => mapL_rel (fun x v h => ih h) h
    intro x v h
    cases x <;> simp only [mapA] <;> try exact hf _ _ rfl h
    · simp only [RelA] at h ⊢
      obtain ⟨vs, h1, h2, h3⟩ := h
      exact ⟨vs, h1, h2, sub h3⟩
    · simp only [RelA] at h ⊢
      obtain ⟨vs, h1, h3⟩ := h
      exact ⟨vs, h1, sub h3⟩
    · simp only [RelA] at h ⊢
      obtain ⟨vs, h1, h3⟩ := h
      exact ⟨vs, h1, sub h3⟩
theorem trimO_get (r0 : Nat) (f : AV → AV) : ∀ (i n : Nat) (l : List AO) (k : Nat), (trimO r0 f i n l)[k]? = if k < n then (l[k]?).map fun x => match x with
    | .arr t l ver dp => .arr t l (verOf r0 (i + k) ver) dp
    | .box cells => .box (cells.map f)
    | x => x else none
  | i, 0, l, k => by simp [trimO]
  | i, n + 1, [], k => by simp [trimO]
  | i, n + 1, x :: r, 0 => by simp only [trimO, List.getElem?_cons_zero, Nat.zero_lt_succ, if_true, Option.map_some, Nat.add_zero]; cases x <;> rfl
  | i, n + 1, x :: r, k + 1 => by
    simp only [trimO, List.getElem?_cons_succ]
    rw [trimO_get r0 f (i + 1) n r k, show i + 1 + k = i + (k + 1) by omega]
    by_cases h : k < n
    · rw [if_pos h, if_pos (by omega)]
    · rw [if_neg h, if_neg (by omega)]
theorem trimT_get (f : AV → AV) (keep : List Tmp) : ∀ (l : List AV) (i k : Nat), (trimT f keep i l)[k]? = (l[k]?).map fun x => if keep.contains (i + k) = true then f x else .top
  | [], i, k => by simp [trimT]
  | x :: r, i, 0 => by simp [trimT]
  | x :: r, i, k + 1 => by
    simp only [trimT, List.getElem?_cons_succ]
    rw [trimT_get f keep r (i + 1) k, show i + 1 + k = i + (k + 1) by omega]
theorem trimT_len (f : AV → AV) (keep : List Tmp) : ∀ (l : List AV) (i : Nat), (trimT f keep i l).length = l.length
  | [], i => rfl
  | x :: r, i => by simp [trimT, trimT_len f keep r]

theorem Sim.trim {base : Nat} {C0 C : Cx} {σ : St} {a : Act} (h : Sim base C σ a) (ht : To base C0 C) {h0 : Nat} (hh : ∀ o, h0 ≤ o → C0.H o = .hole) {r0 : Nat} (hr : ∀ o, r0 ≤ o → C0.H o = .hole) (keep : List Tmp) :
    ∃ C', C'.w = C.w ∧ To base C0 C' ∧ Sim base C' (Fw.trim r0 keep h0 σ) a := by
  have hg := h.good
  let f := mapA (trimA r0 (look σ.H) h0) depth
  let H2 : Nat → AO := look (trimO r0 f 0 h0 σ.H)
  let C' : Cx := { C with H := H2 }
  have hH2 : ∀ o, H2 o = if o < h0 then (match C.H o with
      | .arr t l ver dp => .arr t l (verOf r0 o ver) dp
      | .box cells => .box (cells.map f)
      | x => x) else .hole := by
    intro o
    show look (trimO r0 f 0 h0 σ.H) o = _
    rw [h.H]
    simp only [look, List.getD_eq_getElem?_getD, trimO_get, Nat.zero_add]
    by_cases ho : o < h0
    · rw [if_pos ho, if_pos ho]
      cases σ.H[o]? <;> rfl
    · rw [if_neg ho, if_neg ho]; rfl
  have hf0 : ∀ x v, leafA x = true → RelA C x v → RelA C' (trimA r0 C.H h0 x) v := by
    intro x v hlf hx
    cases x <;> try (cases hlf; done)
    case top => simp only [trimA, RelA]
    case osl o ver =>
      simp only [trimA]
      split
      · rename_i ho
        split <;> try (simp only [RelA]; done)
        rename_i t l cur dp hH
        split <;> try (simp only [RelA]; done)
        rename_i hv
        subst hv
        simp only [RelA, OslOk, hH] at hx ⊢
        have : C'.H o = .arr t l (verOf r0 o cur) dp := by show H2 o = _; rw [hH2, if_pos ho, hH]
        rw [this]
        refine ⟨hx.1, .inr ⟨rfl, ?_⟩⟩
        rcases hx.2 with h | ⟨_, h⟩
        · omega
        · exact h
      · simp only [RelA]
    case bptr o off =>
      simp only [trimA]
      split
      · rename_i ho
        simp only [RelA, BptrOk] at hx ⊢
        refine ⟨hx.1, ?_⟩
        have : C'.H o = _ := hH2 o
        rw [this, if_pos ho]
        have hx2 := hx.2
        cases hH : C.H o <;> rw [hH] at hx2 <;> first | exact hx2.elim | exact hx2
      · simp only [RelA]
    case mth f o off =>
      simp only [trimA]
      split
      · rename_i ho
        simp only [RelA, BptrOk] at hx ⊢
        obtain ⟨p, hp, hx⟩ := hx
        refine ⟨p, hp, hx.1, ?_⟩
        have : C'.H o = _ := hH2 o
        rw [this, if_pos ho]
        have hx2 := hx.2
        cases hH : C.H o <;> rw [hH] at hx2 <;> first | exact hx2.elim | exact hx2
      · simp only [RelA]
    case eptr => simp only [trimA, RelA]
    case iptr => simp only [trimA, RelA]
    case isl o ver i c =>
      simp only [trimA]
      split
      · rename_i ho
        split <;> try (simp only [RelA]; done)
        rename_i hro
        split <;> try (simp only [RelA]; done)
        rename_i t l cur dp hH
        split <;> try (simp only [RelA]; done)
        rename_i hv
        subst hv
        simp only [RelA, IslOk, hH] at hx ⊢
        have : C'.H o = .arr t l cur dp := by show H2 o = _; rw [hH2, if_pos ho, hH]; simp only [verOf, if_neg (show ¬ r0 ≤ o by omega)]
        rw [this]
        refine ⟨hx.1, .inr ⟨rfl, ?_⟩⟩
        rcases hx.2 with h | ⟨_, h⟩
        · omega
        · exact h
      · simp only [RelA]
    case ref cells =>
      simp only [trimA]
      split
      · rename_i hp
        exact plain_rel (C := C) (C' := C') (fun _ h => h) (fun _ h => h) rfl (depth + 1) (x := .ref cells) (by simpa only [plainA] using hp) hx
      · simp only [RelA]
    all_goals
      simp only [trimA]
      simp only [RelA] at hx ⊢
      exact hx
  have hf : ∀ x v, RelA C x v → RelA C' (f x) v := by
    intro x v hx
    have : f = mapA (trimA r0 C.H h0) depth := by show mapA (trimA r0 (look σ.H) h0) depth = _; rw [h.H]
    rw [this]
    exact mapA_rel' hf0 depth hx
  have hext : Ext C0 C' := by
    refine ⟨ht.ext.F, ht.ext.G, ht.ext.heap, fun o => ?_⟩
    have hob := ht.ext.obj o
    simp only [ObjExt] at hob ⊢
    have : C'.H o = _ := hH2 o
    rw [this]
    by_cases ho : o < h0
    · rw [if_pos ho]
      by_cases hro : r0 ≤ o
      · rw [hr o hro]; trivial
      · simp only [verOf, if_neg hro]
        cases h1 : C0.H o <;> cases h2 : C.H o <;> rw [h1, h2] at hob <;> first | exact hob | trivial
    · rw [if_neg ho, hh o (by omega)]; trivial
  have hbl : ∀ o, blks C' o = if o < h0 then blks C o else [] := by
    intro o
    have : C'.H o = _ := hH2 o
    simp only [blks, this]
    by_cases ho : o < h0
    · rw [if_pos ho, if_pos ho]
      cases hH : C.H o <;> rfl
    · rw [if_neg ho, if_neg ho]
  have hmem : ∀ {o b}, b ∈ blks C' o → b ∈ blks C o := by
    intro o b hb
    rw [hbl] at hb
    split at hb
    · exact hb
    · cases hb
  have hgood : Good base C' := by
    refine ⟨fun o => ?_, fun o b hb => hg.low o b (hmem hb), fun o => ?_, fun o p b hop h1 h2 => hg.dj o p b hop (hmem h1) (hmem h2), hg.fz, hg.gz, hg.gl⟩
    · have : C'.H o = _ := hH2 o
      rw [this]
      by_cases ho : o < h0
      · rw [if_pos ho]
        have hob := hg.ob o
        cases hH : C.H o <;> rw [hH] at hob
        · trivial
        · trivial
        · simp only [ObjOk] at hob ⊢
          obtain ⟨cs, tid, a1, a2, a3⟩ := hob
          exact ⟨cs, tid, a1, a2, mapL_rel hf a3⟩
        · exact hob
      · rw [if_neg ho]; trivial
    · rw [hbl]; split
      · exact hg.nd o
      · exact List.nodup_nil
  refine ⟨C', rfl, ⟨hext, ht.size, ht.bel, ht.fnew, ht.gsame⟩, ⟨hgood, h.low, rfl, ?_, fun i => ?_, h.df⟩⟩
  · simp only [Fw.trim, trimT_len]; exact h.len
  · have := h.tm i
    simp only [tvOf, Fw.trim, List.getD_eq_getElem?_getD, trimT_get, Nat.zero_add] at this ⊢
    cases hσ : σ.t[i]? with
    | none => simp only [Option.map_none, Option.getD_none, RelA]
    | some x =>
      rw [hσ] at this
      simp only [Option.map_some, Option.getD_some] at this ⊢
      split
      · exact hf x _ this
      · simp only [RelA]
theorem Sim.promote {base : Nat} : ∀ (l : List (Tmp × Ty)) {C : Cx} {σ : St} {a : Act}, Sim base C σ a → ∃ C', C'.w = C.w ∧ To base C C' ∧ Sim base C' (Fw.promote l σ) a
  | [], C, σ, a, h => ⟨C, rfl, To.refl base C, h⟩
  | (i, t) :: r, C, σ, a, h => by
    simp only [Fw.promote]
    split
    · rename_i hz
      have hv := h.tm i
      rw [hz] at hv
      simp only [RelA] at hv
      obtain ⟨A, hv⟩ := hv
      split
      · rename_i e _
        exact Sim.promote r (h.tell (i := i) (v := .sl e []) (by rw [hv]; simp only [RelA, RelD]; exact ⟨A, 0, rfl, Nat.le_refl _, .inl trivial⟩))
      · have hn : C.H σ.H.length = .hole := by rw [h.H]; exact look_hole (Nat.le_refl _)
        let C1 := C.new σ.H.length 0 [] (.arr (objT t) [] 0 (objB t)) C.w
        have g1 : Good base C1 := Good.arr_nil h.good hn (fun _ _ => rfl) (Nat.le_refl _)
        have t1 : To base C C1 := ⟨Ext.new h.good hn (fun _ _ => rfl), Nat.le_refl _, Below.refl _ _, fun _ h => .inl h, fun _ h => h⟩
        have hH1 : C1.H = look (σ.H ++ [.arr (objT t) [] 0 (objB t)]) := by
          show upd C.H σ.H.length _ = _
          rw [h.H]
          funext p
          simp only [upd, look, List.getD_eq_getElem?_getD]
          by_cases hp : p = σ.H.length
          · subst hp; simp
          · rw [if_neg hp]
            rcases Nat.lt_or_ge p σ.H.length with h' | h'
            · rw [List.getElem?_append_left h']
            · rw [List.getElem?_eq_none h', List.getElem?_eq_none (by simp; omega)]
        have s1 : Sim base C1 ⟨σ.t, σ.H ++ [.arr (objT t) [] 0 (objB t)]⟩ a := { good := g1, low := h.low, H := hH1, len := h.len, tm := fun j => (h.tm j).mono t1.ext, df := h.df }
        have s2 := s1.tell (i := i) (v := .osl σ.H.length 0) (by rw [hv]; exact osl_nil rfl A)
        obtain ⟨C2, a1, a2, a3⟩ := Sim.promote r s2
        exact ⟨C2, a1, t1.trans a2, a3⟩
    · rename_i o _ _
      split
      · obtain ⟨C1, b1, b2, b3, _⟩ := h.freeze [o]
        obtain ⟨C2, a1, a2, a3⟩ := Sim.promote r b3
        exact ⟨C2, a1.trans b1, b2.trans a2, a3⟩
      · exact Sim.promote r h
    · exact Sim.promote r h
end Go.Proofs.YtnbaahpbmhhofaaDoor.Fw

namespace Go.Proofs.YtnbaahpbmhhofaaDoor.Fw
open Go Go.RowKit
set_option linter.unusedVariables false
set_option linter.unusedSimpArgs false

def exOf : Ex → Exit
  | .normal => .normal
  | .exit id => .exit id
  | .ret => .ret
section
variable {P : Program} {T : Tb} {α : Type} {base : Nat} {r : α} {Ca : Ca T} {fid : FuncId} {C0 : Cx} {nf : Nat}
/-- What is to be shown behind code. -/
def KontC (base : Nat) (C0 : Cx) (Q : Exit → Act → World → Prop) (k : Ex → St → Option α) (r : α) : Prop :=
  ∀ e ρ a C, k e ρ = some r → Sim base C ρ a → To base C0 C → Q (exOf e) a C.w
theorem exec_sound (hT : TbOk P T) (hC : CaOk P T Ca) {r0 : Nat} (hr : ∀ o, r0 ≤ o → C0.H o = .hole) : ∀ (c : Code) {σ : St} {a : Act} {C : Cx} {k : Ex → St → Option α} {Q : Exit → Act → World → Prop},
    Sim base C σ a → To base C0 C → KontC base C0 Q k r → exec T Ca fid r0 nf c σ k = some r → c.wp P Q a C.w := by
  intro c
  induction c with
  | skip =>
    intro σ a C k Q hs ht hk h
    simp only [exec] at h
    exact wp_skip (hk .normal _ _ _ h hs ht)
  | region id ops draw =>
    intro σ a C k Q hs ht hk h
    cases draw with
    | false =>
      simp only [exec] at h
      refine wp_region ?_
      rw [List.range_eq_range']
      have := execOps_sound (Q := Q) hT hC ops.toList 0 (by simp) hs (fun ρ a' C' h1 h2 h3 => hk .normal ρ a' C' h1 h2 (ht.trans h3)) h
      simpa using this
    | true =>
      simp only [exec] at h
      exact execDraw_sound hT hC hs (fun ρ a' C' h1 h2 h3 => hk .normal ρ a' C' h1 h2 (ht.trans h3)) h
  | seq x y ihx ihy =>
    intro σ a C k Q hs ht hk h
    simp only [exec] at h
    refine wp_seq (ihx hs ht ?_ h)
    intro e ρ a' C' h1 h2 h3
    cases e with
    | normal => exact ihy h2 h3 hk h1
    | exit id => exact hk _ _ _ _ h1 h2 h3
    | ret => exact hk _ _ _ _ h1 h2 h3
  | cond c x y ihx ihy =>
    intro σ a C k Q hs ht hk h
    simp only [exec] at h
    obtain ⟨b, hb, h⟩ := testK_some (opnd_rel hs.tm c) h
    refine wp_cond hb ?_
    cases b with
    | true => simp only [if_true] at h ⊢; exact ihx hs ht hk h
    | false => simp only [Bool.false_eq_true, if_false] at h ⊢; exact ihy hs ht hk h
  | block id c ih =>
    intro σ a C k Q hs ht hk h
    simp only [exec] at h
    refine wp_block (ih hs ht ?_ h)
    intro e ρ a' C' h1 h2 h3
    cases e with
    | normal => exact hk _ _ _ _ h1 h2 h3
    | ret => exact hk _ _ _ _ h1 h2 h3
    | exit j =>
      simp only at h1
      simp only [exOf, Exit.inBlock]
      split at h1
      · rename_i e; rw [if_pos e]; exact hk _ _ _ _ h1 h2 h3
      · rename_i e; rw [if_neg e]; exact hk _ _ _ _ h1 h2 h3
  | loop c ih =>
    intro σ a C k Q hs ht hk h
    simp only [exec] at h
    obtain ⟨C1, w1, t1, s1⟩ := Sim.promote (T.keep fid (firstReg c)).2 hs
    generalize promote (T.keep fid (firstReg c)).2 σ = σ0 at h s1
    rw [← w1]
    have ht1 := ht.trans t1
    have hh : ∀ o, σ0.H.length ≤ o → C0.H o = .hole := by
      intro o ho
      have hob := ht1.ext.obj o
      have : C1.H o = .hole := by rw [s1.H]; exact look_hole ho
      simp only [ObjExt, this] at hob
      cases h0 : C0.H o <;> rw [h0] at hob <;> first | rfl | exact hob.elim
    generalize σ0.H.length = h0 at h hh
    let nm := trim r0 (T.keep fid (firstReg c)).1 h0
    let J : Nat → Act → World → Prop := fun m a w => ∃ σ C, loopIt (exec T Ca fid r0 nf c) nm k m σ = some r ∧ Sim base C σ a ∧ To base C0 C ∧ C.w = w
    obtain ⟨C2, w2, t2, s2⟩ := s1.trim ht1 hh (r0 := r0) hr (T.keep fid (firstReg c)).1
    have hJ : J nf a C1.w := ⟨_, C2, h, s2, t2, w2⟩
    open Classical in
    let μ : Act → World → Nat := fun a w => if hx : ∃ m, J m a w then Classical.choose (show ∃ m, J m a w ∧ ∀ m', J m' a w → m ≤ m' from by
      obtain ⟨m, hm⟩ := hx
      induction m using Nat.strongRecOn with
      | _ m ihm =>
        by_cases hlt : ∃ m', m' < m ∧ J m' a w
        · obtain ⟨m', h1, h2⟩ := hlt; exact ihm m' h1 h2
        · exact ⟨m, hm, fun m' h' => by
            rcases Nat.lt_or_ge m' m with hl | hl
            · exact absurd ⟨m', hl, h'⟩ hlt
            · exact hl⟩) else 0
    have hμ : ∀ {a w}, (∃ m, J m a w) → J (μ a w) a w ∧ ∀ m', J m' a w → μ a w ≤ m' := by
      intro a w hx
      have : μ a w = _ := dif_pos hx
      rw [this]
      exact Classical.choose_spec (p := fun m => J m a w ∧ ∀ m', J m' a w → m ≤ m') _
    refine wp_loop (fun a w => ∃ m, J m a w) μ ⟨nf, hJ⟩ fun a w hx => ?_
    obtain ⟨⟨σ, C, h1, h2, h3, h4⟩, hmin⟩ := hμ hx
    generalize μ a w = m at h1 hmin
    subst h4
    cases m with
    | zero => simp [loopIt] at h1
    | succ m =>
      simp only [loopIt] at h1
      refine ih h2 h3 ?_ h1
      intro e ρ a' C' g1 g2 g3
      cases e with
      | normal =>
        obtain ⟨C3, w3, t3, s3⟩ := g2.trim g3 hh (r0 := r0) hr (T.keep fid (firstReg c)).1
        have hx' : J m a' C'.w := ⟨nm ρ, C3, g1, s3, t3, w3⟩
        exact ⟨⟨m, hx'⟩, Nat.lt_succ_of_le ((hμ ⟨m, hx'⟩).2 m hx')⟩
      | exit id => exact hk _ _ _ _ g1 g2 g3
      | ret => exact hk _ _ _ _ g1 g2 g3
  | exit id =>
    intro σ a C k Q hs ht hk h
    simp only [exec] at h
    exact wp_exit (hk _ _ _ _ h hs ht)
  | ret =>
    intro σ a C k Q hs ht hk h
    simp only [exec] at h
    exact wp_ret (hk _ _ _ _ h hs ht)
  | _ =>
    intro σ a C k Q hs ht hk h
    simp [exec] at h
end
end Go.Proofs.YtnbaahpbmhhofaaDoor.Fw

namespace Go.Proofs.YtnbaahpbmhhofaaDoor.Fw
open Go Go.RowKit
set_option linter.unusedVariables false
set_option linter.unusedSimpArgs false

/-- A function's results, with their cells. -/
def RelRes (C : Cx) : List (Bool × List AV) → List Value → Prop
  | [], vs => vs = []
  | p :: r, vs => ∃ v vr, vs = v :: vr ∧ (if p.1 = true then ∃ cs, v = .agg cs else v.oneCell' = true) ∧ RelL C p.2 v.cells.toList ∧ (∀ u ∈ v.cells.toList, u.oneCell' = true) ∧ RelRes C r vr
theorem cellsO_shape {C : Cx} {x : AV} {v : Value} {l : List AV} (hr : RelA C x v) (h : cellsO x = some l) : if isAggA x = true then ∃ cs, v = .agg cs else v.oneCell' = true := by
  cases x <;> simp only [cellsO] at h <;> try (cases h; done)
  case agg => simp only [isAggA, if_true]; simp only [RelA] at hr; obtain ⟨vs, rfl, _⟩ := hr; exact ⟨_, rfl⟩
  all_goals simp only [isAggA, Bool.false_eq_true, if_false]
  case sl t l' => simp only [RelA, RelD] at hr; obtain ⟨A, c, h1, _⟩ := hr; rw [(List.cons.inj h1).1]; rfl
  case zsl => simp only [RelA] at hr; obtain ⟨A, rfl⟩ := hr; rfl
  case osl => simp only [RelA, OslOk] at hr; obtain ⟨⟨A, n, c, rfl⟩, _⟩ := hr; rfl
  case bptr => simp only [RelA, BptrOk] at hr; obtain ⟨⟨p, rfl⟩, _⟩ := hr; rfl
  case eptr => simp only [RelA, EptrOk] at hr; obtain ⟨⟨p, rfl⟩, _⟩ := hr; rfl
  case ref => simp only [RelA] at hr; obtain ⟨b, off, rfl, _⟩ := hr; rfl
  case fn => simp only [RelA] at hr; obtain ⟨vs, rfl, _⟩ := hr; rfl
  case mth => simp only [RelA] at hr; obtain ⟨p, rfl, _⟩ := hr; rfl
  case anyb => simp only [RelA] at hr; obtain ⟨b, rfl⟩ := hr; rfl
  case isl => simp only [RelA, IslOk] at hr; obtain ⟨⟨A, n, c, rfl⟩, _⟩ := hr; rfl
  case iptr => simp only [RelA, IptrOk] at hr; obtain ⟨⟨p, rfl⟩, _⟩ := hr; rfl
  all_goals (simp only [RelA] at hr; rw [hr]; rfl)
section
variable {P : Program} {T : Tb} {base : Nat}
def resOf (tmps : Array Value) : ResultVar → Sem Value
  | .tmp t => pure (tmps.getD t undef)
  | .cell a t => do loadVar t (← asAddr (tmps.getD a undef))
theorem res_one (hT : TbOk P T) {C : Cx} {σ : St} {a : Act} (hs : Sim base C σ a) {x : ResultVar} {p : Bool × List AV} (h : resCells T σ x = some p) :
    ∃ v, (resOf a.tmps x).run P C.w = .ok v C.w ∧ (if p.1 = true then ∃ cs, v = .agg cs else v.oneCell' = true) ∧ RelL C p.2 v.cells.toList ∧ (∀ u ∈ v.cells.toList, u.oneCell' = true) := by
  cases x with
  | tmp t =>
    simp only [resCells] at h
    split at h <;> try (cases h; done)
    rename_i l hl
    cases h
    obtain ⟨h1, h2⟩ := cellsO_rel (hs.tm t) hl
    exact ⟨_, by simp [resOf], cellsO_shape (hs.tm t) hl, h1, h2⟩
  | cell t ty =>
    simp only [resCells] at h
    split at h <;> try (cases h; done)
    rename_i i cs hi hc
    split at h <;> try (cases h; done)
    rename_i hsz
    cases h
    rw [← hs.H] at hc
    obtain ⟨b, off, vs, h1, h2, h3, h4⟩ := cellsAt_rel hs.good (hs.tm t) hc
    have hti := hT.ty _ _ hi
    have hlen : (vs.take i.size).length = i.size := by have := h2.len; simp; omega
    have hld := run_load_ti hti (w := C.w) (b := b) (off := off) (vs := vs.take i.size) hlen (fun j u hj => h4 j u (by
      rw [List.getElem?_take] at hj; split at hj; exact hj; cases hj))
    refine ⟨_, by simp [resOf, h1, asAddr]; exact hld, ?_, ?_, ?_⟩
    · split
      · rename_i hk; exact ⟨_, rfl⟩
      · rename_i hk
        have h1' := hti.one (by simpa using hk)
        match hvs : vs.take i.size, hlen with
        | [u], _ => exact h3 u (List.mem_of_mem_take (by rw [hvs]; simp))
        | [], hl => simp at hl; omega
        | u :: u' :: q, hl => simp at hl; omega
    · have ht := h2.take (n := i.size)
      split
      · rename_i hk; simpa [Value.cells] using ht
      · rename_i hk
        have h1' := hti.one (by simpa using hk)
        match hvs : vs.take i.size, hlen with
        | [u], _ =>
          rw [hvs] at ht
          have hu : u.oneCell' = true := h3 u (List.mem_of_mem_take (by rw [hvs]; simp))
          have : u.cells = #[u] := by cases u <;> first | rfl | simp [Value.oneCell'] at hu
          simpa [this] using ht
        | [], hl => simp at hl; omega
        | u :: u' :: q, hl => simp at hl; omega
    · split
      · rename_i hk
        intro u hu
        exact h3 u (List.mem_of_mem_take (by simpa [Value.cells] using hu))
      · rename_i hk
        have h1' := hti.one (by simpa using hk)
        match hvs : vs.take i.size, hlen with
        | [u], _ =>
          have hu : u.oneCell' = true := h3 u (List.mem_of_mem_take (by rw [hvs]; simp))
          have : u.cells = #[u] := by cases u <;> first | rfl | simp [Value.oneCell'] at hu
          simp [this, hu]
        | [], hl => simp at hl; omega
        | u :: u' :: q, hl => simp at hl; omega
theorem res_all (hT : TbOk P T) {C : Cx} {σ : St} {a : Act} (hs : Sim base C σ a) : ∀ {xs : List ResultVar} {ps : List (Bool × List AV)}, allR (resCells T σ) xs = some ps →
    ∃ vs, (xs.mapM (resOf a.tmps)).run P C.w = .ok vs C.w ∧ RelRes C ps vs
  | [], ps, h => by simp [allR] at h; subst h; exact ⟨[], by simp, rfl⟩
  | x :: r, ps, h => by
    simp only [allR] at h
    split at h <;> try (cases h; done)
    rename_i y s h1 h2
    cases h
    obtain ⟨v, a1, a2, a3, a4⟩ := res_one hT hs h1
    obtain ⟨vs, b1, b2⟩ := res_all hT hs h2
    exact ⟨v :: vs, by simp [List.mapM_cons, a1, b1], by simp only [RelRes]; exact ⟨v, vs, rfl, a2, a3, a4, b2⟩⟩
theorem results_run (hT : TbOk P T) {C : Cx} {σ : St} {a : Act} (hs : Sim base C σ a) {fn : Func} {ps : List (Bool × List AV)} (h : allR (resCells T σ) fn.results.toList = some ps) :
    ∃ vs, (results fn a.tmps).run P C.w = .ok (resV vs) C.w ∧ RelRes C ps vs := by
  obtain ⟨vs, h1, h2⟩ := res_all hT hs h
  refine ⟨vs, ?_, h2⟩
  have h3 : (fn.results.mapM (resOf a.tmps)).run P C.w = .ok vs.toArray C.w := by
    rw [Array.mapM_eq_mapM_toList]
    simp [h1]
  have h4 : results fn a.tmps = (do let vs ← fn.results.mapM (resOf a.tmps); pure (if h : vs.size = 1 then vs[0] else .tuple vs)) := by
    unfold results
    congr
  rw [h4]
  simp only [Sem.run_bind, h3]
  match vs with
  | [] => simp [resV]
  | [v] => simp [resV]
  | v :: u :: r => simp [resV]
end
end Go.Proofs.YtnbaahpbmhhofaaDoor.Fw

namespace Go.Proofs.YtnbaahpbmhhofaaDoor.Fw
open Go Go.RowKit
set_option linter.unusedVariables false
set_option linter.unusedSimpArgs false

section
variable {P : Program} {T : Tb} {base : Nat}
/-! ### results, given to all -/
theorem expD_rel {C : Cx} (hg : Good base C) {F : Nat → Prop} (hF : ∀ b, C.F b → F b) (hB : ∀ o b, b ∈ blks C o → F b) : ∀ {t : Ty} {l : List AV} {vs : List Value} {d : t.D}, expD C.H t l = some d → RelL C l vs → RelD F C.w t d vs := by
  have flat : ∀ {t : Ty} {l : List AV} {vs : List Value} {d : t.D}, toD t l = some d → RelL C l vs → RelD F C.w t d vs := fun h hr => (toD_rel h hr).mono hF fun _ _ => rfl
  intro t
  induction t with
  | sl e _ =>
    intro l vs d h hr
    rcases l with _ | ⟨x, _ | ⟨z, s⟩⟩
    · exact flat (by simpa only [expD] using h) hr
    · cases x <;> try exact flat (by simpa only [expD] using h) hr
      rename_i o ver
      simp only [expD] at h
      split at h <;> try (cases h; done)
      rename_i t' l' cur dp hH
      split at h <;> try (cases h; done)
      rename_i hv
      subst hv
      split at h <;> try (cases h; done)
      rename_i he
      subst he
      cases h
      obtain ⟨v, rfl, hv⟩ := hr.one
      simp only [RelA] at hv
      exact arr_D hg hH hv hF (hB o)
    · exact flat (by simpa only [expD] using h) hr
  | pr a b iha ihb =>
    intro l vs d h hr
    simp only [expD] at h
    split at h <;> try (cases h; done)
    rename_i x y h1 h2
    cases h
    simp only [RelD]
    exact ⟨_, _, (List.take_append_drop a.size vs).symm, iha h1 hr.take, ihb h2 hr.drop⟩
  | _ => intro l vs d h hr; exact flat (by simpa only [expD] using h) hr
theorem shape_VOk {t : Ty} {p : Bool × List AV} {v : Value} (h : shapeOk t p = true) (hv : if p.1 = true then ∃ cs, v = .agg cs else v.oneCell' = true) : VOk t v ∧ p.2.length = t.size := by
  simp only [shapeOk, Bool.and_eq_true, beq_iff_eq] at h
  refine ⟨?_, Nat.eq_of_beq_eq_true h.2⟩
  unfold VOk
  rw [← h.1]
  split
  · rename_i h1; rwa [if_pos h1] at hv
  · rename_i h1; rwa [if_neg h1] at hv
theorem expL_rel {C : Cx} (hg : Good base C) {F : Nat → Prop} (hF : ∀ b, C.F b → F b) (hB : ∀ o b, b ∈ blks C o → F b) : ∀ {rs : List Ty} {ps : List (Bool × List AV)} {vs : List Value} {d : DL rs}, expL C.H rs ps = some d → RelRes C ps vs → RelRs (fun t d vs S => RelD F C.w t d vs ∧ S = []) rs d vs []
  | [], [], vs, d, h, hr => by simp only [RelRes] at hr; simp only [RelRs]; exact ⟨hr, trivial⟩
  | [], _ :: _, vs, d, h, hr => by simp [expL] at h
  | [a], [], vs, d, h, hr => by simp [expL] at h
  | [a], [p], vs, d, h, hr => by
    simp only [expL] at h
    split at h <;> try (cases h; done)
    rename_i hs
    simp only [RelRes] at hr
    obtain ⟨v, vr, rfl, h1, h2, h3, rfl⟩ := hr
    simp only [RelRs]
    exact ⟨v, rfl, (shape_VOk hs h1).1, expD_rel hg hF hB h h2, trivial⟩
  | [a], _ :: _ :: _, vs, d, h, hr => by simp [expL] at h
  | a :: b :: r, [], vs, d, h, hr => by simp [expL] at h
  | a :: b :: r, p :: ps, vs, d, h, hr => by
    simp only [expL] at h
    split at h <;> try (cases h; done)
    rename_i hs
    split at h <;> try (cases h; done)
    rename_i x y e1 e2
    cases h
    simp only [RelRes] at hr
    obtain ⟨v, vr, rfl, h1, h2, h3, h4⟩ := hr
    simp only [RelRs]
    exact ⟨v, vr, [], [], rfl, rfl, (shape_VOk hs h1).1, ⟨expD_rel hg hF hB e1 h2, rfl⟩, expL_rel hg hF hB e2 h4⟩
theorem expXL_rel {C : Cx} (hg : Good base C) : ∀ {rs : List Ty} {ps : List (Bool × List AV)} {vs : List Value} {d : DL rs} {ids : List Nat}, expXL C.H rs ps = some (d, ids) → RelRes C ps vs → RelRs (RelX C.w) rs d vs (ids.flatMap (blks C)) ∧ ∀ o ∈ ids, ∃ t l ver dp, C.H o = .arr t l ver dp
  | [], [], vs, d, ids, h, hr => by simp only [expXL, Option.some.injEq, Prod.mk.injEq] at h; obtain ⟨_, rfl⟩ := h; simp only [RelRes] at hr; simp only [RelRs]; exact ⟨⟨hr, rfl⟩, by simp⟩
  | [], _ :: _, vs, d, ids, h, hr => by simp [expXL] at h
  | [a], [], vs, d, ids, h, hr => by simp [expXL] at h
  | [a], [p], vs, d, ids, h, hr => by
    simp only [expXL] at h
    split at h <;> try (cases h; done)
    rename_i hs
    simp only [RelRes] at hr
    obtain ⟨v, vr, rfl, h1, h2, h3, rfl⟩ := hr
    obtain ⟨h5, h6⟩ := toX_rel hg h h2
    simp only [RelRs]
    exact ⟨⟨v, rfl, (shape_VOk hs h1).1, h5⟩, h6⟩
  | [a], _ :: _ :: _, vs, d, ids, h, hr => by simp [expXL] at h
  | a :: b :: r, [], vs, d, ids, h, hr => by simp [expXL] at h
  | a :: b :: r, p :: ps, vs, d, ids, h, hr => by
    simp only [expXL] at h
    split at h <;> try (cases h; done)
    rename_i hs
    split at h <;> try (cases h; done)
    rename_i x i y j e1 e2
    cases h
    simp only [RelRes] at hr
    obtain ⟨v, vr, rfl, h1, h2, h3, h4⟩ := hr
    obtain ⟨h5, h6⟩ := toX_rel hg e1 h2
    obtain ⟨h7, h8⟩ := expXL_rel hg e2 h4
    simp only [RelRs]
    refine ⟨⟨v, vr, _, _, rfl, by rw [List.flatMap_append], (shape_VOk hs h1).1, h5, h7⟩, fun o ho => ?_⟩
    rcases List.mem_append.1 ho with ho | ho
    · exact h6 o ho
    · exact h8 o ho

/-! ### a call by value -/
theorem Good.cx0 (base : Nat) (F G : Nat → Prop) (w : World) (hF : ∀ b, F b → b < w.heap.size) (hG : ∀ b, G b → b < w.heap.size) (hgl : GlOk F w) : Good base (Fw.cx0 F G w) where
  ob o := trivial
  low o b h := by simp [blks, Fw.cx0] at h
  nd o := by simp [blks, Fw.cx0]
  dj o p b _ h := by simp [blks, Fw.cx0] at h
  fz := hF
  gz := hG
  gl := hgl
theorem st0_tmps {C : Cx} {args : List AV} {vals : List Value} (hr : RelL C args vals) (n : Nat) (i : Nat) : RelA C ((args ++ List.replicate (n - args.length) AV.top).getD i AV.top) ((vals.toArray ++ Array.replicate (n - vals.length) undef).getD i undef) := by
  have hl := hr.len
  simp only [List.getD_eq_getElem?_getD, Array.getD_eq_getD_getElem?]
  rcases Nat.lt_or_ge i args.length with h | h
  · rw [List.getElem?_append_left h, Array.getElem?_append_left (by simpa [← hl] using h)]
    obtain ⟨u, h1, h2⟩ := hr.get (List.getElem?_eq_getElem h)
    rw [List.getElem?_eq_getElem h]
    simp only [List.getElem?_toArray, h1, Option.getD_some]
    exact h2
  · rw [List.getElem?_append_right h]
    cases hx : (List.replicate (n - args.length) AV.top)[i - args.length]? with
    | none => simp only [Option.getD_none, RelA]
    | some x =>
      have := List.mem_of_getElem? hx
      rw [List.mem_replicate] at this
      rw [this.2]; simp only [Option.getD_some, RelA]
theorem enter_run (hT : TbOk P T) {f : FuncId} {fn : Func} (hf : T.fn f = some fn) (vals : Array Value) (w : World) : (callFunc f vals).run P w = .ok (.enter f vals) w := by
  obtain ⟨h1, h2, h3⟩ := hT.fn f fn hf
  have h4 : ¬ fn.name = "runtime.NumGoroutine" := by simpa using h2
  have h5 : ¬ fn.body = none := by intro e; rw [e] at h3; cases h3
  simp [callFunc, h1, h4, h5]
theorem pure_sound (hT : TbOk P T) {Ca : Ca T} (hC : CaOk P T Ca) {n : Nat} {f : FuncId} {fn : Func} {c : Code} (hf : T.fn f = some fn) (hb : fn.body = some c) {args : List AV} {d : DL (T.rs f)}
    (h : exec T Ca f 0 n c (st0 fn args []) (finish T f fn) = some d) : PureOk P T f args d := by
  intro w F G vals hF hG hgl hr
  refine ⟨enter_run hT hf _ w, calls_of_wp (hT.fn f fn hf).1 hb ?_⟩
  let a0 : Act := { tmps := vals.toArray ++ Array.replicate (fn.ntmps - vals.toArray.size) undef, defers := [] }
  have hl := hr.len
  have hs : Sim w.heap.size (cx0 F G w) (st0 fn args []) a0 :=
    { good := Good.cx0 _ F G w hF hG hgl, low := Nat.le_refl _, H := by funext o; simp [cx0, st0, look], len := by simp [st0, a0, hl],
      tm := fun i => by have := st0_tmps hr fn.ntmps i; simpa [tvOf, st0, a0] using this, df := rfl }
  refine exec_sound (C0 := cx0 F G w) hT hC (fun _ _ => rfl) c hs (To.refl _ _) ?_ h
  intro e ρ a C h1 h2 h3
  have main : ∀ ps, allR (resCells T ρ) fn.results.toList = some ps → (if T.fresh f = true then (match expXL (look ρ.H) (T.rs f) ps with
        | some (d, ids) => if nodupB ids = true then some d else none
        | none => none) else expL (look ρ.H) (T.rs f) ps) = some d → a.defers = [] ∧ ∃ v, (results fn a.tmps).run P C.w = .ok v C.w ∧ ∃ v', Ending.returned v = Ending.returned v' ∧ Below w.heap.size w C.w ∧ ∃ F' S, (∀ b, F b → F' b) ∧ (∀ b, F' b → b < C.w.heap.size ∧ (F b ∨ w.heap.size ≤ b)) ∧ ResOk (T.fresh f) F' C.w (T.rs f) d v' S ∧ S.Nodup ∧ ∀ b ∈ S, w.heap.size ≤ b ∧ b < C.w.heap.size ∧ ¬ F' b := by
    intro ps hps hd
    obtain ⟨vs, r1, r2⟩ := results_run hT h2 hps
    refine ⟨h2.df, _, r1, _, rfl, h3.bel, ?_⟩
    rw [← h2.H] at hd
    by_cases hfr : T.fresh f = true
    · rw [if_pos hfr] at hd
      split at hd <;> try (cases hd; done)
      rename_i d' ids hx
      split at hd <;> try (cases hd; done)
      rename_i hnd
      cases hd
      obtain ⟨x1, x2⟩ := expXL_rel h2.good hx r2
      obtain ⟨y1, y2⟩ := Free.drop h2.good (nodupB_nodup hnd)
      refine ⟨C.F, ids.flatMap (blks C), h3.ext.F, fun b hb' => ⟨h2.good.fz b hb', h3.fnew b hb'⟩, ⟨vs, rfl, by rw [if_pos hfr]; exact x1⟩, y1, fun b hb' => ?_⟩
      obtain ⟨z1, z2, z3, _⟩ := y2 b hb'
      exact ⟨z1, z2, z3⟩
    · rw [if_neg hfr] at hd
      refine ⟨fun b => C.F b ∨ ∃ o, b ∈ blks C o, [], fun b hb' => .inl (h3.ext.F b hb'), fun b hb' => ?_, ⟨vs, rfl, by rw [if_neg hfr]; exact expL_rel h2.good (fun b hb' => .inl hb') (fun o b hb' => .inr ⟨o, hb'⟩) hd r2⟩, List.nodup_nil, fun b hb' => by cases hb'⟩
      rcases hb' with hb' | ⟨o, hb'⟩
      · exact ⟨h2.good.fz b hb', h3.fnew b hb'⟩
      · obtain ⟨z1, z2, _⟩ := h2.good.low o b hb'
        exact ⟨z2, .inr z1⟩
  unfold finish at h1
  cases e with
  | exit j => cases h1
  | normal =>
    simp only at h1
    split at h1 <;> try (cases h1; done)
    rename_i ps hps
    exact main ps hps h1
  | ret =>
    simp only at h1
    split at h1 <;> try (cases h1; done)
    rename_i ps hps
    exact main ps hps h1

/-! ### a call that works on its caller's objects -/
theorem res_ofCells {C : Cx} : ∀ {ps : List (Bool × List AV)} {vs : List Value}, RelRes C ps vs → RelL C (ps.map fun p => ofCells p.1 p.2) vs
  | [], vs, h => by simp only [RelRes] at h; subst h; simp [RelL]
  | p :: r, vs, h => by
    simp only [RelRes] at h
    obtain ⟨v, vr, rfl, h1, h2, h3, h4⟩ := h
    simp only [List.map_cons, RelL]
    refine ⟨v, vr, rfl, ?_, res_ofCells h4⟩
    unfold ofCells
    split at h1
    · rename_i hp
      rw [if_pos hp]
      obtain ⟨cs, rfl⟩ := h1
      simp only [RelA]
      exact ⟨cs.toList, by simp, by simpa [Value.cells] using h3, by simpa [Value.cells] using h2⟩
    · rename_i hp
      rw [if_neg hp]
      have hc : v.cells = #[v] := by cases v <;> first | rfl | simp [Value.oneCell'] at h1
      rw [hc] at h2
      match hp2 : p.2, h2 with
      | [], h2 => have := h2.len; simp at this
      | [x], h2 => obtain ⟨u, hu, hx⟩ := h2.one; simp at hu; subst hu; exact hx
      | x :: y :: q, h2 => have := h2.len; simp at this
theorem thr_sound (hT : TbOk P T) {Ca : Ca T} (hC : CaOk P T Ca) {n : Nat} {f : FuncId} {fn : Func} {c : Code} (hf : T.fn f = some fn) (hb : fn.body = some c) (hthr : T.thr f = true) {args : List AV} {H : List AO} {α : Type} {k : AV → List AO → Option α} {r : α}
    (h : exec T Ca f H.length n c (st0 fn args H) (fun e σ => (finishT T fn e σ).bind fun x => k x.1 x.2) = some r) : ThrOk P f args H k r := by
  intro base C0 vals hg hlow hH hr
  refine ⟨enter_run hT hf _ C0.w, calls_of_wp (hT.fn f fn hf).1 hb ?_⟩
  let a0 : Act := { tmps := vals.toArray ++ Array.replicate (fn.ntmps - vals.toArray.size) undef, defers := [] }
  have hl := hr.len
  have hs : Sim base C0 (st0 fn args H) a0 :=
    { good := hg, low := hlow, H := hH, len := by simp [st0, a0, hl],
      tm := fun i => by have := st0_tmps hr fn.ntmps i; simpa [tvOf, st0, a0] using this, df := rfl }
  refine exec_sound (C0 := C0) hT hC (fun o ho => by rw [hH]; exact look_hole ho) c hs (To.refl _ _) ?_ h
  intro e ρ a C h1 h2 h3
  obtain ⟨y, h1, hky⟩ := Option.bind_eq_some_iff.1 h1
  have main : ∀ ps, allR (resCells T ρ) fn.results.toList = some ps → y = (resA (ps.map fun p => ofCells p.1 p.2), ρ.H) →
      a.defers = [] ∧ ∃ v, (results fn a.tmps).run P C.w = .ok v C.w ∧ ∃ v', Ending.returned v = Ending.returned v' ∧ ∃ x H' C', k x H' = some r ∧ C'.w = C.w ∧ Good base C' ∧ To base C0 C' ∧ C'.H = look H' ∧ RelA C' x v' := by
    intro ps hps hr'
    subst hr'
    obtain ⟨vs, r1, r2⟩ := results_run hT h2 hps
    exact ⟨h2.df, _, r1, _, rfl, _, _, C, hky, rfl, h2.good, h3, h2.H, resV_rel (res_ofCells r2)⟩
  unfold finishT at h1
  cases e with
  | exit j => cases h1
  | normal =>
    simp only at h1
    split at h1 <;> try (cases h1; done)
    rename_i ps hps
    cases h1
    exact main ps hps rfl
  | ret =>
    simp only at h1
    split at h1 <;> try (cases h1; done)
    rename_i ps hps
    cases h1
    exact main ps hps rfl

/-! ### the interpreter is right -/
theorem run_sound (hT : TbOk P T) {orc : (f : FuncId) → List AV → Option (DL (T.rs f))} (ho : ∀ f args d, T.fn f = none → orc f args = some d → PureOk P T f args d) : ∀ n, CaOk P T (run T orc n)
  | 0 => ⟨fun f args d h => (by cases h), fun f args H k r h => (by cases h)⟩
  | n + 1 => by
    have ih := run_sound hT ho n
    refine ⟨fun f args d h => ?_, fun f args H k r h => ?_⟩
    · simp only [run] at h
      split at h
      · rename_i fn hf
        split at h <;> try (cases h; done)
        rename_i c hc
        exact pure_sound hT ih hf hc h
      · rename_i hf
        exact ho f args d hf h
    · simp only [run] at h
      split at h <;> try (cases h; done)
      rename_i hthr
      split at h <;> try (cases h; done)
      rename_i fn hf
      split at h <;> try (cases h; done)
      rename_i c hc
      exact thr_sound hT ih hf hc hthr h
end
end Go.Proofs.YtnbaahpbmhhofaaDoor.Fw

/- One operation of the interpreter is what the machine does: calls by value; all operations. -/
import Derived.Test.YtnbaahpbmhhofaaDoorFwP
namespace Go.Proofs.YtnbaahpbmhhofaaDoor.Fw
open Go Go.RowKit
set_option linter.unusedVariables false
set_option linter.unusedSimpArgs false

theorem VOk.one {t : Ty} {v : Value} {C : Cx} (h : VOk t v) (h1 : ∀ u ∈ v.cells.toList, u.oneCell' = true) : True := trivial
/-- Results that are ours from now on. -/
theorem impL_own {base : Nat} : ∀ {rs : List Ty} {C : Cx} {n : Nat} {d : DL rs} {vs : List Value} {S : List Nat}, Good base C → (∀ j, j < slsL rs → C.H (n + j) = .hole) → RelRs (RelX C.w) rs d vs S → Free base C S →
    ∃ C', C'.w = C.w ∧ C'.F = C.F ∧ C'.G = C.G ∧ Good base C' ∧ Ext C C' ∧ C'.H = updU (impL true n rs d).2 C.H ∧ RelL C' (impL true n rs d).1 vs
  | [], C, n, d, vs, S, hg, _, hr, _ => by
    simp only [RelRs] at hr
    obtain ⟨rfl, _⟩ := hr
    exact ⟨C, rfl, rfl, rfl, hg, Ext.refl C, rfl, by simp [impL, RelL]⟩
  | [a], C, n, d, vs, S, hg, hh, hr, hf => by
    simp only [RelRs] at hr
    obtain ⟨v, rfl, hv, hr⟩ := hr
    obtain ⟨C1, a1, a2, a3, a4, a5, a6, a7, _⟩ := impC_rel (n := n) hg (fun j hj => hh j (by simpa [slsL] using hj)) hr hf
    refine ⟨C1, a1, a2, a3, a4, a5, by simpa [impL, impT] using a6, ?_⟩
    simp only [impL, impT, if_pos, RelL]
    exact ⟨v, [], rfl, hv.ofCells a7 (by simpa using hr.len) hr.onecell, rfl⟩
  | a :: b :: r, C, n, d, vs, S, hg, hh, hr, hf => by
    simp only [RelRs] at hr
    obtain ⟨v, vr, Sa, Sb, rfl, rfl, hv, h1, h2⟩ := hr
    simp only [slsL] at hh
    obtain ⟨C1, a1, a2, a3, a4, a5, a6, a7, a8, a9⟩ := impC_rel (t := a) (n := n) hg (fun j hj => hh j (by omega)) h1 (hf.sub (List.sublist_append_left _ _))
    have hf2 : Free base C1 Sb := by
      refine ⟨hf.1.sublist (List.sublist_append_right _ _), fun x hx => ?_⟩
      obtain ⟨b1, b2, b3, b4, b5⟩ := hf.2 x (List.mem_append.2 (.inr hx))
      refine ⟨b1, by rw [a1]; exact b2, by rw [a2]; exact b3, by rw [a3]; exact b4, fun o ho => ?_⟩
      rcases a8 o x ho with h | h
      · exact b5 o h
      · exact (List.nodup_append.1 hf.1).2.2 x h x hx rfl
    obtain ⟨C2, c1, c2, c3, c4, c5, c6, c7⟩ := impL_own (rs := b :: r) (n := n + a.sls) a4 (fun j hj => by rw [a9 (n + a.sls + j) (by omega), Nat.add_assoc]; exact hh (a.sls + j) (by simp only [slsL] at hj; omega)) (by rw [a1]; exact h2) hf2
    refine ⟨C2, c1.trans a1, c2.trans a2, c3.trans a3, c4, Ext.trans (base := base) a5 c5, ?_, ?_⟩
    · rw [c6, a6]; simp only [impL, impT, if_pos]; rw [updU_append]
    · simp only [impL, impT, if_pos, RelL]
      exact ⟨v, vr, rfl, (hv.ofCells a7 (by simpa using h1.len) h1.onecell).mono c5, c7⟩
theorem RelRs.toD {w : World} {F : Nat → Prop} : ∀ {rs : List Ty} {d : DL rs} {vs : List Value} {S : List Nat}, (∀ b ∈ S, F b) → RelRs (RelX w) rs d vs S → RelRs (fun t d vs S => RelD F w t d vs ∧ S = []) rs d vs []
  | [], _, _, _, _, h => by simp only [RelRs] at h ⊢; exact ⟨h.1, trivial⟩
  | [a], _, _, _, hF, h => by
    simp only [RelRs] at h ⊢
    obtain ⟨v, rfl, hv, hr⟩ := h
    exact ⟨v, rfl, hv, hr.toD hF, trivial⟩
  | a :: b :: r, _, _, _, hF, h => by
    simp only [RelRs] at h ⊢
    obtain ⟨v, vr, Sa, Sb, rfl, rfl, hv, h1, h2⟩ := h
    exact ⟨v, vr, [], [], rfl, rfl, hv, ⟨h1.toD fun b hb => hF b (List.mem_append.2 (.inl hb)), rfl⟩, RelRs.toD (fun b hb => hF b (List.mem_append.2 (.inr hb))) h2⟩
theorem RelRs.monoD {F F' : Nat → Prop} {w w' : World} : ∀ {rs : List Ty} {d : DL rs} {vs : List Value} {S : List Nat}, (∀ t (d : t.D) vs, t ∈ rs → RelD F w t d vs → RelD F' w' t d vs) → RelRs (fun t d vs S => RelD F w t d vs ∧ S = []) rs d vs S → RelRs (fun t d vs S => RelD F' w' t d vs ∧ S = []) rs d vs []
  | [], _, _, _, _, h => by simp only [RelRs] at h ⊢; exact ⟨h.1, trivial⟩
  | [a], _, _, _, hF, h => by
    simp only [RelRs] at h ⊢
    obtain ⟨v, rfl, hv, hr, _⟩ := h
    exact ⟨v, rfl, hv, hF _ _ _ (by simp) hr, trivial⟩
  | a :: b :: r, _, _, _, hF, h => by
    simp only [RelRs] at h ⊢
    obtain ⟨v, vr, Sa, Sb, rfl, rfl, hv, ⟨h1, rfl⟩, h2⟩ := h
    exact ⟨v, vr, [], [], rfl, rfl, hv, ⟨hF _ _ _ (by simp) h1, rfl⟩, RelRs.monoD (fun t d vs ht => hF t d vs (List.mem_cons_of_mem _ ht)) h2⟩
theorem impL_frz {C : Cx} (n : Nat) : ∀ {rs : List Ty} {d : DL rs} {vs : List Value} {S : List Nat}, RelRs (fun t d vs S => RelD C.F C.w t d vs ∧ S = []) rs d vs S → RelL C (impL false n rs d).1 vs ∧ (impL false n rs d).2 = []
  | [], _, _, _, h => by simp only [RelRs] at h; obtain ⟨rfl, _⟩ := h; simp [impL, RelL]
  | [a], d, _, _, h => by
    simp only [RelRs] at h
    obtain ⟨v, rfl, hv, hr, _⟩ := h
    obtain ⟨h1, h2⟩ := RelD.toAVs hr
    simp only [impL, impT, RelL]
    exact ⟨⟨v, [], rfl, by simpa [enc] using hv.ofCells h1 (by simpa using hr.len) h2, rfl⟩, by simp⟩
  | a :: b :: r, d, _, _, h => by
    simp only [RelRs] at h
    obtain ⟨v, vr, Sa, Sb, rfl, rfl, hv, ⟨hr, _⟩, h3⟩ := h
    obtain ⟨h1, h2⟩ := RelD.toAVs hr
    obtain ⟨h4, h5⟩ := impL_frz (C := C) (n + a.sls) h3
    simp only [impL, impT, RelL]
    refine ⟨⟨v, vr, rfl, by simpa [enc] using hv.ofCells h1 (by simpa using hr.len) h2, h4⟩, ?_⟩
    simpa using h5
theorem resV_rel {C : Cx} {l : List AV} {vs : List Value} (h : RelL C l vs) : RelA C (resA l) (resV vs) := by
  match l, h with
  | [], h => simp only [RelL] at h; subst h; simp only [RelA, resV]; exact ⟨[], rfl, by simp [RelL]⟩
  | [x], h => obtain ⟨u, rfl, hx⟩ := h.one; exact hx
  | x :: y :: r, h =>
    have hl := h.len
    match vs, hl with
    | u :: s :: q, _ => simp only [RelA, resV]; exact ⟨_, rfl, h⟩

section
variable {P : Program} {T : Tb} {α : Type} {base : Nat} {C : Cx} {a : Act} {tv : Nat → AV} {nid : Nat} {next : Act → World → Prop} {Q : Exit → Act → World → Prop} {r : α} {k : AV → List (Nat × AO) → Option α}
variable {dst : Option Tmp} {type : TypeId} {pos : String} {after : Array Edge} {guard : Option (Nat × Bool)}

/-- Behind a call by value. -/
theorem pure_back (hg : Good base C) (hb : base ≤ C.w.heap.size) {g : FuncId} {own : Bool} (hn : ∀ j, j < slsL (T.rs g) → C.H (nid + j) = .hole) (hof : own = true → T.fresh g = true)
    {F F' : Nat → Prop} (hF : ∀ b, F b → F' b) (hF' : ∀ b, F' b → F b ∨ C.w.heap.size ≤ b) {w' : World} (hlt : ∀ b, F' b → b < w'.heap.size) (hw : Below C.w.heap.size C.w w')
    (hap : T.fresh g = false → (∀ t ∈ T.rs g, t.hasSl = false) ∨ F = C.F) {d : DL (T.rs g)} {v : Value} {S : List Nat} (hr : ResOk (T.fresh g) F' w' (T.rs g) d v S) (hnd : S.Nodup) (hS : ∀ b ∈ S, C.w.heap.size ≤ b ∧ b < w'.heap.size ∧ ¬ F' b) {dst : Option Tmp}
    (hk : Kont base C a dst next (impR own nid (T.rs g) d).1 (impR own nid (T.rs g) d).2) : next (a.put dst v) w' := by
  obtain ⟨vs, rfl, hr⟩ := hr
  have hbl : ∀ k, k < C.w.heap.size → w'.heap[k]? = C.w.heap[k]? := hw.block
  let C1 : Cx := { C with w := w' }
  have g1 : Good base C1 := hg.world hbl hw.size
  have e1 : Ext C C1 := Ext.world hg hbl
  by_cases ho : own = true
  · subst ho
    rw [hof rfl, if_pos rfl] at hr
    have hfr : Free base C1 S := ⟨hnd, fun b hb' => by
      obtain ⟨h1, h2, h3⟩ := hS b hb'
      exact ⟨by omega, h2, fun h => by have := hg.fz b h; omega, fun h => by have := hg.gz b h; omega, fun o h => by have := (hg.low o b h).2.1; omega⟩⟩
    obtain ⟨C2, a1, a2, a3, a4, a5, a6, a7⟩ := impL_own (n := nid) g1 hn hr hfr
    have := hk C2 (resV vs) a4 ⟨Ext.trans (base := base) e1 a5, by rw [a1]; exact hw.size, by rw [a1]; exact hw.mono hb, fun b h => by rw [a2] at h; exact .inl h, fun b h => by rw [a3] at h; exact h⟩ (by simpa [impR] using a6) (resV_rel a7)
    rwa [a1] at this
  · have ho' : own = false := by simpa using ho
    subst ho'
    have key : ∀ F2 : Nat → Prop, (∀ b, C.F b → F2 b) → (∀ b, F2 b → (C.F b ∨ C.w.heap.size ≤ b) ∧ b < w'.heap.size) → RelRs (fun t d vs S => RelD F2 w' t d vs ∧ S = []) (T.rs g) d vs [] → next (a.put dst (resV vs)) w' := by
      intro F2 h1 h2 h3
      let C2 : Cx := { C with w := w', F := F2 }
      have e2 : Ext C C2 := { F := h1, G := fun _ h => h, heap := e1.heap, obj := e1.obj }
      have g2 : Good base C2 :=
        { ob := fun o => (hg.ob o).same e2 rfl rfl rfl fun k hk => hbl k (hg.low o k hk).2.1
          low := fun o b h => by
            obtain ⟨b1, b2, b3, b4⟩ := hg.low o b h
            refine ⟨b1, by have := hw.size; show b < w'.heap.size; omega, fun h' => ?_, b4⟩
            rcases (h2 b h').1 with h' | h'
            · exact b3 h'
            · omega
          nd := hg.nd
          dj := hg.dj
          fz := fun b h => (h2 b h).2
          gz := fun b h => by have := hg.gz b h; have := hw.size; show b < w'.heap.size; omega
          gl := hg.glx e2 }
      obtain ⟨h4, h5⟩ := impL_frz (C := C2) nid h3
      have h6 : (impR false nid (T.rs g) d).2 = [] := by simpa [impR] using h5
      have := hk C2 (resV vs) g2 ⟨e2, hw.size, hw.mono hb, fun b h => (h2 b h).1.imp id (fun h => by omega), fun b h => h⟩ (by rw [h6]; rfl) (resV_rel h4)
      exact this
    by_cases hf : T.fresh g = true
    · rw [if_pos hf] at hr
      refine key (fun b => C.F b ∨ b ∈ S) (fun b h => .inl h) (fun b h => ?_) (hr.toD fun b h => .inr h)
      rcases h with h | h
      · exact ⟨.inl h, by have := hg.fz b h; have := hw.size; omega⟩
      · obtain ⟨h1, h2, _⟩ := hS b h
        exact ⟨.inr h1, h2⟩
    · have hf' : T.fresh g = false := by simpa using hf
      rw [if_neg hf] at hr
      rcases hap hf' with hns | rfl
      · exact key C.F (fun _ h => h) (fun b h => ⟨.inl h, by have := hg.fz b h; have := hw.size; omega⟩) (hr.monoD fun t d vs ht => RelD.noSl (hns t ht))
      · exact key F' hF (fun b h => ⟨hF' b h, hlt b h⟩) (hr.monoD fun _ _ _ _ h => h)

theorem so_pure {Ca : Ca T} (hC : ∀ f args d, Ca.pure f args = some d → PureOk P T f args d) (hg : Good base C) (hb : base ≤ C.w.heap.size) {g : FuncId} {fid : FuncId} (hn : ∀ j, j < slsL (T.rs g) → C.H (nid + j) = .hole) {args : List AV} {vals : List Value} (hr : RelL C args vals)
    (hk : ∀ v u, k v u = some r → Kont base C a dst next v u) (h : pureC T Ca fid C.H nid dst g args k = some r) :
    Entered P g vals.toArray C.w fun v w' => next (a.put dst v) w' := by
  unfold pureC at h
  split at h <;> try (cases h; done)
  rename_i hap
  split at h <;> try (cases h; done)
  rename_i as has
  obtain ⟨d, hd, h⟩ := Option.bind_eq_some_iff.1 h
  have hK := hk _ _ h
  have hof : ownsAt T fid g dst = true → T.fresh g = true := by
    unfold ownsAt
    split
    · intro h; rw [Bool.and_eq_true] at h; exact h.2
    · intro h; cases h
  let F : Nat → Prop := if apartR T g = true then (fun b => b < C.w.heap.size) else C.F
  have hCF : ∀ b, C.F b → F b := by
    intro b hb'
    show (if apartR T g = true then (fun b => b < C.w.heap.size) else C.F) b
    split
    · exact hg.fz b hb'
    · exact hb'
  have hsn : RelL (cx0 F (fun b => b < C.w.heap.size) C.w) as vals := by
    refine allM_rel (C := C) (fun x y v hx h1 h2 => snap_rel hg hCF depth h1 (fun o ho b hb' => ?_) h2) has hr
    rw [Bool.or_eq_true] at hap
    rcases hap with hap | hap
    · show (if apartR T g = true then (fun b => b < C.w.heap.size) else C.F) b
      rw [if_pos hap]; exact (hg.low o b hb').2.1
    · have : o ∈ args.flatMap (idsA C.H depth) := List.mem_flatMap.2 ⟨x, hx, ho⟩
      rw [List.isEmpty_iff] at hap
      rw [hap] at this; cases this
  obtain ⟨hc, hcalls⟩ := hC g as d hd C.w F (fun b => b < C.w.heap.size) vals (fun b hb' => by
    have hb2 : (if apartR T g = true then (fun b => b < C.w.heap.size) else C.F) b := hb'
    split at hb2
    · exact hb2
    · exact hg.fz b hb2) (fun b h => h) (hg.gl.mono hCF fun _ _ => rfl) hsn
  refine ⟨hc, hcalls.mono fun e w' he => ?_⟩
  obtain ⟨v, rfl, hw, F', S, h1, h2, h3, h4, h5⟩ := he
  refine ⟨v, rfl, ?_⟩
  refine pure_back (T := T) (F := F) (F' := F') hg hb hn hof h1 (fun b h => (h2 b h).2) (fun b h => (h2 b h).1) hw (fun hf => ?_) h3 h4 h5 hK
  by_cases hp : apartR T g = true
  · left
    simp only [apartR, hf, Bool.false_or, Bool.not_eq_true', List.any_eq_false] at hp
    intro t ht
    simpa using hp t ht
  · right
    show (if apartR T g = true then (fun b => b < C.w.heap.size) else C.F) = C.F
    rw [if_neg hp]
end
end Go.Proofs.YtnbaahpbmhhofaaDoor.Fw

/- Regions in the order of their text. -/
import Derived.Test.YtnbaahpbmhhofaaDoorFwU
namespace Go.Proofs.YtnbaahpbmhhofaaDoor.Fw
open Go Go.RowKit
set_option linter.unusedVariables false
set_option linter.unusedSimpArgs false

/-- What is asked of a function that works on its caller's objects. -/
def ThrOk (P : Program) (f : FuncId) (args : List AV) (H : List AO) {α : Type} (k : AV → List AO → Option α) (r : α) : Prop :=
  ∀ (base : Nat) (C : Cx) (vals : List Value), Good base C → base ≤ C.w.heap.size → C.H = look H → RelL C args vals →
    Entered P f vals.toArray C.w fun v w' => ∃ x H' C', k x H' = some r ∧ C'.w = w' ∧ Good base C' ∧ To base C C' ∧ C'.H = look H' ∧ RelA C' x v
structure CaOk (P : Program) (T : Tb) (C : Ca T) : Prop where
  pure : ∀ f args d, C.pure f args = some d → PureOk P T f args d
  thr : ∀ {α : Type} f args H (k : AV → List AO → Option α) r, C.thr f args H k = some r → ThrOk P f args H k r

section
variable {P : Program} {T : Tb} {α : Type} {base : Nat} {next : Act → World → Prop} {Q : Exit → Act → World → Prop} {r : α}
theorem Sim.holes {base : Nat} {C : Cx} {σ : St} {a : Act} (h : Sim base C σ a) (j : Nat) : C.H (σ.H.length + j) = .hole := by
  rw [h.H]; exact look_hole (by omega)
theorem preS_sim {C : Cx} {σ : St} {a : Act} (h : Sim base C σ a) (o : Oper) : ∃ C', C'.w = C.w ∧ To base C C' ∧ Sim base C' (preS T o σ) a := by
  have same : ∃ C', C'.w = C.w ∧ To base C C' ∧ Sim base C' σ a := ⟨C, rfl, To.refl base C, h⟩
  unfold preS
  repeat' (first | exact same | split)
  rename_i ids
  obtain ⟨C', h1, h2, h3, _⟩ := h.freeze _
  exact ⟨C', h1, h2, h3⟩
theorem stepC_sound (hT : TbOk P T) {Ca : Ca T} (hC : CaOk P T Ca) {fid : FuncId} {o : Oper} {σ : St} {a : Act} {C : Cx} {k : St → Option α} (hs : Sim base C σ a)
    (hk : ∀ ρ C' val, k ρ = some r → Sim base C' ρ (a.put o.dst val) → To base C C' → next (a.put o.dst val) C'.w) (h : stepC T Ca fid o σ k = some r) : o.wp P a C.w next Q := by
  unfold stepC at h
  split at h
  · rename_i g args ht
    unfold thrC at ht
    obtain ⟨dst, op, type, pos, after, guard⟩ := o
    split at ht <;> try (cases ht; done)
    rename_i c hop
    simp only at hop
    subst hop
    split at ht <;> try (cases ht; done)
    rename_i f hc
    split at ht <;> try (cases ht; done)
    · rename_i g' caps e
      split at ht <;> try (cases ht; done)
      cases ht
      have hf := opnd_rel hs.tm f
      rw [e] at hf
      simp only [RelA] at hf
      obtain ⟨vs, hv, hcaps⟩ := hf
      obtain ⟨h1, h2⟩ := hC.thr _ _ _ _ _ h base C _ hs.good hs.low hs.H ((opnds_rel hs.tm c.args.toList).append hcaps)
      unfold Oper.wp
      have hrun : (execOp a.eval (Oper.mk dst (.call c) type pos after guard)).run P C.w = .ok (.enter g ((c.args.toList.map a.eval) ++ vs).toArray) C.w := by
        have : (c.args.map a.eval ++ vs.toArray) = ((c.args.toList.map a.eval) ++ vs).toArray := by
          apply Array.toList_inj.1; simp
        simp only [execOp, resolve, hc, hv, Deferred.ofValue, invoke]
        simp [this, h1]
      rw [hrun, Oper.upon_enter]
      refine h2.mono fun e w' he => ?_
      obtain ⟨v, rfl, x, H', C', hkx, rfl, h3, h4, h5, h6⟩ := he
      refine hk _ C' v hkx ?_ h4
      exact { good := h3, low := Nat.le_trans hs.low h4.size, H := h5, len := by rw [put_size, putT_len]; exact hs.len,
              tm := tvOf_put (H := σ.H) hs.len (fun i => (hs.tm i).mono h4.ext) h6, df := by rw [put_defers]; exact hs.df }
    · rename_i g' p off e
      split at ht <;> try (cases ht; done)
      cases ht
      have hf := opnd_rel hs.tm f
      rw [e] at hf
      simp only [RelA] at hf
      obtain ⟨pv, hv, hp⟩ := hf
      have hl : RelL C (.bptr p off :: c.args.toList.map (opnd (tvOf σ))) (pv :: c.args.toList.map a.eval) := by
        simp only [RelL]
        exact ⟨_, _, rfl, by simpa only [RelA] using hp, opnds_rel hs.tm c.args.toList⟩
      obtain ⟨h1, h2⟩ := hC.thr _ _ _ _ _ h base C _ hs.good hs.low hs.H hl
      unfold Oper.wp
      have hrun : (execOp a.eval (Oper.mk dst (.call c) type pos after guard)).run P C.w = .ok (.enter g (pv :: c.args.toList.map a.eval).toArray) C.w := by
        have : (#[pv] ++ c.args.map a.eval) = (pv :: c.args.toList.map a.eval).toArray := by
          apply Array.toList_inj.1; simp
        simp only [execOp, resolve, hc, hv, Deferred.ofValue, invoke]
        simp [this, h1]
      rw [hrun, Oper.upon_enter]
      refine h2.mono fun e w' he => ?_
      obtain ⟨v, rfl, x, H', C', hkx, rfl, h3, h4, h5, h6⟩ := he
      refine hk _ C' v hkx ?_ h4
      exact { good := h3, low := Nat.le_trans hs.low h4.size, H := h5, len := by rw [put_size, putT_len]; exact hs.len,
              tm := tvOf_put (H := σ.H) hs.len (fun i => (hs.tm i).mono h4.ext) h6, df := by rw [put_defers]; exact hs.df }
  · obtain ⟨C1, h1, h2, h3⟩ := preS_sim (T := T) hs o
    rw [← h1]
    have hh := h3.H
    simp only at h
    rw [← hh] at h
    refine step_sound hT hC.pure h3.good h3.low (fun j _ => h3.holes j) h3.tm (fun v u hvu => ?_) h
    intro C' val g1 g2 g3 g4
    exact hk _ C' val hvu (h3.step g1 g2 g3 g4) (h2.trans g2)

theorem yielded_of {ops : Array Oper} {a : Act} {j : Nat} {g : Tmp} {b : Bool} (hd : dstOf ops.toList j = some g) (hv : a.tmps.getD g undef = .bool b) : yielded ops a.tmps j = some b := by
  unfold dstOf at hd
  rw [Array.getElem?_toList] at hd
  unfold yielded
  rw [hd, Option.bind_some]
  rw [Array.getD_eq_getD_getElem?] at hv
  cases h : a.tmps[g]? with
  | none => rw [h] at hv; simp [undef] at hv
  | some v => rw [h] at hv; simp at hv; subst hv; rfl
theorem wp_want {ops : Array Oper} {i : Nat} {o : Oper} {rest : List Nat} {a : Act} {w : World} (hi : ops[i]? = some o) (hw : Region.wanted o (yielded ops a.tmps) = true) (h : o.wp P a w (wpOps P ops Q rest) Q) : wpOps P ops Q (i :: rest) a w := by
  unfold wpOps; simp only [hi, hw, if_true]; exact .inl h
theorem wp_pass {ops : Array Oper} {i : Nat} {o : Oper} {rest : List Nat} {a : Act} {w : World} (hi : ops[i]? = some o) (hw : Region.wanted o (yielded ops a.tmps) = false) (h : wpOps P ops Q rest (a.put o.dst undef) w) : wpOps P ops Q (i :: rest) a w := by
  rw [wpOps]; simp only [hi, hw]; exact h
theorem Sim.pass {C : Cx} {σ : St} {a : Act} (h : Sim base C σ a) (dst : Option Tmp) : Sim base C ⟨putT σ.t dst (.tup []), σ.H⟩ (a.put dst undef) :=
  h.step (u := []) h.good (To.refl base C) rfl (by simp only [RelA]; exact ⟨[], rfl, by simp [RelL]⟩)
theorem yielded_undef {ops : Array Oper} {a : Act} {j : Nat} {g : Tmp} {C : Cx} {l : List AV} (hd : dstOf ops.toList j = some g) (hv : RelA C (.tup l) (a.tmps.getD g undef)) : yielded ops a.tmps j = none := by
  simp only [RelA] at hv
  obtain ⟨vs, hv, _⟩ := hv
  unfold dstOf at hd
  rw [Array.getElem?_toList] at hd
  unfold yielded
  rw [hd, Option.bind_some]
  rw [Array.getD_eq_getD_getElem?] at hv
  cases h : a.tmps[g]? with
  | none => rfl
  | some v => rw [h] at hv; simp at hv; subst hv; rfl
theorem testG_some {α : Type} {r : α} {c : AV} {w : Bool} {x y : Bool → Option α} {z : Option α} (h : testG c w x y z = some r) : (∃ l, c = .tup l ∧ z = some r) ∨ ∃ b, testC c (if w = true then x true else y true) (if w = true then y false else x false) = some r ∧ boolOf c = some b ∧ (if (b == w) = true then x b else y b) = some r := by
  unfold testG at h
  split at h
  · exact .inl ⟨_, rfl, h⟩
  · obtain ⟨b, h1, h2, _⟩ := testC_spec h
    refine .inr ⟨b, h, h1, ?_⟩
    cases b <;> cases w <;> simpa using h2

theorem execOps_sound (hT : TbOk P T) {Ca : Ca T} (hC : CaOk P T Ca) {fid : FuncId} {ops : Array Oper} {k : St → Option α} : ∀ (rest : List Oper) (i : Nat) {σ : St} {a : Act} {C : Cx}, ops.toList.drop i = rest → Sim base C σ a →
    (∀ ρ a' C', k ρ = some r → Sim base C' ρ a' → To base C C' → Q .normal a' C'.w) → execOps T Ca fid ops.toList rest σ k = some r → wpOps P ops Q (List.range' i rest.length) a C.w
  | [], i, σ, a, C, _, hs, hk, h => by
    simp only [execOps] at h
    exact hk _ _ _ h hs (To.refl base C)
  | o :: rest, i, σ, a, C, hd, hs, hk, h => by
    have hi : ops[i]? = some o := by
      have : (ops.toList.drop i)[0]? = some o := by rw [hd]; rfl
      rw [List.getElem?_drop] at this
      simpa using this
    have hd' : ops.toList.drop (i + 1) = rest := by
      rw [← List.drop_drop, hd]; rfl
    have go : ∀ {σ : St}, Sim base C σ a → Region.wanted o (yielded ops a.tmps) = true → stepC T Ca fid o σ (fun ρ => execOps T Ca fid ops.toList rest ρ k) = some r → wpOps P ops Q (List.range' i (o :: rest).length) a C.w := by
      intro σ hs hw h
      rw [List.length_cons, List.range'_succ]
      refine wp_want hi hw (stepC_sound hT hC hs (fun ρ C' val h1 h2 h3 => ?_) h)
      exact execOps_sound hT hC rest (i + 1) hd' h2 (fun ρ a' C'' g1 g2 g3 => hk ρ a' C'' g1 g2 (h3.trans g3)) h1
    have stay : ∀ {σ : St}, Sim base C σ a → Region.wanted o (yielded ops a.tmps) = false → execOps T Ca fid ops.toList rest ⟨putT σ.t o.dst (.tup []), σ.H⟩ k = some r → wpOps P ops Q (List.range' i (o :: rest).length) a C.w := by
      intro σ hs hw h
      rw [List.length_cons, List.range'_succ]
      refine wp_pass hi hw ?_
      exact execOps_sound hT hC rest (i + 1) hd' (hs.pass o.dst) hk h
    simp only [execOps] at h
    split at h
    · rename_i hgd
      exact go hs (by simp [Region.wanted, hgd]) h
    · rename_i j w hgd
      split at h <;> try (cases h; done)
      rename_i g hg
      rcases testG_some h with ⟨l, hl, h⟩ | ⟨b, _, hb, h⟩
      · have hv := hs.tm g
        rw [hl] at hv
        exact stay hs (by simp [Region.wanted, hgd, yielded_undef hg hv]) h
      · have hv := boolOf_rel (hs.tm g) hb
        have hy := yielded_of hg hv
        have hw : Region.wanted o (yielded ops a.tmps) = (b == w) := by simp [Region.wanted, hgd, hy]
        have hs' : Sim base C ⟨setT σ.t g (.bool b), σ.H⟩ a := hs.tell (by rw [hv]; simp only [RelA])
        cases hbw : (b == w) with
        | true => rw [hbw] at h hw; exact go hs' hw (by simpa using h)
        | false => rw [hbw] at h hw; exact stay hs' hw (by simpa using h)
end
end Go.Proofs.YtnbaahpbmhhofaaDoor.Fw

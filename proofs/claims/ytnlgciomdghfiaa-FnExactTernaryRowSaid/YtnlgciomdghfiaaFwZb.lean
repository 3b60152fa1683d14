/- Calls: what a function answers. -/
import Derived.Test.YtnlgciomdghfiaaFwZa
import Derived.Laws.Sem
namespace Go.Proofs.Ytnlgciomdghfiaa.Fw
open Go Go.RowKit
set_option linter.unusedVariables false
set_option linter.unusedSimpArgs false

/-- A function's results, with their cells. -/
def RelRes (C : Cx) : List (Bool × List AV) → List Value → Prop
  | [], vs => vs = []
  | p :: r, vs => ∃ v vr, vs = v :: vr ∧ (if p.1 = true then ∃ cs, v = .agg cs else v.oneCell' = true) ∧ RelL C p.2 v.cells.toList ∧ (∀ u ∈ v.cells.toList, u.oneCell' = true) ∧ RelRes C r vr
theorem cellsO_shape {C : Cx} {x : AV} {v : Value} {l : List AV} (hr : RelA C x v) (h : cellsO x = some l) : if isAggA x = true then ∃ cs, v = .agg cs else v.oneCell' = true := by
  cases x <;> simp only [cellsO] at h <;> try (cases h; done)
  case agg => simp only [isAggA, if_true]; simp only [RelA] at hr; obtain ⟨vs, rfl, _⟩ := hr; exact ⟨_, rfl⟩
  all_goals simp only [isAggA, Bool.false_eq_true, if_false]
  case sl t l' => simp only [RelA, RelD] at hr; obtain ⟨A, c, h1, _⟩ := hr; rw [(List.cons.inj h1).1]; rfl
  case zsl => simp only [RelA] at hr; obtain ⟨A, rfl⟩ := hr; rfl
  case osl => simp only [RelA, OslOk] at hr; obtain ⟨⟨A, n, c, rfl⟩, _⟩ := hr; rfl
  case bptr => simp only [RelA, BptrOk] at hr; obtain ⟨⟨p, rfl⟩, _⟩ := hr; rfl
  case eptr => simp only [RelA, EptrOk] at hr; obtain ⟨⟨p, rfl⟩, _⟩ := hr; rfl
  case ref => simp only [RelA] at hr; obtain ⟨b, off, rfl, _⟩ := hr; rfl
  case fn => simp only [RelA] at hr; obtain ⟨vs, rfl, _⟩ := hr; rfl
  case mth => simp only [RelA] at hr; obtain ⟨p, rfl, _⟩ := hr; rfl
  case anyb => simp only [RelA] at hr; obtain ⟨b, rfl⟩ := hr; rfl
  all_goals (simp only [RelA] at hr; rw [hr]; rfl)
section
variable {P : Program} {T : Tb} {base : Nat}
def resOf (tmps : Array Value) : ResultVar → Sem Value
  | .tmp t => pure (tmps.getD t undef)
  | .cell a t => do loadVar t (← asAddr (tmps.getD a undef))
theorem res_one (hT : TbOk P T) {C : Cx} {σ : St} {a : Act} (hs : Sim base C σ a) {x : ResultVar} {p : Bool × List AV} (h : resCells T σ x = some p) :
    ∃ v, (resOf a.tmps x).run P C.w = .ok v C.w ∧ (if p.1 = true then ∃ cs, v = .agg cs else v.oneCell' = true) ∧ RelL C p.2 v.cells.toList ∧ (∀ u ∈ v.cells.toList, u.oneCell' = true) := by
  cases x with
  | tmp t =>
    simp only [resCells] at h
    split at h <;> try (cases h; done)
    rename_i l hl
    cases h
    obtain ⟨h1, h2⟩ := cellsO_rel (hs.tm t) hl
    exact ⟨_, by simp [resOf], cellsO_shape (hs.tm t) hl, h1, h2⟩
  | cell t ty =>
    simp only [resCells] at h
    split at h <;> try (cases h; done)
    rename_i i cs hi hc
    split at h <;> try (cases h; done)
    rename_i hsz
    cases h
    rw [← hs.H] at hc
    obtain ⟨b, off, vs, h1, h2, h3, h4⟩ := cellsAt_rel hs.good (hs.tm t) hc
    have hti := hT.ty _ _ hi
    have hlen : (vs.take i.size).length = i.size := by have := h2.len; simp; omega
    have hld := run_load_ti hti (w := C.w) (b := b) (off := off) (vs := vs.take i.size) hlen (fun j u hj => h4 j u (by
      rw [List.getElem?_take] at hj; split at hj; exact hj; cases hj))
    refine ⟨_, by simp [resOf, h1, asAddr]; exact hld, ?_, ?_, ?_⟩
    · split
      · rename_i hk; exact ⟨_, rfl⟩
      · rename_i hk
        have h1' := hti.one (by simpa using hk)
        match hvs : vs.take i.size, hlen with
        | [u], _ => exact h3 u (List.mem_of_mem_take (by rw [hvs]; simp))
        | [], hl => simp at hl; omega
        | u :: u' :: q, hl => simp at hl; omega
    · have ht := h2.take (n := i.size)
      split
      · rename_i hk; simpa [Value.cells] using ht
      · rename_i hk
        have h1' := hti.one (by simpa using hk)
        match hvs : vs.take i.size, hlen with
        | [u], _ =>
          rw [hvs] at ht
          have hu : u.oneCell' = true := h3 u (List.mem_of_mem_take (by rw [hvs]; simp))
          have : u.cells = #[u] := by cases u <;> first | rfl | simp [Value.oneCell'] at hu
          simpa [this] using ht
        | [], hl => simp at hl; omega
        | u :: u' :: q, hl => simp at hl; omega
    · split
      · rename_i hk
        intro u hu
        exact h3 u (List.mem_of_mem_take (by simpa [Value.cells] using hu))
      · rename_i hk
        have h1' := hti.one (by simpa using hk)
        match hvs : vs.take i.size, hlen with
        | [u], _ =>
          have hu : u.oneCell' = true := h3 u (List.mem_of_mem_take (by rw [hvs]; simp))
          have : u.cells = #[u] := by cases u <;> first | rfl | simp [Value.oneCell'] at hu
          simp [this, hu]
        | [], hl => simp at hl; omega
        | u :: u' :: q, hl => simp at hl; omega
theorem res_all (hT : TbOk P T) {C : Cx} {σ : St} {a : Act} (hs : Sim base C σ a) : ∀ {xs : List ResultVar} {ps : List (Bool × List AV)}, allR (resCells T σ) xs = some ps →
    ∃ vs, (xs.mapM (resOf a.tmps)).run P C.w = .ok vs C.w ∧ RelRes C ps vs
  | [], ps, h => by simp [allR] at h; subst h; exact ⟨[], by simp, rfl⟩
  | x :: r, ps, h => by
    simp only [allR] at h
    split at h <;> try (cases h; done)
    rename_i y s h1 h2
    cases h
    obtain ⟨v, a1, a2, a3, a4⟩ := res_one hT hs h1
    obtain ⟨vs, b1, b2⟩ := res_all hT hs h2
    exact ⟨v :: vs, by simp [List.mapM_cons, a1, b1], by simp only [RelRes]; exact ⟨v, vs, rfl, a2, a3, a4, b2⟩⟩
theorem results_run (hT : TbOk P T) {C : Cx} {σ : St} {a : Act} (hs : Sim base C σ a) {fn : Func} {ps : List (Bool × List AV)} (h : allR (resCells T σ) fn.results.toList = some ps) :
    ∃ vs, (results fn a.tmps).run P C.w = .ok (resV vs) C.w ∧ RelRes C ps vs := by
  obtain ⟨vs, h1, h2⟩ := res_all hT hs h
  refine ⟨vs, ?_, h2⟩
  have h3 : (fn.results.mapM (resOf a.tmps)).run P C.w = .ok vs.toArray C.w := by
    rw [Array.mapM_eq_mapM_toList]
    simp [h1]
  have h4 : results fn a.tmps = (do let vs ← fn.results.mapM (resOf a.tmps); pure (if h : vs.size = 1 then vs[0] else .tuple vs)) := by
    unfold results
    congr
  rw [h4]
  simp only [Sem.run_bind, h3]
  match vs with
  | [] => simp [resV]
  | [v] => simp [resV]
  | v :: u :: r => simp [resV]
end
end Go.Proofs.Ytnlgciomdghfiaa.Fw

/- Calls: the interpreter is right. -/
import Derived.Test.YtnlgciomdghfiaaFwZb
namespace Go.Proofs.Ytnlgciomdghfiaa.Fw
open Go Go.RowKit
set_option linter.unusedVariables false
set_option linter.unusedSimpArgs false

section
variable {P : Program} {T : Tb} {base : Nat}
/-! ### results, given to all -/
theorem expD_rel {C : Cx} (hg : Good base C) {F : Nat → Prop} (hF : ∀ b, C.F b → F b) (hB : ∀ o b, b ∈ blks C o → F b) : ∀ {t : Ty} {l : List AV} {vs : List Value} {d : t.D}, expD C.H t l = some d → RelL C l vs → RelD F C.w t d vs := by
  have flat : ∀ {t : Ty} {l : List AV} {vs : List Value} {d : t.D}, toD t l = some d → RelL C l vs → RelD F C.w t d vs := fun h hr => (toD_rel h hr).mono hF fun _ _ => rfl
  intro t
  induction t with
  | sl e _ =>
    intro l vs d h hr
    rcases l with _ | ⟨x, _ | ⟨z, s⟩⟩
    · exact flat (by simpa only [expD] using h) hr
    · cases x <;> try exact flat (by simpa only [expD] using h) hr
      rename_i o ver
      simp only [expD] at h
      split at h <;> try (cases h; done)
      rename_i t' l' cur dp hH
      split at h <;> try (cases h; done)
      rename_i hv
      subst hv
      split at h <;> try (cases h; done)
      rename_i he
      subst he
      cases h
      obtain ⟨v, rfl, hv⟩ := hr.one
      simp only [RelA] at hv
      exact arr_D hg hH hv hF (hB o)
    · exact flat (by simpa only [expD] using h) hr
  | pr a b iha ihb =>
    intro l vs d h hr
    simp only [expD] at h
    split at h <;> try (cases h; done)
    rename_i x y h1 h2
    cases h
    simp only [RelD]
    exact ⟨_, _, (List.take_append_drop a.size vs).symm, iha h1 hr.take, ihb h2 hr.drop⟩
  | _ => intro l vs d h hr; exact flat (by simpa only [expD] using h) hr
theorem shape_VOk {t : Ty} {p : Bool × List AV} {v : Value} (h : shapeOk t p = true) (hv : if p.1 = true then ∃ cs, v = .agg cs else v.oneCell' = true) : VOk t v ∧ p.2.length = t.size := by
  simp only [shapeOk, Bool.and_eq_true, beq_iff_eq] at h
  refine ⟨?_, Nat.eq_of_beq_eq_true h.2⟩
  unfold VOk
  rw [← h.1]
  split
  · rename_i h1; rwa [if_pos h1] at hv
  · rename_i h1; rwa [if_neg h1] at hv
theorem expL_rel {C : Cx} (hg : Good base C) {F : Nat → Prop} (hF : ∀ b, C.F b → F b) (hB : ∀ o b, b ∈ blks C o → F b) : ∀ {rs : List Ty} {ps : List (Bool × List AV)} {vs : List Value} {d : DL rs}, expL C.H rs ps = some d → RelRes C ps vs → RelRs (fun t d vs S => RelD F C.w t d vs ∧ S = []) rs d vs []
  | [], [], vs, d, h, hr => by simp only [RelRes] at hr; simp only [RelRs]; exact ⟨hr, trivial⟩
  | [], _ :: _, vs, d, h, hr => by simp [expL] at h
  | [a], [], vs, d, h, hr => by simp [expL] at h
  | [a], [p], vs, d, h, hr => by
    simp only [expL] at h
    split at h <;> try (cases h; done)
    rename_i hs
    simp only [RelRes] at hr
    obtain ⟨v, vr, rfl, h1, h2, h3, rfl⟩ := hr
    simp only [RelRs]
    exact ⟨v, rfl, (shape_VOk hs h1).1, expD_rel hg hF hB h h2, trivial⟩
  | [a], _ :: _ :: _, vs, d, h, hr => by simp [expL] at h
  | a :: b :: r, [], vs, d, h, hr => by simp [expL] at h
  | a :: b :: r, p :: ps, vs, d, h, hr => by
    simp only [expL] at h
    split at h <;> try (cases h; done)
    rename_i hs
    split at h <;> try (cases h; done)
    rename_i x y e1 e2
    cases h
    simp only [RelRes] at hr
    obtain ⟨v, vr, rfl, h1, h2, h3, h4⟩ := hr
    simp only [RelRs]
    exact ⟨v, vr, [], [], rfl, rfl, (shape_VOk hs h1).1, ⟨expD_rel hg hF hB e1 h2, rfl⟩, expL_rel hg hF hB e2 h4⟩
theorem expXL_rel {C : Cx} (hg : Good base C) : ∀ {rs : List Ty} {ps : List (Bool × List AV)} {vs : List Value} {d : DL rs} {ids : List Nat}, expXL C.H rs ps = some (d, ids) → RelRes C ps vs → RelRs (RelX C.w) rs d vs (ids.flatMap (blks C)) ∧ ∀ o ∈ ids, ∃ t l ver dp, C.H o = .arr t l ver dp
  | [], [], vs, d, ids, h, hr => by simp only [expXL, Option.some.injEq, Prod.mk.injEq] at h; obtain ⟨_, rfl⟩ := h; simp only [RelRes] at hr; simp only [RelRs]; exact ⟨⟨hr, rfl⟩, by simp⟩
  | [], _ :: _, vs, d, ids, h, hr => by simp [expXL] at h
  | [a], [], vs, d, ids, h, hr => by simp [expXL] at h
  | [a], [p], vs, d, ids, h, hr => by
    simp only [expXL] at h
    split at h <;> try (cases h; done)
    rename_i hs
    simp only [RelRes] at hr
    obtain ⟨v, vr, rfl, h1, h2, h3, rfl⟩ := hr
    obtain ⟨h5, h6⟩ := toX_rel hg h h2
    simp only [RelRs]
    exact ⟨⟨v, rfl, (shape_VOk hs h1).1, h5⟩, h6⟩
  | [a], _ :: _ :: _, vs, d, ids, h, hr => by simp [expXL] at h
  | a :: b :: r, [], vs, d, ids, h, hr => by simp [expXL] at h
  | a :: b :: r, p :: ps, vs, d, ids, h, hr => by
    simp only [expXL] at h
    split at h <;> try (cases h; done)
    rename_i hs
    split at h <;> try (cases h; done)
    rename_i x i y j e1 e2
    cases h
    simp only [RelRes] at hr
    obtain ⟨v, vr, rfl, h1, h2, h3, h4⟩ := hr
    obtain ⟨h5, h6⟩ := toX_rel hg e1 h2
    obtain ⟨h7, h8⟩ := expXL_rel hg e2 h4
    simp only [RelRs]
    refine ⟨⟨v, vr, _, _, rfl, by rw [List.flatMap_append], (shape_VOk hs h1).1, h5, h7⟩, fun o ho => ?_⟩
    rcases List.mem_append.1 ho with ho | ho
    · exact h6 o ho
    · exact h8 o ho

/-! ### a call by value -/
theorem Good.cx0 (base : Nat) (F G : Nat → Prop) (w : World) (hF : ∀ b, F b → b < w.heap.size) (hG : ∀ b, G b → b < w.heap.size) : Good base (Fw.cx0 F G w) where
  ob o := trivial
  low o b h := by simp [blks, Fw.cx0] at h
  nd o := by simp [blks, Fw.cx0]
  dj o p b _ h := by simp [blks, Fw.cx0] at h
  fz := hF
  gz := hG
theorem st0_tmps {C : Cx} {args : List AV} {vals : List Value} (hr : RelL C args vals) (n : Nat) (i : Nat) : RelA C ((args ++ List.replicate (n - args.length) AV.top).getD i AV.top) ((vals.toArray ++ Array.replicate (n - vals.length) undef).getD i undef) := by
  have hl := hr.len
  simp only [List.getD_eq_getElem?_getD, Array.getD_eq_getD_getElem?]
  rcases Nat.lt_or_ge i args.length with h | h
  · rw [List.getElem?_append_left h, Array.getElem?_append_left (by simpa [← hl] using h)]
    obtain ⟨u, h1, h2⟩ := hr.get (List.getElem?_eq_getElem h)
    rw [List.getElem?_eq_getElem h]
    simp only [List.getElem?_toArray, h1, Option.getD_some]
    exact h2
  · rw [List.getElem?_append_right h]
    cases hx : (List.replicate (n - args.length) AV.top)[i - args.length]? with
    | none => simp only [Option.getD_none, RelA]
    | some x =>
      have := List.mem_of_getElem? hx
      rw [List.mem_replicate] at this
      rw [this.2]; simp only [Option.getD_some, RelA]
theorem enter_run (hT : TbOk P T) {f : FuncId} {fn : Func} (hf : T.fn f = some fn) (vals : Array Value) (w : World) : (callFunc f vals).run P w = .ok (.enter f vals) w := by
  obtain ⟨h1, h2, h3⟩ := hT.fn f fn hf
  have h4 : ¬ fn.name = "runtime.NumGoroutine" := by simpa using h2
  have h5 : ¬ fn.body = none := by intro e; rw [e] at h3; cases h3
  simp [callFunc, h1, h4, h5]
theorem pure_sound (hT : TbOk P T) {Ca : Ca T} (hC : CaOk P T Ca) {n : Nat} {f : FuncId} {fn : Func} {c : Code} (hf : T.fn f = some fn) (hb : fn.body = some c) {args : List AV} {d : DL (T.rs f)}
    (h : exec T Ca f 0 n c (st0 fn args []) (finish T f fn) = some d) : PureOk P T f args d := by
  intro w F G vals hF hG hr
  refine ⟨enter_run hT hf _ w, calls_of_wp (hT.fn f fn hf).1 hb ?_⟩
  let a0 : Act := { tmps := vals.toArray ++ Array.replicate (fn.ntmps - vals.toArray.size) undef, defers := [] }
  have hl := hr.len
  have hs : Sim w.heap.size (cx0 F G w) (st0 fn args []) a0 :=
    { good := Good.cx0 _ F G w hF hG, low := Nat.le_refl _, H := by funext o; simp [cx0, st0, look], len := by simp [st0, a0, hl],
      tm := fun i => by have := st0_tmps hr fn.ntmps i; simpa [tvOf, st0, a0] using this, df := rfl }
  refine exec_sound (C0 := cx0 F G w) hT hC (fun _ _ => rfl) c hs (To.refl _ _) ?_ h
  intro e ρ a C h1 h2 h3
  have main : ∀ ps, allR (resCells T ρ) fn.results.toList = some ps → (if T.fresh f = true then (match expXL (look ρ.H) (T.rs f) ps with
        | some (d, ids) => if nodupB ids = true then some d else none
        | none => none) else expL (look ρ.H) (T.rs f) ps) = some d → a.defers = [] ∧ ∃ v, (results fn a.tmps).run P C.w = .ok v C.w ∧ ∃ v', Ending.returned v = Ending.returned v' ∧ Below w.heap.size w C.w ∧ ∃ F' S, (∀ b, F b → F' b) ∧ (∀ b, F' b → b < C.w.heap.size ∧ (F b ∨ w.heap.size ≤ b)) ∧ ResOk (T.fresh f) F' C.w (T.rs f) d v' S ∧ S.Nodup ∧ ∀ b ∈ S, w.heap.size ≤ b ∧ b < C.w.heap.size ∧ ¬ F' b := by
    intro ps hps hd
    obtain ⟨vs, r1, r2⟩ := results_run hT h2 hps
    refine ⟨h2.df, _, r1, _, rfl, h3.bel, ?_⟩
    rw [← h2.H] at hd
    by_cases hfr : T.fresh f = true
    · rw [if_pos hfr] at hd
      split at hd <;> try (cases hd; done)
      rename_i d' ids hx
      split at hd <;> try (cases hd; done)
      rename_i hnd
      cases hd
      obtain ⟨x1, x2⟩ := expXL_rel h2.good hx r2
      obtain ⟨y1, y2⟩ := Free.drop h2.good (nodupB_nodup hnd)
      refine ⟨C.F, ids.flatMap (blks C), h3.ext.F, fun b hb' => ⟨h2.good.fz b hb', h3.fnew b hb'⟩, ⟨vs, rfl, by rw [if_pos hfr]; exact x1⟩, y1, fun b hb' => ?_⟩
      obtain ⟨z1, z2, z3, _⟩ := y2 b hb'
      exact ⟨z1, z2, z3⟩
    · rw [if_neg hfr] at hd
      refine ⟨fun b => C.F b ∨ ∃ o, b ∈ blks C o, [], fun b hb' => .inl (h3.ext.F b hb'), fun b hb' => ?_, ⟨vs, rfl, by rw [if_neg hfr]; exact expL_rel h2.good (fun b hb' => .inl hb') (fun o b hb' => .inr ⟨o, hb'⟩) hd r2⟩, List.nodup_nil, fun b hb' => by cases hb'⟩
      rcases hb' with hb' | ⟨o, hb'⟩
      · exact ⟨h2.good.fz b hb', h3.fnew b hb'⟩
      · obtain ⟨z1, z2, _⟩ := h2.good.low o b hb'
        exact ⟨z2, .inr z1⟩
  unfold finish at h1
  cases e with
  | exit j => cases h1
  | normal =>
    simp only at h1
    split at h1 <;> try (cases h1; done)
    rename_i ps hps
    exact main ps hps h1
  | ret =>
    simp only at h1
    split at h1 <;> try (cases h1; done)
    rename_i ps hps
    exact main ps hps h1

/-! ### a call that works on its caller's objects -/
theorem res_ofCells {C : Cx} : ∀ {ps : List (Bool × List AV)} {vs : List Value}, RelRes C ps vs → RelL C (ps.map fun p => ofCells p.1 p.2) vs
  | [], vs, h => by simp only [RelRes] at h; subst h; simp [RelL]
  | p :: r, vs, h => by
    simp only [RelRes] at h
    obtain ⟨v, vr, rfl, h1, h2, h3, h4⟩ := h
    simp only [List.map_cons, RelL]
    refine ⟨v, vr, rfl, ?_, res_ofCells h4⟩
    unfold ofCells
    split at h1
    · rename_i hp
      rw [if_pos hp]
      obtain ⟨cs, rfl⟩ := h1
      simp only [RelA]
      exact ⟨cs.toList, by simp, by simpa [Value.cells] using h3, by simpa [Value.cells] using h2⟩
    · rename_i hp
      rw [if_neg hp]
      have hc : v.cells = #[v] := by cases v <;> first | rfl | simp [Value.oneCell'] at h1
      rw [hc] at h2
      match hp2 : p.2, h2 with
      | [], h2 => have := h2.len; simp at this
      | [x], h2 => obtain ⟨u, hu, hx⟩ := h2.one; simp at hu; subst hu; exact hx
      | x :: y :: q, h2 => have := h2.len; simp at this
theorem thr_sound (hT : TbOk P T) {Ca : Ca T} (hC : CaOk P T Ca) {n : Nat} {f : FuncId} {fn : Func} {c : Code} (hf : T.fn f = some fn) (hb : fn.body = some c) (hthr : T.thr f = true) {args : List AV} {H : List AO} {α : Type} {k : AV → List AO → Option α} {r : α}
    (h : exec T Ca f H.length n c (st0 fn args H) (fun e σ => (finishT T fn e σ).bind fun x => k x.1 x.2) = some r) : ThrOk P f args H k r := by
  intro base C0 vals hg hlow hH hr
  refine ⟨enter_run hT hf _ C0.w, calls_of_wp (hT.fn f fn hf).1 hb ?_⟩
  let a0 : Act := { tmps := vals.toArray ++ Array.replicate (fn.ntmps - vals.toArray.size) undef, defers := [] }
  have hl := hr.len
  have hs : Sim base C0 (st0 fn args H) a0 :=
    { good := hg, low := hlow, H := hH, len := by simp [st0, a0, hl],
      tm := fun i => by have := st0_tmps hr fn.ntmps i; simpa [tvOf, st0, a0] using this, df := rfl }
  refine exec_sound (C0 := C0) hT hC (fun o ho => by rw [hH]; exact look_hole ho) c hs (To.refl _ _) ?_ h
  intro e ρ a C h1 h2 h3
  obtain ⟨y, h1, hky⟩ := Option.bind_eq_some_iff.1 h1
  have main : ∀ ps, allR (resCells T ρ) fn.results.toList = some ps → y = (resA (ps.map fun p => ofCells p.1 p.2), ρ.H) →
      a.defers = [] ∧ ∃ v, (results fn a.tmps).run P C.w = .ok v C.w ∧ ∃ v', Ending.returned v = Ending.returned v' ∧ ∃ x H' C', k x H' = some r ∧ C'.w = C.w ∧ Good base C' ∧ To base C0 C' ∧ C'.H = look H' ∧ RelA C' x v' := by
    intro ps hps hr'
    subst hr'
    obtain ⟨vs, r1, r2⟩ := results_run hT h2 hps
    exact ⟨h2.df, _, r1, _, rfl, _, _, C, hky, rfl, h2.good, h3, h2.H, resV_rel (res_ofCells r2)⟩
  unfold finishT at h1
  cases e with
  | exit j => cases h1
  | normal =>
    simp only at h1
    split at h1 <;> try (cases h1; done)
    rename_i ps hps
    cases h1
    exact main ps hps rfl
  | ret =>
    simp only at h1
    split at h1 <;> try (cases h1; done)
    rename_i ps hps
    cases h1
    exact main ps hps rfl

/-! ### the interpreter is right -/
theorem run_sound (hT : TbOk P T) {orc : (f : FuncId) → List AV → Option (DL (T.rs f))} (ho : ∀ f args d, T.fn f = none → orc f args = some d → PureOk P T f args d) : ∀ n, CaOk P T (run T orc n)
  | 0 => ⟨fun f args d h => (by cases h), fun f args H k r h => (by cases h)⟩
  | n + 1 => by
    have ih := run_sound hT ho n
    refine ⟨fun f args d h => ?_, fun f args H k r h => ?_⟩
    · simp only [run] at h
      split at h
      · rename_i fn hf
        split at h <;> try (cases h; done)
        rename_i c hc
        exact pure_sound hT ih hf hc h
      · rename_i hf
        exact ho f args d hf h
    · simp only [run] at h
      split at h <;> try (cases h; done)
      rename_i hthr
      split at h <;> try (cases h; done)
      rename_i fn hf
      split at h <;> try (cases h; done)
      rename_i c hc
      exact thr_sound hT ih hf hc hthr h
end
end Go.Proofs.Ytnlgciomdghfiaa.Fw

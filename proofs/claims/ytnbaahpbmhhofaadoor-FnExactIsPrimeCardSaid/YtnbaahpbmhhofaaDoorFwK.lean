/- One operation of the interpreter is what the machine does: reckoning, places, lengths. -/
import Derived.Test.YtnbaahpbmhhofaaDoorFwJ
import Derived.Laws.Cover3
namespace Go.Proofs.YtnbaahpbmhhofaaDoor.Fw
open Go Go.RowKit
set_option linter.unusedVariables false
set_option linter.unusedSimpArgs false

section
variable {P : Program} {T : Tb} {α : Type} {base : Nat} {C : Cx} {a : Act} {tv : Nat → AV} {nid : Nat} {next : Act → World → Prop} {Q : Exit → Act → World → Prop} {r : α} {k : AV → List (Nat × AO) → Option α}
variable {dst : Option Tmp} {type : TypeId} {pos : String} {after : Array Edge} {guard : Option (Nat × Bool)}

theorem run_part_int {t : TypeId} {k : IntKind} (hu : P.underlying t = some (.int k)) {cs : Array Value} {off : Nat} {v : Value} (h : cs[off]? = some v) (w : World) : (part t cs off).run P w = .ok v w := by
  have : (isAgg t).run P w = .ok false w := by simp [isAgg, run_underlying hu]
  simp [part, this, h]
theorem run_eqFields (d : Nat) {w : World} : ∀ {fs : List Field} {n : Nat} {l m : List AV} {xs ys : List Value} {e : Bool}, (∀ f ∈ fs, (f.name == "_") = false ∧ ∃ k, P.underlying f.type = some (.int k)) → fs.map (·.offset) = List.range' n fs.length →
    RelL C l (xs.drop n) → RelL C m (ys.drop n) → l.length = fs.length → eqCells l m = some e → (Op.eqFields (d + 1) xs.toArray ys.toArray fs).run P w = .ok e w
  | [], n, l, m, xs, ys, e, _, _, hl, hm, hlen, he => by
    cases l with
    | nil =>
      cases m with
      | nil => simp [eqCells] at he; subst he; simp [Op.eqFields]
      | cons _ _ => simp [eqCells] at he
    | cons _ _ => simp at hlen
  | f :: fs, n, l, m, xs, ys, e, hf, ho, hl, hm, hlen, he => by
    cases l with
    | nil => simp at hlen
    | cons x l =>
      cases m with
      | nil => cases x <;> simp [eqCells] at he
      | cons y m =>
        cases x <;> try (simp [eqCells] at he; done)
        cases y <;> try (simp [eqCells] at he; done)
        rename_i k1 v1 k2 v2
        simp only [eqCells] at he
        split at he <;> try (cases he; done)
        rename_i hk
        subst hk
        obtain ⟨e', h1, h2⟩ := Option.map_eq_some_iff.1 he
        subst h2
        simp only [List.map_cons, List.length_cons, List.range'_succ, List.cons.injEq] at ho
        obtain ⟨ho1, ho2⟩ := ho
        simp only [RelL, RelA] at hl hm
        obtain ⟨v, vr, hx, rfl, hl⟩ := hl
        obtain ⟨u, ur, hy, rfl, hm⟩ := hm
        have hx0 : xs.toArray[f.offset]? = some (.int k1 v1) := by
          have := congrArg (·[0]?) hx
          simp only [List.getElem?_drop, Nat.add_zero, List.getElem?_cons_zero] at this
          rw [ho1]; simpa using this
        have hy0 : ys.toArray[f.offset]? = some (.int k1 v2) := by
          have := congrArg (·[0]?) hy
          simp only [List.getElem?_drop, Nat.add_zero, List.getElem?_cons_zero] at this
          rw [ho1]; simpa using this
        have hxd : xs.drop (n + 1) = vr := by rw [← List.drop_drop, hx]; rfl
        have hyd : ys.drop (n + 1) = ur := by rw [← List.drop_drop, hy]; rfl
        obtain ⟨hn, kk, hu⟩ := hf f (by simp)
        have ih := run_eqFields d (w := w) (fs := fs) (n := n + 1) (xs := xs) (ys := ys) (fun g hg => hf g (List.mem_cons_of_mem _ hg)) ho2 (by rw [hxd]; exact hl) (by rw [hyd]; exact hm) (by simpa using hlen) h1
        have hne : f.name ≠ "_" := by simpa using hn
        have heq : (Op.equalIn (d + 1) f.type (.int k1 v1) (.int k1 v2)).run P w = .ok (v1 == v2) w := by simp [Op.equalIn, run_underlying hu]
        simp only [Op.eqFields]
        rw [if_pos hne]
        simp only [Sem.run_bind, run_part_int hu hx0, run_part_int hu hy0, Result.andThen_ok, heq, Sem.run_ite]
        cases hb : (v1 == v2) with
        | true => simpa using ih
        | false => simp
theorem isNilO_eval {y : Operand} (h : isNilO y = true) (a : Act) : a.eval y = .slice none 0 0 := by
  unfold isNilO at h
  split at h
  · rfl
  · cases h
theorem emptyC_some {C : Cx} {x : AV} {v : Value} {e n : Option α} (hr : RelA C x v) (h : emptyC C.H x e n = some r) : (∃ A l c, v = .slice A l c) ∧ (e = some r ∨ (n = some r ∧ ∃ p l c, v = .slice (some p) l c)) := by
  unfold emptyC at h
  split at h
  · simp only [RelA] at hr
    obtain ⟨A, rfl⟩ := hr
    exact ⟨⟨_, _, _, rfl⟩, .inl h⟩
  · rename_i t l
    simp only [RelA, RelD] at hr
    obtain ⟨A, c, hv, _, h2⟩ := hr
    simp only [List.cons.injEq, and_true] at hv
    subst hv
    refine ⟨⟨_, _, _, rfl⟩, ?_⟩
    split at h
    · exact .inl h
    · rename_i hl
      rcases h2 with h2 | ⟨b, o, rfl, _⟩
      · subst h2; simp at hl
      · exact .inr ⟨h, _, _, _, rfl⟩
  · rename_i o ver
    simp only [RelA, OslOk] at hr
    obtain ⟨⟨A, m, c, rfl⟩, hr⟩ := hr
    refine ⟨⟨_, _, _, rfl⟩, ?_⟩
    split at h
    · rename_i t l cur dp hh
      rw [hh] at hr
      simp only at hr
      split at h
      · rename_i hc
        subst hc
        split at h
        · exact .inl h
        · rename_i hl
          rcases hr with hr | ⟨_, hr⟩
          · exact absurd hr (Nat.lt_irrefl _)
          · rcases hr with ⟨h0, _⟩ | ⟨_, c', cs, tid, hv, _⟩
            · have : l = [] := List.eq_nil_of_length_eq_zero h0
              subst this; simp at hl
            · cases hv; exact .inr ⟨h, _, _, _, rfl⟩
      · cases h
    · cases h
  · cases h
theorem run_eql_slice_nil' {w : World} {t e : TypeId} {a : Option Addr} {l c : Nat} (h : P.underlying t = some (.slice e)) : (binOp .eql t (.slice a l c) (.slice none 0 0)).run P w = .ok (.bool a.isNone) w := by
  simp only [binOp]
  simp [run_equal_slice_nil w t e a l c h]
theorem range'_range (n : Nat) : List.range' 0 n = List.range n := by rw [List.range_eq_range']
theorem so_bin (hT : TbOk P T) (hg : Good base C) (ht : Tmps C tv a) (hk : ∀ v u, k v u = some r → Kont base C a dst next v u) {op : BinOp} {t t2 : TypeId} {x y : Operand}
    (h : (match opnd tv x, opnd tv y with
    | .int k1 a, .int k2 b => binC op (.int k1 a) (.int k2 b) fun v => k v []
    | .agg l, .agg m => match T.ty t with
      | some ⟨.struct fs, _, _, _⟩ => if (fs.map (·.1) == List.range fs.length) && fs.all (fun f => match T.ty f.2 with | some ⟨.int _, _, _, _⟩ => true | _ => false) && (l.length == fs.length) then binC op (.agg l) (.agg m) fun v => k v [] else none
      | _ => none
    | a, b => match T.ty t with
      | some ⟨.bool, _, _, _⟩ => binB op a b fun v => k v []
      | some ⟨.slice _, _, _, _⟩ => nilC op C.H a y fun v => k v []
      | _ => none) = some r) : (Oper.mk dst (.binOp op t x y t2) type pos after guard).wp P a C.w next Q := by
  have hx := opnd_rel ht x
  have hy := opnd_rel ht y
  have fin : ∀ {v : AV} {val : Value}, k v [] = some r → RelA C v val → (do eqGuard op t x y (a.eval x) (a.eval y); binOp op t (a.eval x) (a.eval y) : Sem Value).run P C.w = .ok val C.w → (Oper.mk dst (.binOp op t x y t2) type pos after guard).wp P a C.w next Q := by
    intro v val h1 h2 h3
    refine wp_value (w' := C.w) (v := val) ?_ ((hk _ _ h1).pure hg h2)
    simp only [execOp, Sem.run_bind] at h3 ⊢
    rw [h3]
    rfl
  split at h
  · rename_i k1 n1 k2 n2 e1 e2
    rw [e1] at hx; rw [e2] at hy
    simp only [RelA] at hx hy
    obtain ⟨v, val, h1, h2, h3⟩ := run_bin (P := P) h C.w C t
    refine fin h1 h2 ?_
    rw [hx, hy]
    have hq : (eqGuard op t x y (.int k1 n1) (.int k2 n2)).run P C.w = .ok () C.w := by cases op <;> rfl
    simp only [Sem.run_bind, hq, Result.andThen_ok, h3]
  · rename_i l m e1 e2
    rw [e1] at hx; rw [e2] at hy
    simp only [RelA] at hx hy
    obtain ⟨xs, hx, _, hl⟩ := hx
    obtain ⟨ys, hy, _, hm⟩ := hy
    split at h <;> try (cases h; done)
    rename_i fs sz by_ zz hi
    split at h <;> try (cases h; done)
    rename_i hc
    simp only [Bool.and_eq_true, beq_iff_eq, List.all_eq_true] at hc
    obtain ⟨⟨hc1, hc2⟩, hc3⟩ := hc
    obtain ⟨fds, hu, hfd, hnm, hst⟩ := (hT.ty t _ hi).und
    have hfo : P.fieldsOf t = fds := by simp [Program.fieldsOf, hu]
    have hlen : fds.toList.length = fs.length := by rw [← hfd]; simp
    have hints : ∀ f ∈ fds.toList, (f.name == "_") = false ∧ ∃ k, P.underlying f.type = some (.int k) := by
      intro f hf
      refine ⟨hnm f hf, ?_⟩
      have hm : (f.offset, f.type) ∈ fs := by rw [← hfd]; exact List.mem_map.2 ⟨f, hf, rfl⟩
      have := hc2 _ hm
      simp only at this
      split at this
      · rename_i k' s' b' z' ht'
        exact ⟨_, (hT.ty _ _ ht').und⟩
      · cases this
    have hoff : fds.toList.map (·.offset) = List.range' 0 fds.toList.length := by
      rw [range'_range, hlen, ← hc1, ← hfd]
      simp
    simp only [binC] at h
    have hE : ∀ e, eqCells l m = some e → (Op.equal t (.agg xs.toArray) (.agg ys.toArray)).run P C.w = .ok e C.w := by
      intro e he
      unfold Op.equal Op.maxDepth
      rw [run_equalIn_struct C.w 9999 t xs.toArray ys.toArray (by rw [hfo]; exact hu) hst, hfo]
      exact run_eqFields 9998 hints hoff (by simpa using hl) (by simpa using hm) (by rw [hlen]; exact hc3) he
    have hG : ∀ o', (o' = .eql ∨ o' = .neq) → (eqGuard o' t x y (.agg xs.toArray) (.agg ys.toArray)).run P C.w = .ok () C.w := by
      intro o' ho'
      have hty : P.eqGuardType P.depth t = false := by
        have hd : P.depth = (P.depth - 2) + 1 + 1 := by unfold Program.depth; omega
        rw [hd]
        simp only [Program.eqGuardType, hu]
        rw [← Array.any_toList, List.any_eq_false]
        intro f hf
        obtain ⟨_, k', hk'⟩ := hints f hf
        simp [Program.eqGuardType, hk']
      rcases ho' with rfl | rfl <;> simp [eqGuard, hty]
    split at h
    · rename_i e he
      refine fin h (by simp only [RelA]; rfl) ?_
      rw [hx, hy]
      simp only [Sem.run_bind, hG .eql (.inl rfl), Result.andThen_ok, binOp, hE e he, Sem.run_pure]
    · rename_i e he
      refine fin h (by simp only [RelA]; rfl) ?_
      rw [hx, hy]
      simp only [Sem.run_bind, hG .neq (.inr rfl), Result.andThen_ok, binOp, hE e he, Sem.run_pure]
    · cases h
  · split at h <;> try (cases h; done)
    rotate_left
    · rename_i e_ sz by_ zz hi
      have hu := (hT.ty t _ hi).und
      simp only [undOk] at hu
      unfold nilC at h
      split at h
      · split at h <;> try (cases h; done)
        rename_i hn
        obtain ⟨⟨A, l, c, hv⟩, hc⟩ := emptyC_some hx h
        have h3 : (do eqGuard .eql t x y (a.eval x) (a.eval y); binOp .eql t (a.eval x) (a.eval y) : Sem Value).run P C.w = .ok (.bool A.isNone) C.w := by
          rw [hv, isNilO_eval hn]
          have hq : (eqGuard .eql t x y (.slice A l c) (.slice none 0 0)).run P C.w = .ok () C.w := by rfl
          simp only [Sem.run_bind, hq, Result.andThen_ok, run_eql_slice_nil' hu]
        rcases hc with hc | ⟨hc, p, l', c', hv'⟩
        · exact fin hc (by simp only [RelA]; exact ⟨_, rfl⟩) h3
        · rw [hv] at hv'; cases hv'
          exact fin hc (by simp only [RelA]; rfl) h3
      · split at h <;> try (cases h; done)
        rename_i hn
        obtain ⟨⟨A, l, c, hv⟩, hc⟩ := emptyC_some hx h
        have h3 : (do eqGuard .neq t x y (a.eval x) (a.eval y); binOp .neq t (a.eval x) (a.eval y) : Sem Value).run P C.w = .ok (.bool (!A.isNone)) C.w := by
          rw [hv, isNilO_eval hn]
          have hq : (eqGuard .neq t x y (.slice A l c) (.slice none 0 0)).run P C.w = .ok () C.w := by rfl
          simp only [Sem.run_bind, hq, Result.andThen_ok, run_neq_slice_nil C.w t _ A l c hu]
        rcases hc with hc | ⟨hc, p, l', c', hv'⟩
        · exact fin hc (by simp only [RelA]; exact ⟨_, rfl⟩) h3
        · rw [hv] at hv'; cases hv'
          exact fin hc (by simp only [RelA]; rfl) h3
      · cases h
    rename_i ty' sz by_ zz hi
    have hu := (hT.ty t _ hi).und
    simp only [undOk] at hu
    unfold binB at h
    split at h
    · rename_i b1 b2 h1 h2
      have e1 := boolOf_rel hx h1
      have e2 := boolOf_rel hy h2
      refine fin h (by simp only [RelA]; rfl) ?_
      rw [e1, e2]
      have hq : (eqGuard .eql t x y (.bool b1) (.bool b2)).run P C.w = .ok () C.w := by rfl
      simp only [Sem.run_bind, hq, Result.andThen_ok, binOp, run_equal_bool C.w t b1 b2 hu, Sem.run_pure]
    · rename_i b1 b2 h1 h2
      have e1 := boolOf_rel hx h1
      have e2 := boolOf_rel hy h2
      refine fin h (by simp only [RelA]; rfl) ?_
      rw [e1, e2]
      have hq : (eqGuard .neq t x y (.bool b1) (.bool b2)).run P C.w = .ok () C.w := by rfl
      simp only [Sem.run_bind, hq, Result.andThen_ok, binOp, run_equal_bool C.w t b1 b2 hu, Sem.run_pure]
      rfl
    · cases h
end
end Go.Proofs.YtnbaahpbmhhofaaDoor.Fw

/- One operation of the interpreter is what the machine does: all of them. -/
import Derived.Test.YtnbaahpbmhhofaaDoorFwQ
namespace Go.Proofs.YtnbaahpbmhhofaaDoor.Fw
open Go Go.RowKit
set_option linter.unusedVariables false
set_option linter.unusedSimpArgs false

section
variable {P : Program} {T : Tb} {α : Type} {base : Nat} {C : Cx} {a : Act} {tv : Nat → AV} {nid : Nat} {next : Act → World → Prop} {Q : Exit → Act → World → Prop} {r : α} {k : AV → List (Nat × AO) → Option α}
variable {dst : Option Tmp} {type : TypeId} {pos : String} {after : Array Edge} {guard : Option (Nat × Bool)}
theorem so_append (hT : TbOk P T) (hg : Good base C) (hb : base ≤ C.w.heap.size) (hn : C.H nid = .hole) (ht : Tmps C tv a) (hk : ∀ v u, k v u = some r → Kont base C a dst next v u) {cx : Call} (hc : cx.callee = .builtin .append) {s x : Operand} {t t2 : TypeId} (hxs : cx.args.toList = [s, x]) (hts : cx.argTypes.toList = [t, t2])
    (h : (match T.ty t2 with
        | some ⟨.slice _, _, _, _⟩ => appendC T tv C.H nid t (opnd tv s) (opnd tv x) k
        | _ => none) = some r) : (Oper.mk dst (.call cx) type pos after guard).wp P a C.w next Q := by
  have hs := opnd_rel ht s
  have hx := opnd_rel ht x
  have ha : cx.args = #[s, x] := by rw [← Array.toArray_toList (xs := cx.args), hxs]
  have hb' : cx.argTypes = #[t, t2] := by rw [← Array.toArray_toList (xs := cx.argTypes), hts]
  split at h <;> try (cases h; done)
  rename_i e2 _ _ _ he2
  have hu2 := (hT.ty _ _ he2).und
  simp only [undOk] at hu2
  unfold appendC at h
  split at h <;> try (cases h; done)
  rename_i e _ _ _ he
  have hu := (hT.ty _ _ he).und
  simp only [undOk] at hu
  split at h <;> try (cases h; done)
  rename_i d hd
  have fin : ∀ {val : Value} {w' : World} {C' : Cx} {v : AV} {u : List (Nat × AO)}, (Builtin.append_ #[t, t2] type #[a.eval s, a.eval x]).run P C.w = .ok val w' → C'.w = w' → Good base C' → To base C C' → C'.H = updU u C.H → RelA C' v val → k v u = some r → (Oper.mk dst (.call cx) type pos after guard).wp P a C.w next Q := by
    intro val w' C' v u h1 h2 h3 h4 h5 h6 h7
    subst h2
    exact wp_value (w' := C'.w) (v := val) (by simp [execOp, resolve, hc, ha, hb', invoke, builtin, h1]) (hk _ _ h7 C' val h3 h4 h5 h6)
  split at h <;> try (cases h; done)
  · rename_i t' l' own dies e3 e4
    split at h <;> try (cases h; done)
    rename_i e5
    subst e5
    split at h <;> try (cases h; done)
    rename_i hlim
    rw [e3] at hs
    simp only [RelA] at hs
    obtain ⟨A, hs⟩ := hs
    obtain ⟨val, w', C', h1, h2, h3, h4, h5, h6⟩ := so_append_new (ty := type) (A0 := A) hT hg hb hn hu hu2 hd hx e4 hlim
    exact fin (by rw [hs]; exact h1) h2 h3 h4 h5 h6 h
  · rename_i o ver t' l' own dies e3 e4
    split at h <;> try (cases h; done)
    rename_i t3 l cur dp hH
    split at h <;> try (cases h; done)
    rename_i e5
    subst e5
    split at h <;> try (cases h; done)
    rename_i e6
    subst e6
    split at h <;> try (cases h; done)
    rename_i e7
    subst e7
    split at h <;> try (cases h; done)
    rename_i hfit
    split at h <;> try (cases h; done)
    rename_i hdies
    split at h <;> try (cases h; done)
    rename_i hlim
    rw [e3] at hs
    obtain ⟨val, w', C', h1, h2, h3, h4, h5, h6⟩ := so_append_own (ty := type) hT hg hb hu hu2 hd hH hs hx e4 hfit (by simpa using hdies) hlim
    exact fin h1 h2 h3 h4 h5 h6 h

theorem step_sound (hT : TbOk P T) {Ca : Ca T} (hC : ∀ f args d, Ca.pure f args = some d → PureOk P T f args d) {fid : FuncId} {o : Oper} (hg : Good base C) (hb : base ≤ C.w.heap.size) (hn : ∀ j, j < newCnt T fid o → C.H (nid + j) = .hole) (ht : Tmps C tv a)
    (hk : ∀ v u, k v u = some r → Kont base C a o.dst next v u) (h : stepE T Ca fid tv C.H nid o k = some r) : o.wp P a C.w next Q := by
  obtain ⟨dst, op, type, pos, after, guard⟩ := o
  cases op <;> try (simp [stepE] at h; done)
  case move x => exact so_move hg ht hk (by simp only [stepE] at h; exact h) _ (.inl rfl)
  case assign x => exact so_move hg ht hk (by simp only [stepE] at h; exact h) _ (.inr rfl)
  case pick c x y => exact so_pick hg ht hk (by simp only [stepE] at h; exact h)
  case alloc t => exact so_alloc (nid := nid) hT hg hb (hn 0 (by simp [newCnt])) hk (by simp only [stepE] at h; exact h)
  case box t x => exact so_box (nid := nid) hg hb (hn 0 (by simp [newCnt])) ht hk (by simp only [stepE] at h; exact h)
  case build t ps => exact so_build hT hg ht hk (by simp only [stepE] at h; exact h)
  case buildSlice t len ps => exact so_buildSlice (nid := nid) hT hg hb (hn 0 (by simp [newCnt])) ht hk (by simp only [stepE] at h; exact h)
  case load t x => exact so_load hT hg ht hk (by simp only [stepE] at h; exact h)
  case store t x y => exact so_store hT hg ht hk (by simp only [stepE] at h; exact h)
  case nilCheck x => exact so_nil hg ht hk (by simp only [stepE] at h; exact h)
  case binOp op t x y t2 => exact so_bin hT hg ht hk (by simp only [stepE] at h; exact h)
  case unOp op t x => exact so_un hg ht hk (by simp only [stepE] at h; exact h)
  case convert s t x => exact so_convert hT hg ht hk (by simp only [stepE] at h; exact h)
  case makeFunc f first caps =>
    cases f <;> try (simp [stepE] at h; done)
    exact so_makeFunc hg ht hk (by simp only [stepE] at h; exact h)
  case makeSlice t x y => exact so_makeSlice (nid := nid) hT hg hb (hn 0 (by simp [newCnt])) ht hk (by simp only [stepE] at h; exact h)
  case slice t x lo hi m => exact so_slice hT hg ht hk (by simp only [stepE] at h; exact h)
  case fieldAddr t x f => exact so_fieldAddr hT hg ht hk (by simp only [stepE] at h; exact h)
  case field t x f => exact so_field hT hg ht hk (by simp only [stepE] at h; exact h)
  case indexAddr t x ix => exact so_indexAddr hT hg ht hk (by simp only [stepE] at h; exact h)
  case index t x ix => exact so_index hT hg ht hk (by simp only [stepE] at h; exact h)
  case extract x i => exact so_extract hg ht hk (by simp only [stepE] at h; exact h)
  case call c =>
    simp only [stepE] at h
    split at h <;> try (cases h; done)
    · rename_i hc
      split at h <;> try (cases h; done)
      rename_i h1 h2
      exact so_len hT hg ht hk hc h1 h2 h
    · rename_i hc
      split at h <;> try (cases h; done)
      rename_i h1 h2
      exact so_append (nid := nid) hT hg hb (hn 0 (by simp [newCnt, hc])) ht hk hc h1 h2 h
    · rename_i hc
      exact so_max hg ht hk hc h
    · rename_i hc
      exact so_min hg ht hk hc h
    · rename_i f hc
      have hf := opnd_rel ht f
      split at h <;> try (cases h; done)
      rename_i g caps e
      split at h <;> try (cases h; done)
      split at h <;> try (cases h; done)
      rename_i hcnt
      rw [e] at hf
      simp only [RelA] at hf
      obtain ⟨vs, hv, hcaps⟩ := hf
      obtain ⟨h1, h2⟩ := so_pure hC hg hb (fun j hj => hn j (by omega)) ((opnds_rel ht c.args.toList).append hcaps) hk h
      unfold Oper.wp
      have hrun : (execOp a.eval (Oper.mk dst (.call c) type pos after guard)).run P C.w = .ok (.enter g ((c.args.toList.map a.eval) ++ vs).toArray) C.w := by
        have : (c.args.map a.eval ++ vs.toArray) = ((c.args.toList.map a.eval) ++ vs).toArray := by
          apply Array.toList_inj.1; simp
        simp only [execOp, resolve, hc, hv, Deferred.ofValue, invoke]
        simp [this, h1]
      rw [hrun, Oper.upon_enter]
      refine h2.mono fun e w' he => ?_
      obtain ⟨v, rfl, hx⟩ := he
      exact hx
end
end Go.Proofs.YtnbaahpbmhhofaaDoor.Fw

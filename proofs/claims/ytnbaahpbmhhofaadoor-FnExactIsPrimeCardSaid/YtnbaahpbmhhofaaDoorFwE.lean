/- One operation of the interpreter is what the machine does: the words for it, and the operations that touch no memory. -/
import Derived.Test.YtnbaahpbmhhofaaDoorFwD
import Derived.ChangeKeysEq
import Derived.Laws.StructEq
import Derived.Laws.OwnMore
import Derived.Laws.CopyRow
import Derived.Laws.Tables
import Derived.ArgAppend
namespace Go.Proofs.YtnbaahpbmhhofaaDoor.Fw
open Go Go.RowKit
set_option linter.unusedVariables false

/-! ### what is asked of the tables -/
def zeroOk : List AV → List Value → Bool
  | [], [] => true
  | .int k n :: r, .int k' n' :: s => decide (k = k') && decide (n = n') && zeroOk r s
  | .bool b :: r, .bool b' :: s => decide (b = b') && zeroOk r s
  | .str b :: r, .string b' :: s => decide (b.data.toList = []) && decide (b'.data.toList = []) && zeroOk r s
  | .zsl :: r, .slice none 0 0 :: s => zeroOk r s
  | .nilp :: r, .pointer none :: s => zeroOk r s
  | .top :: r, v :: s => v.oneCell' && zeroOk r s
  | _, _ => false
def dfltOk : (t : Ty) → List Value → Bool
  | .int k, [.int k' n] => decide (k = k') && decide (n = 0)
  | .bool, [.bool b] => !b
  | .str, [.string b] => decide (b.data.toList = [])
  | .sl _, [.slice none 0 0] => true
  | .pr a b, vs => dfltOk a (vs.take a.size) && dfltOk b (vs.drop a.size)
  | _, _ => false
def undOk (P : Program) (t : TypeId) : TK → Prop
  | .int k => P.underlying t = some (.int k)
  | .bool => P.underlying t = some .bool
  | .slice e => P.underlying t = some (.slice e)
  | .struct l => ∃ fs, P.underlying t = some (.struct fs) ∧ fs.toList.map (fun f => (f.offset, f.type)) = l ∧ (∀ f ∈ fs.toList, (f.name == "_") = false) ∧ P.stoodInHeld t = false
  | .array n e => P.underlying t = some (.array n e)
  | .str => P.underlying t = some .string
  | .other => ∃ d, P.underlying t = some d ∧ (match d with | .struct _ | .array _ _ => true | _ => false) = false
structure TiOk (P : Program) (t : TypeId) (i : TI) : Prop where
  info : ∃ q z, P.info? t = some q ∧ q.size = i.size ∧ q.bytes = i.bytes ∧ q.zero = some z ∧ zeroOk i.zero z.cells.toList = true ∧ z.cells.size = i.size
  und : undOk P t i.k
  one : i.k.isAgg = false → i.size = 1
structure TbOk (P : Program) (T : Tb) : Prop where
  fn : ∀ f x, T.fn f = some x → P.funcs[f]? = some x ∧ (x.name == "runtime.NumGoroutine") = false ∧ x.body.isNone = false
  ty : ∀ t i, T.ty t = some i → TiOk P t i
  dt : ∀ t d, T.dt t = some d → ∃ i q z, T.ty t = some i ∧ i.size = d.size ∧ i.bytes ≤ 128 ∧ i.k.isAgg = d.isPr ∧ P.info? t = some q ∧ q.size = d.size ∧ q.bytes = i.bytes ∧ q.zero = some z ∧ dfltOk d z.cells.toList = true
  mixed : P.follows .mixedOrders = true

theorem Ty.size_pos : ∀ t : Ty, 0 < t.size
  | .int _ => by show 0 < 1; decide
  | .bool => by decide
  | .str => by decide
  | .sl _ => by show 0 < 1; decide
  | .pr a b => by show 0 < a.size + b.size; have := Ty.size_pos a; omega
theorem bytes_nil {b : ByteArray} (h : b.data.toList = []) : b = ⟨#[]⟩ := by
  cases b with
  | mk d => simp only at h; rw [show d = #[] from Array.toList_eq_nil_iff.1 h]
theorem zero_rel (C : Cx) : ∀ {l : List AV} {vs : List Value}, zeroOk l vs = true → RelL C l vs ∧ ∀ u ∈ vs, u.oneCell' = true := by
  intro l
  induction l with
  | nil => intro vs h; cases vs <;> simp_all [zeroOk, RelL]
  | cons x r ih =>
    intro vs h
    cases vs with
    | nil => cases x <;> simp [zeroOk] at h
    | cons v s =>
      have key : zeroOk r s = true → RelA C x v → v.oneCell' = true → RelL C (x :: r) (v :: s) ∧ ∀ u ∈ v :: s, u.oneCell' = true := by
        intro h1 h2 h3
        obtain ⟨h4, h5⟩ := ih h1
        refine ⟨by simp only [RelL]; exact ⟨v, s, rfl, h2, h4⟩, fun u hu => ?_⟩
        rcases List.mem_cons.1 hu with rfl | hu
        · exact h3
        · exact h5 u hu
      cases x <;> try (simp [zeroOk] at h; done)
      case top =>
        have h' : (v.oneCell' && zeroOk r s) = true := by simpa only [zeroOk] using h
        rw [Bool.and_eq_true] at h'
        exact key h'.2 (by simp [RelA]) h'.1
      all_goals cases v <;> try (simp [zeroOk] at h; done)
      all_goals first
        | (simp only [zeroOk, Bool.and_eq_true, decide_eq_true_eq] at h
           obtain ⟨⟨rfl, rfl⟩, h⟩ := h
           exact key h (by simp [RelA]) rfl)
        | (simp only [zeroOk, Bool.and_eq_true, decide_eq_true_eq] at h
           obtain ⟨⟨h1, h2⟩, h⟩ := h
           exact key h (by simp only [RelA]; rw [bytes_nil h1, bytes_nil h2]) rfl)
        | (simp only [zeroOk, Bool.and_eq_true, decide_eq_true_eq] at h
           obtain ⟨rfl, h⟩ := h
           exact key h (by simp [RelA]) rfl)
        | (rename_i A n c
           cases A <;> cases n <;> cases c <;> try (simp [zeroOk] at h; done)
           exact key (by simpa [zeroOk] using h) (by simp only [RelA]; exact ⟨_, rfl⟩) rfl)
        | (rename_i A
           cases A <;> try (simp [zeroOk] at h; done)
           exact key (by simpa [zeroOk] using h) (by simp [RelA]) rfl)
theorem dflt_rel (w : World) : ∀ {t : Ty} {vs : List Value}, dfltOk t vs = true → RelX w t t.dflt vs []
  | .int k, vs, h => by
    match vs, h with
    | [.int k' n], h => simp [dfltOk] at h; obtain ⟨rfl, rfl⟩ := h; simp [RelX, Ty.dflt]
  | .bool, vs, h => by
    match vs, h with
    | [.bool b], h => simp [dfltOk] at h; subst h; simp [RelX, Ty.dflt]
  | .str, vs, h => by
    match vs, h with
    | [.string b], h => simp only [dfltOk, decide_eq_true_eq] at h; simp [RelX, Ty.dflt, bytes_nil h]
  | .sl e, vs, h => by
    match vs, h with
    | [.slice none 0 0], _ => simp only [RelX, Ty.dflt]; exact .inl ⟨trivial, trivial, none, rfl⟩
  | .pr a b, vs, h => by
    simp only [dfltOk, Bool.and_eq_true] at h
    simp only [RelX, Ty.dflt]
    exact ⟨_, _, [], [], (List.take_append_drop a.size vs).symm, rfl, dflt_rel w h.1, dflt_rel w h.2⟩

/-! ### going on behind an operation -/
structure To (base : Nat) (C C' : Cx) : Prop where
  ext : Ext C C'
  size : C.w.heap.size ≤ C'.w.heap.size
  bel : Below base C.w C'.w
  fnew : ∀ b, C'.F b → C.F b ∨ base ≤ b
  gsame : ∀ b, C'.G b → C.G b
theorem To.refl (base : Nat) (C : Cx) : To base C C := ⟨Ext.refl C, Nat.le_refl _, Below.refl _ _, fun _ h => .inl h, fun _ h => h⟩
theorem To.trans {base : Nat} {A B C : Cx} (h : To base A B) (k : To base B C) : To base A C :=
  ⟨Ext.trans (base := base) h.ext k.ext, Nat.le_trans h.size k.size, h.bel.trans k.bel, fun b hb => (k.fnew b hb).elim (h.fnew b) .inr, fun b hb => h.gsame b (k.gsame b hb)⟩
def updU : List (Nat × AO) → (Nat → AO) → Nat → AO
  | [], H => H
  | (o, x) :: u, H => updU u (upd H o x)
/-- What is to be shown behind an operation that told v and u. -/
def Kont (base : Nat) (C : Cx) (a : Act) (dst : Option Tmp) (next : Act → World → Prop) (v : AV) (u : List (Nat × AO)) : Prop :=
  ∀ C' val, Good base C' → To base C C' → C'.H = updU u C.H → RelA C' v val → next (a.put dst val) C'.w

theorem ofVal_rel (C : Cx) (v : Value) : RelA C (ofVal v) v := by
  unfold ofVal
  split <;> simp [RelA]
/-- The temporaries are as told. -/
def Tmps (C : Cx) (tv : Nat → AV) (a : Act) : Prop := ∀ i, RelA C (tv i) (a.tmps.getD i undef)
theorem opnd_rel {C : Cx} {tv : Nat → AV} {a : Act} (ht : Tmps C tv a) (x : Operand) : RelA C (opnd tv x) (a.eval x) := by
  cases x with
  | tmp i => exact ht i
  | const v => exact ofVal_rel C v
  | func f => simp only [opnd, Act.eval, RelA]; exact ⟨[], rfl, by simp [RelL]⟩
  | global g => simp [opnd, RelA, Act.eval]
theorem opnds_rel {C : Cx} {tv : Nat → AV} {a : Act} (ht : Tmps C tv a) : ∀ xs : List Operand, RelL C (xs.map (opnd tv)) (xs.map a.eval)
  | [] => by simp [RelL]
  | x :: r => by simp only [List.map_cons, RelL]; exact ⟨_, _, rfl, opnd_rel ht x, opnds_rel ht r⟩
theorem wp_value {P : Program} {o : Oper} {a : Act} {w w' : World} {v : Value} {next : Act → World → Prop} {Q : Exit → Act → World → Prop}
    (h : (execOp a.eval o).run P w = .ok (.value v) w') (hk : next (a.put o.dst v) w') : o.wp P a w next Q := by
  unfold Oper.wp; rw [h]; exact hk
theorem wp_skipped {P : Program} {o : Oper} {a : Act} {w w' : World} {next : Act → World → Prop} {Q : Exit → Act → World → Prop}
    (h : (execOp a.eval o).run P w = .ok .skip w') (hk : next (a.put o.dst undef) w') : o.wp P a w next Q := by
  unfold Oper.wp; rw [h]; exact hk
theorem wrap_wr (k : IntKind) (n : Int) : k.wrap n = wr k n := (wr_eq k n).symm

theorem testC_some {C : Cx} {α : Type} {c : AV} {v : Value} {x y : Option α} {r : α} (hr : RelA C c v) (h : testC c x y = some r) : ∃ b, v = .bool b ∧ (if b = true then x else y) = some r := by
  unfold testC at h
  split at h
  · simp only [RelA] at hr; exact ⟨_, hr, h⟩
  · rename_i p hp
    simp only [RelA] at hr
    refine ⟨_, hr, ?_⟩
    by_cases hc : p
    · rw [if_pos (decide_eq_true hc)]; rwa [if_pos hc] at h
    · rw [if_neg (by simpa using hc)]; rwa [if_neg hc] at h
  · rename_i p hp
    simp only [RelA] at hr
    refine ⟨_, hr, ?_⟩
    by_cases hc : p
    · rw [if_neg (by simpa using hc)]; rwa [if_pos hc] at h
    · rw [if_pos (by simpa using hc)]; rwa [if_neg hc] at h
  · cases h
theorem testK_some {C : Cx} {α : Type} {c : AV} {v : Value} {x y : Option α} {r : α} (hr : RelA C c v) (h : testK c x y = some r) : ∃ b, v = .bool b ∧ (if b = true then x else y) = some r := by
  unfold testK at h
  split at h
  · simp only [RelA] at hr
    obtain ⟨b, rfl⟩ := hr
    unfold both at h
    split at h
    · rename_i e
      refine ⟨b, rfl, ?_⟩
      cases b
      · rw [if_neg (by simp), ← e]; exact h
      · rw [if_pos rfl]; exact h
    · cases h
  · exact testC_some hr h
theorem boolOf_rel {C : Cx} {x : AV} {v : Value} {b : Bool} (hr : RelA C x v) (h : boolOf x = some b) : v = .bool b := by
  unfold boolOf at h
  split at h
  · cases h; simpa only [RelA] using hr
  · cases h; simpa only [RelA] using hr
  · cases h; simpa only [RelA] using hr
  · cases h

/-! ### numbers -/
theorem int_beq (a b : Int) : (a == b) = decide (a = b) := by
  by_cases h : a = b <;> simp [h]
section
variable {P : Program} {α : Type}
theorem run_arith {op : BinOp} {k : IntKind} {a b : Int} {kk : AV → Option α} {r : α} (h : arithC op k a b kk = some r) (w : World) (C : Cx)
    (hop : op ≠ .shl) (hop2 : op ≠ .shr) (t : TypeId) :
    ∃ x v, kk x = some r ∧ RelA C x v ∧ (binOp op t (.int k a) (.int k b)).run P w = .ok v w := by
  cases op <;> simp only [arithC] at h <;> try (cases h; done)
  all_goals first
    | (exact absurd rfl hop)
    | (exact absurd rfl hop2)
    | (refine ⟨_, _, h, by simp only [RelA]; rfl, ?_⟩; simp [binOp, Op.intArith, wrap_wr]; done)
    | (split at h
       · cases h
       · rename_i hb
         refine ⟨_, _, h, by simp only [RelA]; rfl, ?_⟩
         simp [binOp, Op.intDiv, wrap_wr, hb])
    | (refine ⟨_, _, h, by simp only [RelA]; rfl, ?_⟩; simp [binOp, intBits_and, intBits_or, intBits_xor, intBits_andNot]; done)
    | (refine ⟨_, _, h, by simp only [RelA]; rfl, ?_⟩
       simp [binOp, Op.intCmp, bne, int_beq])
theorem run_bin {op : BinOp} {k k' : IntKind} {a b : Int} {kk : AV → Option α} {r : α} (h : binC op (.int k a) (.int k' b) kk = some r) (w : World) (C : Cx) (t : TypeId) :
    ∃ x v, kk x = some r ∧ RelA C x v ∧ (binOp op t (.int k a) (.int k' b)).run P w = .ok v w := by
  by_cases h1 : op = .shl
  · subst h1
    simp only [binC] at h
    split at h
    · cases h
    · rename_i hb
      refine ⟨_, _, h, by simp only [RelA]; rfl, ?_⟩
      simp [binOp, Op.shift, hb, shl, wrap_wr]
  · by_cases h2 : op = .shr
    · subst h2
      simp only [binC] at h
      split at h
      · cases h
      · rename_i hb
        refine ⟨_, _, h, by simp only [RelA]; rfl, ?_⟩
        have hp : (0 : Int) ≤ 2 ^ min b.toNat k.bits := Int.pow_nonneg (by decide)
        simp [binOp, Op.shift, hb, shr, Int.fdiv_eq_ediv_of_nonneg _ hp]
    · have h' : (if k = k' then arithC op k a b kk else none) = some r := by
        cases op <;> first | exact h | exact absurd rfl h1 | exact absurd rfl h2
      split at h'
      · rename_i e
        subst e
        exact run_arith h' w C h1 h2 t
      · cases h'
end
end Go.Proofs.YtnbaahpbmhhofaaDoor.Fw

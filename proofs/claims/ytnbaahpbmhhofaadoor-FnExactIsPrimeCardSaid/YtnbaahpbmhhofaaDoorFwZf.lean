/- Words for a function's equations: a loop as an iteration, a loop's place in its function. -/
import Derived.Test.YtnbaahpbmhhofaaDoorFwZc
import Derived.ChangeArms
import Derived.WalkKit
import Derived.WideShapes
namespace Go.Proofs.YtnbaahpbmhhofaaDoor.Fw
open Go Go.RowKit
set_option linter.unusedVariables false
set_option linter.unusedSimpArgs false

mutual
/-- A type of the program is a kind of plain data. -/
inductive TyIs (P : Program) : Ty → TypeId → Prop
  | int {k : IntKind} {t : TypeId} : P.underlying t = some (.int k) → TyIs P (.int k) t
  | bool {t : TypeId} : P.underlying t = some .bool → TyIs P .bool t
  | str {t : TypeId} : P.underlying t = some .string → TyIs P .str t
  | sl {e : Ty} {t te : TypeId} : P.underlying t = some (.slice te) → TyIs P e te → P.cellsOf te = e.size → TyIs P (.sl e) t
  | st0 {a b : Ty} {t : TypeId} {fs : Array Field} {f : Field} {r : List Field} : P.underlying t = some (.struct fs) → fs.toList = f :: r → TyIs P a f.type → f.offset = 0 → P.cellsOf f.type = a.size → FsIs P b r a.size → P.cellsOf t = a.size + b.size → TyIs P (.pr a b) t
inductive FsIs (P : Program) : Ty → List Field → Nat → Prop
  | one {a : Ty} {f : Field} {off : Nat} : TyIs P a f.type → f.offset = off → P.cellsOf f.type = a.size → FsIs P a [f] off
  | cons {a b : Ty} {f g : Field} {r : List Field} {off : Nat} : TyIs P a f.type → f.offset = off → P.cellsOf f.type = a.size → FsIs P b (g :: r) (off + a.size) → FsIs P (.pr a b) (f :: g :: r) off
end
/-- What every value of the kind meets. -/
def WfD : (t : Ty) → t.D → Prop
  | .int k, n => (Lit.int k n).wf = true
  | .bool, _ => True
  | .str, s => s.size ≤ maxLen
  | .sl e, l => l.length ≤ maxLen ∧ ∀ x ∈ l, WfD e x
  | .pr a b, d => WfD a d.1 ∧ WfD b d.2
section
variable {H : Type} {enc : TypeId × Value → H} {P : Program} {w : World} {base : Nat} {spare : Nat → Bool} {held : Bool}
theorem choose_list {β γ : Type} {p : Nat → β → γ → Prop} : ∀ {l : List β} {k : Nat}, (∀ i x, l[i]? = some x → ∃ y, p (k + i) x y) → ∃ ys : List γ, ys.length = l.length ∧ ∀ i x y, l[i]? = some x → ys[i]? = some y → p (k + i) x y
  | [], k, h => ⟨[], rfl, fun i x y h => by simp at h⟩
  | a :: r, k, h => by
    obtain ⟨y, hy⟩ := h 0 a rfl
    obtain ⟨ys, h1, h2⟩ := choose_list (p := p) (l := r) (k := k + 1) fun i x hx => by
      have := h (i + 1) x (by simpa using hx)
      rwa [show k + (i + 1) = k + 1 + i by omega] at this
    refine ⟨y :: ys, by simp [h1], fun i x z hx hz => ?_⟩
    cases i with
    | zero => simp at hx hz; subst hx hz; exact hy
    | succ i =>
      have := h2 i x z (by simpa using hx) (by simpa using hz)
      rwa [show k + 1 + i = k + (i + 1) by omega] at this
def inHeap (w : World) (b : Nat) : Prop := b < w.heap.size
mutual
theorem trod_D : ∀ {ty : Ty} {t : TypeId}, TyIs P ty t → ∀ {fuel : Nat} {cs : List Value} {x : DataW H × List MemPlace}, DataW.trod enc P w base spare held fuel t cs = some x → ∃ d : ty.D, RelD (inHeap w) w ty d cs ∧ WfD ty d
  | _, _, .int ht, fuel, cs, x, h => by
    obtain ⟨n, rfl, _, hw⟩ := DataW.trod_int ht h
    exact ⟨n, by simp only [RelD], hw⟩
  | _, _, .bool ht, fuel, cs, x, h => by
    obtain ⟨b, rfl, _⟩ := DataW.trod_bool ht h
    exact ⟨b, by simp only [RelD], trivial⟩
  | _, _, .str ht, fuel, cs, x, h => by
    obtain ⟨s, rfl, _, hw⟩ := DataW.trod_string ht h
    exact ⟨s, by simp only [RelD], hw⟩
  | _, _, .sl (e := e) (te := te) ht he hc, fuel, cs, x, h => by
    rcases DataW.trod_slice ht h with ⟨rfl, _⟩ | ⟨a, len, cap, elems, rest, n, _, rfl, rfl, hb, hl, hm, hlen, hel, _⟩
    · exact ⟨[], by simp only [RelD]; exact ⟨none, 0, rfl, by simp, .inl trivial⟩, by simp [WfD]⟩
    · have each : ∀ i y, elems[i]? = some y → ∃ d : e.D, (∃ cs, RelD (inHeap w) w e d cs ∧ ∀ j u, cs[j]? = some u → w.cell? ((a.add ((0 + i) * e.size)).add j) = some u) ∧ WfD e d := by
        intro i y hy
        have hi : i < len := by rw [← hlen]; exact (List.getElem?_eq_some_iff.1 hy).1
        have := hel i hi
        rw [hy, Option.bind_eq_some_iff] at this
        obtain ⟨cs, h1, h2⟩ := this
        obtain ⟨d, h3, h4⟩ := trod_D he h2
        obtain ⟨_, h5, h6⟩ := World.cells?_some h1
        refine ⟨d, ⟨cs, h3, fun j u hj => ?_⟩, h4⟩
        have hjl : j < P.cellsOf te := by rw [← h5]; exact (List.getElem?_eq_some_iff.1 hj).1
        rw [Nat.zero_add, ← hc, h6 j hjl, hj]
      obtain ⟨l, hll, hp⟩ := choose_list (p := fun i (y : DataW H × List MemPlace) (d : e.D) => (∃ cs, RelD (inHeap w) w e d cs ∧ ∀ j u, cs[j]? = some u → w.cell? ((a.add (i * e.size)).add j) = some u) ∧ WfD e d) (k := 0) each
      have hlen2 : l.length = len := by rw [hll, hlen]
      have at_ : ∀ i (d : e.D), l[i]? = some d → (∃ cs, RelD (inHeap w) w e d cs ∧ ∀ j u, cs[j]? = some u → w.cell? ((a.add (i * e.size)).add j) = some u) ∧ WfD e d := by
        intro i d hd
        have hi : i < elems.length := by rw [← hll]; exact (List.getElem?_eq_some_iff.1 hd).1
        have := hp i _ d (List.getElem?_eq_getElem hi) hd
        rwa [Nat.zero_add] at this
      refine ⟨l, ?_, ?_⟩
      · simp only [RelD]
        refine ⟨some a, cap, by rw [hlen2], by omega, ?_⟩
        by_cases hl0 : l = []
        · exact .inl hl0
        · right
          have hpos : 0 < l.length := List.length_pos_iff.2 hl0
          obtain ⟨⟨cs, h1, h2⟩, _⟩ := at_ 0 _ (List.getElem?_eq_getElem hpos)
          have hcl : cs.length = e.size := h1.len
          have hcpos : 0 < cs.length := by rw [hcl]; exact e.size_pos
          have hcell := h2 0 _ (List.getElem?_eq_getElem hcpos)
          obtain ⟨b, o, sp⟩ := a
          have hsp : sp = none := by
            simp only [Addr.add, World.cell?] at hcell
            cases sp with
            | none => rfl
            | some z => split at hcell <;> simp at hcell
          subst hsp
          refine ⟨b, o, rfl, ?_, fun i d hd => ?_⟩
          · show b < w.heap.size
            rw [addr_add, addr_add] at hcell
            simp only [World.cell?] at hcell
            rcases Nat.lt_or_ge b w.heap.size with h | h
            · exact h
            · rw [Array.getElem?_eq_none h] at hcell; cases hcell
          · obtain ⟨⟨cs, h1, h2⟩, _⟩ := at_ i d hd
            refine ⟨cs, h1, fun j u hj => ?_⟩
            have := h2 j u hj
            rwa [addr_add, addr_add] at this
      · simp only [WfD]
        refine ⟨by omega, fun d hd => ?_⟩
        obtain ⟨i, hi⟩ := List.getElem?_of_mem hd
        exact (at_ i d hi).2
  | _, _, .st0 (a := a) (b := b) (fs := fs) (f := f) (r := r) ht hfs ha h0 hca hb hct, fuel, cs, x, h => by
    obtain ⟨xs, n, _, _, hcs, hxs, hf⟩ := DataW.trod_struct ht h
    have key : ∀ (i : Nat) (g : Field), (f :: r)[i]? = some g → ∃ y, DataW.trod enc P w base spare held n g.type ((cs.drop g.offset).take (P.cellsOf g.type)) = some y := by
      intro i g hg
      have hg' : fs[i]? = some g := by rw [← Array.getElem?_toList, hfs]; exact hg
      rw [hf i g hg']
      have : i < xs.length := by rw [hxs]; exact (Array.getElem?_eq_some_iff.1 hg').1
      exact ⟨_, List.getElem?_eq_getElem this⟩
    obtain ⟨y, hy⟩ := key 0 f rfl
    rw [h0, hca] at hy
    obtain ⟨d1, k1, k2⟩ := trod_D ha hy
    obtain ⟨d2, k3, k4⟩ := trod_Fs hb (cs := cs) (by rw [hcs, hct]) fun i g hg => key (i + 1) g (by simpa using hg)
    exact ⟨(d1, d2), by simp only [RelD]; exact ⟨_, _, (List.take_append_drop a.size cs).symm, by simpa using k1, k3⟩, k2, k4⟩
theorem trod_Fs : ∀ {ty : Ty} {r : List Field} {off : Nat}, FsIs P ty r off → ∀ {n : Nat} {cs : List Value}, cs.length = off + ty.size → (∀ (i : Nat) (g : Field), r[i]? = some g → ∃ y, DataW.trod enc P w base spare held n g.type ((cs.drop g.offset).take (P.cellsOf g.type)) = some y) → ∃ d : ty.D, RelD (inHeap w) w ty d (cs.drop off) ∧ WfD ty d
  | _, _, _, .one (a := a) (f := f) (off := off) ha ho hc, n, cs, hl, key => by
    obtain ⟨y, hy⟩ := key 0 f rfl
    rw [ho, hc] at hy
    obtain ⟨d, h1, h2⟩ := trod_D ha hy
    rw [List.take_of_length_le (by simp; omega)] at h1
    exact ⟨d, h1, h2⟩
  | _, _, _, .cons (a := a) (b := b) (f := f) (off := off) ha ho hc hr, n, cs, hl, key => by
    obtain ⟨y, hy⟩ := key 0 f rfl
    rw [ho, hc] at hy
    obtain ⟨d1, h1, h2⟩ := trod_D ha hy
    obtain ⟨d2, h3, h4⟩ := trod_Fs hr (n := n) (cs := cs) (by rw [hl]; simp only [Ty.size]; omega) fun i g hg => key (i + 1) g (by simpa using hg)
    refine ⟨(d1, d2), ?_, h2, h4⟩
    simp only [RelD]
    refine ⟨_, _, (List.take_append_drop a.size (cs.drop off)).symm, h1, ?_⟩
    rw [List.drop_drop]; exact h3
end
end
end Go.Proofs.YtnbaahpbmhhofaaDoor.Fw

namespace Go.Proofs.YtnbaahpbmhhofaaDoor.Fw
open Go Go.RowKit
set_option linter.unusedVariables false

theorem arg_rel {H : Type} {en : TypeId × Value → H} {P : Program} {W : World} {base : Nat} {spare : Nat → Bool} {held : Bool} {ty : Ty} {t : TypeId} {v : Value} {d : DataW H} {p : List MemPlace} (hy : TyIs P ty t) (hv : VOk ty v)
    (h : DataW.Trod en P W base spare held t v d p) : ∃ x : ty.D, RelA (cx0 (inHeap W) (inHeap W) W) (Fw.enc ty x) v ∧ WfD ty x := by
  obtain ⟨fuel, hf⟩ := h
  obtain ⟨x, h1, h2⟩ := trod_D hy hf
  obtain ⟨h3, h4⟩ := RelD.toAVs (C := cx0 (inHeap W) (inHeap W) W) h1
  exact ⟨x, hv.ofCells h3 (by simpa using h1.len) h4, h2⟩
theorem res_bool {fr : Bool} {F : Nat → Prop} {w : World} {b : Bool} {v : Value} {S : List Nat} (h : ResOk fr F w [.bool] b v S) : v = .bool b := by
  obtain ⟨vs, rfl, h⟩ := h
  have one : ∀ {v : Value}, VOk .bool v → v.cells.toList = [.bool b] → v = .bool b := by
    intro v h1 h2
    unfold VOk at h1
    rw [if_neg (by simp [Ty.isPr])] at h1
    cases v <;> first | (simp [Value.oneCell'] at h1; done) | (simp [Value.cells] at h2; try rw [h2]) 
  split at h
  · simp only [RelRs] at h
    obtain ⟨v, rfl, h1, h2⟩ := h
    simp only [RelX] at h2
    exact one h1 h2.1
  · simp only [RelRs] at h
    obtain ⟨v, rfl, h1, h2, _⟩ := h
    simp only [RelD] at h2
    exact one h1 h2
/-- The law is called, and answers true. -/
theorem law_calls {P : Program} {T : Tb} {f : FuncId} {args : List AV} {vals : List Value} {W : World} {d : DL (T.rs f)} (h : PureOk P T f args d) (hgl : GlOk (inHeap W) W) (hr : RelL (cx0 (inHeap W) (inHeap W) W) args vals) (hrs : ∀ fr F w v S, ResOk fr F w (T.rs f) d v S → v = .bool true) :
    Calls P f vals.toArray W fun e W' => e = .returned (.bool true) ∧ Below W.heap.size W W' := by
  refine (h W (inHeap W) (inHeap W) vals (fun _ h => h) (fun _ h => h) hgl hr).2.mono fun e W' he => ?_
  obtain ⟨v, rfl, bel, F', S, _, _, hres, _⟩ := he
  exact ⟨by rw [hrs _ _ _ _ _ hres], bel⟩
end Go.Proofs.YtnbaahpbmhhofaaDoor.Fw

namespace Go.Proofs.YtnbaahpbmhhofaaDoor.Fw
open Go Go.RowKit
set_option linter.unusedVariables false

/-- At most so many rounds. -/
def iterO {V R : Type} (G : (V → Option R) → V → Option R) : Nat → V → Option R
  | 0, _ => none
  | n + 1, v => G (iterO G n) v
theorem iterO_eq {V R : Type} {L : Nat → V → Option R} {G : (V → Option R) → V → Option R} (h0 : ∀ v, L 0 v = none) (h : ∀ n v, L (n + 1) v = G (L n) v) : ∀ n v, L n v = iterO G n v := by
  intro n
  induction n with
  | zero => intro v; rw [h0]; rfl
  | succ n ih => intro v; rw [h, show L n = iterO G n from funext ih]; rfl
/-- The code at a place: 0 the first or only part, 1 the second. -/
def codeAt : List Nat → Code → Code
  | 0 :: p, .seq a _ => codeAt p a
  | _ :: p, .seq _ b => codeAt p b
  | 0 :: p, .cond _ a _ => codeAt p a
  | _ :: p, .cond _ _ b => codeAt p b
  | _ :: p, .block _ c => codeAt p c
  | _ :: p, .loop c => codeAt p c
  | _, c => c
def opsAt (p : List Nat) (c : Code) : List Oper :=
  match codeAt p c with
  | .region _ ops _ => ops.toList
  | _ => []
section
variable {α : Type}
/-- What follows behind the code at a place. 'ms': for each loop around it, the rounds left and what is done at its head. -/
noncomputable def contAt (T : Tb) (C : Ca T) (fid : FuncId) (r0 n : Nat) : List Nat → List (Nat × (St → St)) → Code → (Ex → St → Option α) → Ex → St → Option α
  | 0 :: p, ms, .seq a b, k => contAt T C fid r0 n p ms a fun e ρ => match e with
    | .normal => exec T C fid r0 n b ρ k
    | e => k e ρ
  | _ :: p, ms, .seq _ b, k => contAt T C fid r0 n p ms b k
  | 0 :: p, ms, .cond _ a _, k => contAt T C fid r0 n p ms a k
  | _ :: p, ms, .cond _ _ b, k => contAt T C fid r0 n p ms b k
  | _ :: p, ms, .block id c, k => contAt T C fid r0 n p ms c fun e ρ => match e with
    | .exit j => if j = id then k .normal ρ else k (.exit j) ρ
    | e => k e ρ
  | _ :: p, m :: ms, .loop c, k => contAt T C fid r0 n p ms c fun e ρ => match e with
    | .normal => loopIt (exec T C fid r0 n c) m.2 k m.1 (m.2 ρ)
    | e => k e ρ
  | _, _, _, k => k
end
def bodyOf (f : Func) : Code := f.body.getD .skip
end Go.Proofs.YtnbaahpbmhhofaaDoor.Fw

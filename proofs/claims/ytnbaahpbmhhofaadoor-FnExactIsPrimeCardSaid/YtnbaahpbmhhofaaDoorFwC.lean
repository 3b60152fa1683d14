/- What the interpreter's values mean in a world, and that it stays so while the world goes on. -/
import Derived.Test.YtnbaahpbmhhofaaDoorFwB
import Derived.Deep.Draws
namespace Go.Proofs.YtnbaahpbmhhofaaDoor.Fw
open Go Go.RowKit
set_option linter.unusedVariables false

/-- Which block an object lies in, which blocks its elements own, which blocks nobody writes (slices' and places'), the world. -/
structure Cx where
  H : Nat → AO
  blk : Nat → Nat
  own : Nat → List Nat
  F : Nat → Prop
  G : Nat → Prop
  w : World

/-! ### plain data in a world -/
/-- Data that lie in cells; their slices in blocks that nobody writes. -/
def RelD (F : Nat → Prop) (w : World) : (t : Ty) → t.D → List Value → Prop
  | .int k, n, vs => vs = [.int k n]
  | .bool, b, vs => vs = [.bool b]
  | .str, s, vs => vs = [.string s]
  | .sl e, l, vs => ∃ A c, vs = [.slice A l.length c] ∧ l.length ≤ c ∧ (l = [] ∨ ∃ b o, A = some ⟨b, o, none⟩ ∧ F b ∧
      ∀ i x, l[i]? = some x → ∃ us, RelD F w e x us ∧ ∀ j u, us[j]? = some u → w.cell? ⟨b, o + i * e.size + j, none⟩ = some u)
  | .pr a b, d, vs => ∃ va vb, vs = va ++ vb ∧ RelD F w a d.1 va ∧ RelD F w b d.2 vb
/-- Data that lie in cells; their slices in blocks of their own, which are told. -/
def RelX (w : World) : (t : Ty) → t.D → List Value → List Nat → Prop
  | .int k, n, vs, S => vs = [.int k n] ∧ S = []
  | .bool, b, vs, S => vs = [.bool b] ∧ S = []
  | .str, s, vs, S => vs = [.string s] ∧ S = []
  | .sl e, l, vs, S => (l = [] ∧ S = [] ∧ ∃ A, vs = [.slice A 0 0]) ∨
      (l ≠ [] ∧ ∃ (b c : Nat) (cs : Array Value) (tid : TypeId) (ss : List (List Nat)), vs = [.slice (some ⟨b, 0, none⟩) l.length c] ∧ l.length ≤ c ∧ w.heap[b]? = some (.cells cs tid (0, 0)) ∧ c * e.size ≤ cs.size ∧ S = b :: ss.flatten ∧ ss.length = l.length ∧
        ∀ i x, l[i]? = some x → ∃ us, RelX w e x us (ss.getD i []) ∧ ∀ j u, us[j]? = some u → cs[i * e.size + j]? = some u)
  | .pr a b, d, vs, S => ∃ va vb Sa Sb, vs = va ++ vb ∧ S = Sa ++ Sb ∧ RelX w a d.1 va Sa ∧ RelX w b d.2 vb Sb

theorem RelD.len {F : Nat → Prop} {w : World} : ∀ {t : Ty} {d : t.D} {vs : List Value}, RelD F w t d vs → vs.length = t.size
  | .int _, _, _, h => by simp only [RelD] at h; subst h; rfl
  | .bool, _, _, h => by simp only [RelD] at h; subst h; rfl
  | .str, _, _, h => by simp only [RelD] at h; subst h; rfl
  | .sl _, _, _, h => by simp only [RelD] at h; obtain ⟨A, c, rfl, _⟩ := h; rfl
  | .pr a b, _, _, h => by
    simp only [RelD] at h; obtain ⟨va, vb, rfl, h1, h2⟩ := h
    simp [Ty.size, RelD.len h1, RelD.len h2]
theorem RelX.len {w : World} : ∀ {t : Ty} {d : t.D} {vs : List Value} {S : List Nat}, RelX w t d vs S → vs.length = t.size
  | .int _, _, _, _, h => by simp only [RelX] at h; obtain ⟨rfl, _⟩ := h; rfl
  | .bool, _, _, _, h => by simp only [RelX] at h; obtain ⟨rfl, _⟩ := h; rfl
  | .str, _, _, _, h => by simp only [RelX] at h; obtain ⟨rfl, _⟩ := h; rfl
  | .sl _, _, _, _, h => by
    simp only [RelX] at h
    rcases h with ⟨_, _, A, rfl⟩ | ⟨_, b, c, cs, tid, ss, rfl, _⟩ <;> rfl
  | .pr a b, _, _, _, h => by
    simp only [RelX] at h; obtain ⟨va, vb, Sa, Sb, rfl, rfl, h1, h2⟩ := h
    simp [Ty.size, RelX.len h1, RelX.len h2]

theorem cell_of_heap {w w' : World} {b : Nat} (h : w'.heap[b]? = w.heap[b]?) (o : Nat) : w'.cell? ⟨b, o, none⟩ = w.cell? ⟨b, o, none⟩ := by
  simp [World.cell?, h]
theorem RelD.mono {F F' : Nat → Prop} {w w' : World} (hF : ∀ b, F b → F' b) (hw : ∀ b, F b → w'.heap[b]? = w.heap[b]?) :
    ∀ {t : Ty} {d : t.D} {vs : List Value}, RelD F w t d vs → RelD F' w' t d vs
  | .int _, _, _, h => by simpa only [RelD] using h
  | .bool, _, _, h => by simpa only [RelD] using h
  | .str, _, _, h => by simpa only [RelD] using h
  | .sl _, _, _, h => by
    simp only [RelD] at h ⊢
    obtain ⟨A, c, rfl, hc, h⟩ := h
    refine ⟨A, c, rfl, hc, ?_⟩
    rcases h with h | ⟨b, o, hA, hb, h⟩
    · exact .inl h
    · refine .inr ⟨b, o, hA, hF b hb, fun i x hx => ?_⟩
      obtain ⟨us, h1, h2⟩ := h i x hx
      exact ⟨us, RelD.mono hF hw h1, fun j u hu => (cell_of_heap (hw b hb) _).trans (h2 j u hu)⟩
  | .pr _ _, _, _, h => by
    simp only [RelD] at h ⊢
    obtain ⟨va, vb, rfl, h1, h2⟩ := h
    exact ⟨va, vb, rfl, RelD.mono hF hw h1, RelD.mono hF hw h2⟩
theorem RelX.mono {w w' : World} : ∀ {t : Ty} {d : t.D} {vs : List Value} {S : List Nat}, (∀ b ∈ S, w'.heap[b]? = w.heap[b]?) → RelX w t d vs S → RelX w' t d vs S
  | .int _, _, _, _, _, h => by simpa only [RelX] using h
  | .bool, _, _, _, _, h => by simpa only [RelX] using h
  | .str, _, _, _, _, h => by simpa only [RelX] using h
  | .sl _, _, _, _, hw, h => by
    simp only [RelX] at h ⊢
    rcases h with h | ⟨hl, b, c, cs, tid, ss, rfl, hc, hb, hcs, rfl, hss, h⟩
    · exact .inl h
    · refine .inr ⟨hl, b, c, cs, tid, ss, rfl, hc, (hw b (by simp)).trans hb, hcs, rfl, hss, fun i x hx => ?_⟩
      obtain ⟨us, h1, h2⟩ := h i x hx
      refine ⟨us, RelX.mono (fun b' hb' => hw b' ?_) h1, h2⟩
      have hi : i < ss.length := by rw [hss]; exact (List.getElem?_eq_some_iff.1 hx).1
      refine List.mem_cons_of_mem _ (List.mem_flatten.2 ⟨ss.getD i [], ?_, hb'⟩)
      rw [List.getD_eq_getElem?_getD, List.getElem?_eq_getElem hi]
      exact List.getElem_mem hi
  | .pr _ _, _, _, _, hw, h => by
    simp only [RelX] at h ⊢
    obtain ⟨va, vb, Sa, Sb, rfl, rfl, h1, h2⟩ := h
    exact ⟨va, vb, Sa, Sb, rfl, rfl, RelX.mono (fun b hb => hw b (List.mem_append.2 (.inl hb))) h1, RelX.mono (fun b hb => hw b (List.mem_append.2 (.inr hb))) h2⟩
theorem cell_of_cells {w : World} {b : Nat} {cs : Array Value} {tid : TypeId} {fz : Nat × Nat} (h : w.heap[b]? = some (.cells cs tid fz)) (o : Nat) : w.cell? ⟨b, o, none⟩ = cs[o]? := by
  simp [World.cell?, h]
theorem getD_mem_flatten {ss : List (List Nat)} {i : Nat} {b : Nat} (h : b ∈ ss.getD i []) : b ∈ ss.flatten := by
  rw [List.getD_eq_getElem?_getD] at h
  cases hi : ss[i]? with
  | none => rw [hi] at h; simp at h
  | some s => rw [hi] at h; exact List.mem_flatten.2 ⟨s, List.mem_of_getElem? hi, h⟩
/-- What owns its blocks can be shown as what nobody writes. -/
theorem RelX.toD {w : World} {F : Nat → Prop} : ∀ {t : Ty} {d : t.D} {vs : List Value} {S : List Nat}, (∀ b ∈ S, F b) → RelX w t d vs S → RelD F w t d vs
  | .int _, _, _, _, _, h => by simp only [RelX] at h; simpa only [RelD] using h.1
  | .bool, _, _, _, _, h => by simp only [RelX] at h; simpa only [RelD] using h.1
  | .str, _, _, _, _, h => by simp only [RelX] at h; simpa only [RelD] using h.1
  | .sl _, _, _, _, hF, h => by
    simp only [RelX] at h
    simp only [RelD]
    rcases h with ⟨rfl, _, A, rfl⟩ | ⟨hl, b, c, cs, tid, ss, rfl, hc, hb, hcs, rfl, hss, h⟩
    · exact ⟨A, 0, rfl, Nat.le_refl _, .inl rfl⟩
    · refine ⟨_, c, rfl, hc, .inr ⟨b, 0, rfl, hF b (by simp), fun i x hx => ?_⟩⟩
      obtain ⟨us, h1, h2⟩ := h i x hx
      refine ⟨us, RelX.toD (fun b' hb' => hF b' (List.mem_cons_of_mem _ (getD_mem_flatten hb'))) h1, fun j u hu => ?_⟩
      rw [cell_of_cells hb, Nat.zero_add]; exact h2 j u hu
  | .pr _ _, _, _, _, hF, h => by
    simp only [RelX] at h
    simp only [RelD]
    obtain ⟨va, vb, Sa, Sb, rfl, rfl, h1, h2⟩ := h
    exact ⟨va, vb, rfl, RelX.toD (fun b hb => hF b (List.mem_append.2 (.inl hb))) h1, RelX.toD (fun b hb => hF b (List.mem_append.2 (.inr hb))) h2⟩
/-- Data without slices own nothing. -/
theorem RelX.flat {w : World} : ∀ {t : Ty} {d : t.D} {vs : List Value} {S : List Nat}, t.flat = true → RelX w t d vs S → S = []
  | .int _, _, _, _, _, h => by simp only [RelX] at h; exact h.2
  | .bool, _, _, _, _, h => by simp only [RelX] at h; exact h.2
  | .str, _, _, _, _, h => by simp only [RelX] at h; exact h.2
  | .sl _, _, _, _, hf, _ => by simp [Ty.flat] at hf
  | .pr _ _, _, _, _, hf, h => by
    simp only [RelX] at h
    simp only [Ty.flat, Bool.and_eq_true] at hf
    obtain ⟨va, vb, Sa, Sb, rfl, rfl, h1, h2⟩ := h
    rw [RelX.flat hf.1 h1, RelX.flat hf.2 h2]; rfl
theorem RelD.flat {F : Nat → Prop} {w : World} (w' : World) : ∀ {t : Ty} {d : t.D} {vs : List Value}, t.flat = true → RelD F w t d vs → RelX w' t d vs []
  | .int _, _, _, _, h => by simp only [RelD] at h; simp only [RelX]; exact ⟨h, trivial⟩
  | .bool, _, _, _, h => by simp only [RelD] at h; simp only [RelX]; exact ⟨h, trivial⟩
  | .str, _, _, _, h => by simp only [RelD] at h; simp only [RelX]; exact ⟨h, trivial⟩
  | .sl _, _, _, hf, _ => by simp [Ty.flat] at hf
  | .pr _ _, _, _, hf, h => by
    simp only [RelD] at h
    simp only [Ty.flat, Bool.and_eq_true] at hf
    obtain ⟨va, vb, rfl, h1, h2⟩ := h
    simp only [RelX]
    exact ⟨va, vb, [], [], rfl, rfl, RelD.flat w' hf.1 h1, RelD.flat w' hf.2 h2⟩

/-! ### values -/
def OwnHdr (C : Cx) (o esz n : Nat) (v : Value) : Prop :=
  (n = 0 ∧ ∃ A, v = .slice A 0 0) ∨ (n ≠ 0 ∧ ∃ (c : Nat) (cs : Array Value) (tid : TypeId), v = .slice (some ⟨C.blk o, 0, none⟩) n c ∧ n ≤ c ∧ C.w.heap[C.blk o]? = some (.cells cs tid (0, 0)) ∧ c * esz ≤ cs.size)
def OslOk (C : Cx) (o ver : Nat) (v : Value) : Prop :=
  (∃ A n c, v = .slice A n c) ∧ match C.H o with
  | .arr t l cur _ => ver < cur ∨ (ver = cur ∧ OwnHdr C o t.size l.length v)
  | .dead => True
  | _ => False
def BptrOk (C : Cx) (o off : Nat) (v : Value) : Prop :=
  (∃ p, v = .pointer p) ∧ match C.H o with
  | .box _ => v = .pointer (some ⟨C.blk o, off, none⟩)
  | .dead => True
  | _ => False
def EptrOk (C : Cx) (o ver i off : Nat) (v : Value) : Prop :=
  (∃ p, v = .pointer p) ∧ match C.H o with
  | .arr t l cur _ => ver < cur ∨ (ver = cur ∧ i < l.length ∧ v = .pointer (some ⟨C.blk o, i * t.size + off, none⟩))
  | .dead => True
  | _ => False
/-- The header of a slice that stands in cell c of element i of object o. -/
def IslOk (C : Cx) (o ver i c : Nat) (v : Value) : Prop :=
  (∃ A n k, v = .slice A n k) ∧ match C.H o with
  | .arr t l cur _ => ver < cur ∨ (ver = cur ∧ 0 < ver ∧ t.flat = false ∧ i < l.length ∧ C.w.cell? ⟨C.blk o, i * t.size + c, none⟩ = some v)
  | .dead => True
  | _ => False
def IptrOk (C : Cx) (o ver i c j : Nat) (v : Value) : Prop :=
  (∃ p, v = .pointer p) ∧ match C.H o with
  | .arr t l cur _ => ver < cur ∨ (ver = cur ∧ 0 < ver ∧ t.flat = false ∧ i < l.length ∧ ∃ b n k, C.w.cell? ⟨C.blk o, i * t.size + c, none⟩ = some (.slice (some ⟨b, 0, none⟩) n k) ∧ j < n ∧ v = .pointer (some ⟨b, j, none⟩))
  | .dead => True
  | _ => False
mutual
def RelA (C : Cx) : AV → Value → Prop
  | .int k n, v => v = .int k n
  | .bool b, v => v = .bool b
  | .dec p h, v => v = .bool (@decide p h)
  | .ndec p h, v => v = .bool (!@decide p h)
  | .anyb, v => ∃ b, v = .bool b
  | .str s, v => v = .string s
  | .sl t l, v => RelD C.F C.w (.sl t) l [v]
  | .zsl, v => ∃ A, v = .slice A 0 0
  | .osl o ver, v => OslOk C o ver v
  | .bptr o off, v => BptrOk C o off v
  | .eptr o ver i off, v => EptrOk C o ver i off v
  | .nilp, v => v = .pointer none
  | .ref cells, v => ∃ b off, v = .pointer (some ⟨b, off, none⟩) ∧ (C.F b ∨ C.G b) ∧ RelR C b cells off
  | .agg cells, v => ∃ vs, v = .agg vs.toArray ∧ (∀ u ∈ vs, u.oneCell' = true) ∧ RelL C cells vs
  | .tup cells, v => ∃ vs, v = .tuple vs.toArray ∧ RelL C cells vs
  | .fn f caps, v => ∃ vs, v = .func (.func f) #[] vs.toArray ∧ RelL C caps vs
  | .mth f o off, v => ∃ p, v = .func (.func f) #[p] #[] ∧ BptrOk C o off p
  | .glb g, v => v = .pointer (some ⟨g, 0, none⟩)
  | .isl o ver i c, v => IslOk C o ver i c v
  | .iptr o ver i c j, v => IptrOk C o ver i c j v
  | .top, _ => True
/-- Lists of values. -/
def RelL (C : Cx) : List AV → List Value → Prop
  | [], vs => vs = []
  | x :: r, vs => ∃ v vr, vs = v :: vr ∧ RelA C x v ∧ RelL C r vr
/-- What stands at a place and behind it. -/
def RelR (C : Cx) (b : Nat) : List AV → Nat → Prop
  | [], _ => True
  | x :: r, off => (∃ u, C.w.cell? ⟨b, off, none⟩ = some u ∧ u.oneCell' = true ∧ RelA C x u) ∧ RelR C b r (off + 1)
end
theorem RelL.len {C : Cx} : ∀ {xs : List AV} {vs : List Value}, RelL C xs vs → xs.length = vs.length
  | [], _, h => by simp only [RelL] at h; subst h; rfl
  | _ :: r, _, h => by
    simp only [RelL] at h
    obtain ⟨v, vr, rfl, _, h⟩ := h
    simp [RelL.len h]
theorem RelL.get {C : Cx} : ∀ {xs : List AV} {vs : List Value} {j : Nat} {x : AV}, RelL C xs vs → xs[j]? = some x → ∃ u, vs[j]? = some u ∧ RelA C x u
  | [], _, _, _, _, hj => by simp at hj
  | _ :: r, _, 0, _, h, hj => by
    simp only [RelL] at h
    obtain ⟨v, vr, rfl, h1, h⟩ := h
    simp at hj; subst hj
    exact ⟨v, rfl, h1⟩
  | _ :: r, _, j + 1, _, h, hj => by
    simp only [RelL] at h
    obtain ⟨v, vr, rfl, h1, h⟩ := h
    have := RelL.get (xs := r) (j := j) h (by simpa using hj)
    simpa using this
theorem RelL.mk {C : Cx} : ∀ {xs : List AV} {vs : List Value}, xs.length = vs.length → (∀ (j : Nat) x u, xs[j]? = some x → vs[j]? = some u → RelA C x u) → RelL C xs vs
  | [], [], _, _ => by simp [RelL]
  | x :: r, v :: s, hl, h => by
    simp only [RelL]
    exact ⟨v, s, rfl, h 0 x v rfl rfl, RelL.mk (by simpa using hl) fun j x u h1 h2 => h (j + 1) x u (by simpa using h1) (by simpa using h2)⟩
theorem RelL.append {C : Cx} : ∀ {xs : List AV} {vs : List Value} {ys : List AV} {us : List Value}, RelL C xs vs → RelL C ys us → RelL C (xs ++ ys) (vs ++ us)
  | [], _, _, _, h, k => by simp only [RelL] at h; subst h; simpa using k
  | x :: r, _, _, _, h, k => by
    simp only [RelL] at h
    obtain ⟨v, vr, rfl, h1, h⟩ := h
    simp only [List.cons_append, RelL]
    exact ⟨v, _, rfl, h1, RelL.append h k⟩
theorem RelL.drop {C : Cx} : ∀ {n : Nat} {xs : List AV} {vs : List Value}, RelL C xs vs → RelL C (xs.drop n) (vs.drop n)
  | 0, _, _, h => by simpa using h
  | n + 1, [], _, h => by simp only [RelL] at h; subst h; simp [RelL]
  | n + 1, x :: r, _, h => by
    simp only [RelL] at h
    obtain ⟨v, vr, rfl, h1, h⟩ := h
    simpa using RelL.drop h
theorem RelL.take {C : Cx} : ∀ {n : Nat} {xs : List AV} {vs : List Value}, RelL C xs vs → RelL C (xs.take n) (vs.take n)
  | 0, _, _, h => by simp [RelL]
  | n + 1, [], _, h => by simp only [RelL] at h; subst h; simp [RelL]
  | n + 1, x :: r, _, h => by
    simp only [RelL] at h
    obtain ⟨v, vr, rfl, h1, h⟩ := h
    simp only [List.take_succ_cons, RelL]
    exact ⟨v, _, rfl, h1, RelL.take h⟩
theorem RelR.get {C : Cx} {b : Nat} : ∀ {cells : List AV} {off j : Nat} {x : AV}, RelR C b cells off → cells[j]? = some x → ∃ u, C.w.cell? ⟨b, off + j, none⟩ = some u ∧ u.oneCell' = true ∧ RelA C x u
  | [], _, _, _, _, hj => by simp at hj
  | _ :: r, off, 0, _, h, hj => by
    simp only [RelR] at h
    simp at hj; subst hj
    exact h.1
  | _ :: r, off, j + 1, _, h, hj => by
    simp only [RelR] at h
    have := RelR.get h.2 (j := j) (by simpa using hj)
    rwa [show off + 1 + j = off + (j + 1) by omega] at this
theorem RelR.mk {C : Cx} {b : Nat} : ∀ {cells : List AV} {off : Nat}, (∀ (j : Nat) x, cells[j]? = some x → ∃ u, C.w.cell? ⟨b, off + j, none⟩ = some u ∧ u.oneCell' = true ∧ RelA C x u) → RelR C b cells off
  | [], _, _ => by simp [RelR]
  | x :: r, off, h => by
    simp only [RelR]
    refine ⟨h 0 x rfl, RelR.mk fun j y hj => ?_⟩
    have := h (j + 1) y (by simpa using hj)
    rwa [show off + (j + 1) = off + 1 + j by omega] at this
theorem RelR.drop {C : Cx} {b : Nat} : ∀ {n : Nat} {cells : List AV} {off : Nat}, RelR C b cells off → RelR C b (cells.drop n) (off + n)
  | 0, _, _, h => by simpa using h
  | n + 1, [], _, _ => by simp [RelR]
  | n + 1, x :: r, off, h => by
    simp only [RelR] at h
    have := RelR.drop (n := n) h.2
    rwa [show off + 1 + n = off + (n + 1) by omega] at this

/-! ### objects -/
/-- The elements of an array, in its block's cells. -/
def ElemsOk (C : Cx) (o : Nat) (t : Ty) (l : List t.D) (dp : Bool) (cs : Array Value) : Prop :=
  if dp = true then ∃ ss : List (List Nat), C.own o = ss.flatten ∧ ss.length = l.length ∧ ∀ i x, l[i]? = some x → ∃ us, RelX C.w t x us (ss.getD i []) ∧ ∀ j u, us[j]? = some u → cs[i * t.size + j]? = some u
  else C.own o = [] ∧ ∀ i x, l[i]? = some x → ∃ us, RelD C.F C.w t x us ∧ ∀ j u, us[j]? = some u → cs[i * t.size + j]? = some u
def ArrOk (C : Cx) (o : Nat) (t : Ty) (l : List t.D) (dp : Bool) : Prop :=
  (l = [] ∧ C.own o = []) ∨ (l ≠ [] ∧ ∃ (cs : Array Value) (tid : TypeId), C.w.heap[C.blk o]? = some (.cells cs tid (0, 0)) ∧ ElemsOk C o t l dp cs)
def ObjOk (C : Cx) (o : Nat) : AO → Prop
  | .box cells => ∃ (cs : Array Value) (tid : TypeId), C.w.heap[C.blk o]? = some (.cells cs tid (0, 0)) ∧ (∀ u ∈ cs.toList, u.oneCell' = true) ∧ RelL C cells cs.toList
  | .arr t l _ dp => ArrOk C o t l dp
  | _ => True
def blks (C : Cx) (o : Nat) : List Nat :=
  match C.H o with
  | .box _ => [C.blk o]
  | .arr _ l _ _ => if l.isEmpty = true then [] else C.blk o :: C.own o
  | _ => []
/-- The package variables hold what is told, and nobody writes them. -/
def GlOk (F : Nat → Prop) (w : World) : Prop := ∀ g k l, glTab g = some (k, l) → F g ∧ ∀ (i : Nat) x, l[i]? = some x → w.cell? ⟨g, i, none⟩ = some (.int k x)
theorem GlOk.mono {F F' : Nat → Prop} {w w' : World} (h : GlOk F w) (hF : ∀ b, F b → F' b) (hw : ∀ b, F b → w'.heap[b]? = w.heap[b]?) : GlOk F' w' := fun g k l hg => by
  obtain ⟨h1, h2⟩ := h g k l hg
  exact ⟨hF g h1, fun i x hx => (cell_of_heap (hw g h1) _).trans (h2 i x hx)⟩
/-- All is well: the objects lie as told, apart from each other and from what nobody writes, from 'base' on. -/
structure Good (base : Nat) (C : Cx) : Prop where
  ob : ∀ o, ObjOk C o (C.H o)
  low : ∀ o b, b ∈ blks C o → base ≤ b ∧ b < C.w.heap.size ∧ ¬ C.F b ∧ ¬ C.G b
  nd : ∀ o, (blks C o).Nodup
  dj : ∀ o p b, o ≠ p → b ∈ blks C o → b ∉ blks C p
  fz : ∀ b, C.F b → b < C.w.heap.size
  gz : ∀ b, C.G b → b < C.w.heap.size
  gl : GlOk C.F C.w

/-! ### going on -/
def ObjExt (C C' : Cx) (o : Nat) : Prop :=
  match C.H o, C'.H o with
  | .hole, _ => True
  | .dead, .dead => True
  | .box _, .box _ => C'.blk o = C.blk o
  | .box _, .dead => True
  | .arr t l ver _, .arr t' l' ver' _ => ver < ver' ∨ (ver = ver' ∧ t'.size = t.size ∧ l'.length = l.length ∧ (l ≠ [] → C'.blk o = C.blk o ∧
      (∀ cs tid, C.w.heap[C.blk o]? = some (.cells cs tid (0, 0)) → ∃ cs', C'.w.heap[C.blk o]? = some (.cells cs' tid (0, 0)) ∧ cs'.size = cs.size) ∧
      (0 < ver → t.flat = false → t'.flat = false ∧ C'.w.heap[C.blk o]? = C.w.heap[C.blk o]?)))
  | .arr _ _ _ _, .dead => True
  | _, _ => False
structure Ext (C C' : Cx) : Prop where
  F : ∀ b, C.F b → C'.F b
  G : ∀ b, C.G b → C'.G b
  heap : ∀ b, C.F b ∨ C.G b → C'.w.heap[b]? = C.w.heap[b]?
  obj : ∀ o, ObjExt C C' o

/-- Package variables stay. -/
theorem Good.glx {base : Nat} {C C' : Cx} (hg : Good base C) (hx : Ext C C') : GlOk C'.F C'.w := hg.gl.mono hx.F fun b hb => hx.heap b (.inl hb)
theorem OwnHdr.mono {C C' : Cx} {o e e' n n' : Nat} {v : Value} (he : e' = e) (hn : n' = n)
    (h : n ≠ 0 → C'.blk o = C.blk o ∧ ∀ cs tid, C.w.heap[C.blk o]? = some (.cells cs tid (0, 0)) → ∃ cs', C'.w.heap[C.blk o]? = some (.cells cs' tid (0, 0)) ∧ cs'.size = cs.size)
    (ho : OwnHdr C o e n v) : OwnHdr C' o e' n' v := by
  subst he hn
  rcases ho with ho | ⟨h0, c, cs, tid, rfl, hc, hb, hs⟩
  · exact .inl ho
  · obtain ⟨h1, h2⟩ := h h0
    obtain ⟨cs', h3, h4⟩ := h2 cs tid hb
    exact .inr ⟨h0, c, cs', tid, by rw [h1], hc, by rw [h1]; exact h3, by omega⟩
theorem OslOk.mono {C C' : Cx} (hx : Ext C C') {o ver : Nat} {v : Value} (h : OslOk C o ver v) : OslOk C' o ver v := by
  have hb := hx.obj o
  simp only [OslOk, ObjExt] at *
  refine ⟨h.1, ?_⟩
  replace h := h.2
  cases h1 : C.H o with
  | hole => rw [h1] at h; exact h.elim
  | box cells => rw [h1] at h; exact h.elim
  | dead =>
    rw [h1] at hb
    cases h2 : C'.H o <;> rw [h2] at hb <;> simp_all
  | arr t l cur dp =>
    rw [h1] at hb h
    cases h2 : C'.H o with
    | hole => rw [h2] at hb; exact hb.elim
    | box cells => rw [h2] at hb; exact hb.elim
    | dead => trivial
    | arr t' l' cur' dp' =>
      rw [h2] at hb
      simp only at h hb ⊢
      rcases hb with hb | ⟨h3, h4, h5, h6⟩
      · rcases h with h | ⟨rfl, _⟩
        · exact .inl (by omega)
        · exact .inl hb
      · rcases h with h | ⟨rfl, h⟩
        · exact .inl (by omega)
        · exact .inr ⟨h3, h.mono h4 h5 (fun hn => by obtain ⟨k1, k2, _⟩ := h6 (by intro e; subst e; exact hn rfl); exact ⟨k1, k2⟩)⟩
theorem BptrOk.mono {C C' : Cx} (hx : Ext C C') {o off : Nat} {v : Value} (h : BptrOk C o off v) : BptrOk C' o off v := by
  have hb := hx.obj o
  simp only [BptrOk, ObjExt] at *
  refine ⟨h.1, ?_⟩
  replace h := h.2
  cases h1 : C.H o with
  | hole => rw [h1] at h; exact h.elim
  | arr => rw [h1] at h; exact h.elim
  | dead =>
    rw [h1] at hb
    cases h2 : C'.H o <;> rw [h2] at hb <;> simp_all
  | box cells =>
    rw [h1] at hb h
    cases h2 : C'.H o <;> rw [h2] at hb <;> simp_all
theorem EptrOk.mono {C C' : Cx} (hx : Ext C C') {o ver i off : Nat} {v : Value} (h : EptrOk C o ver i off v) : EptrOk C' o ver i off v := by
  have hb := hx.obj o
  simp only [EptrOk, ObjExt] at *
  refine ⟨h.1, ?_⟩
  replace h := h.2
  cases h1 : C.H o with
  | hole => rw [h1] at h; exact h.elim
  | box cells => rw [h1] at h; exact h.elim
  | dead =>
    rw [h1] at hb
    cases h2 : C'.H o <;> rw [h2] at hb <;> simp_all
  | arr t l cur dp =>
    rw [h1] at hb h
    cases h2 : C'.H o with
    | hole => rw [h2] at hb; exact hb.elim
    | box cells => rw [h2] at hb; exact hb.elim
    | dead => trivial
    | arr t' l' cur' dp' =>
      rw [h2] at hb
      simp only at h hb ⊢
      rcases hb with hb | ⟨h3, h4, h5, h6⟩
      · rcases h with h | ⟨rfl, _⟩
        · exact .inl (by omega)
        · exact .inl hb
      · rcases h with h | ⟨rfl, hi, h⟩
        · exact .inl (by omega)
        · have hl : l ≠ [] := by intro e; subst e; simp at hi
          exact .inr ⟨h3, by omega, by rw [h, (h6 hl).1, h4]⟩
theorem IslOk.mono {C C' : Cx} (hx : Ext C C') {o ver i c : Nat} {v : Value} (h : IslOk C o ver i c v) : IslOk C' o ver i c v := by
  have hb := hx.obj o
  simp only [IslOk, ObjExt] at *
  refine ⟨h.1, ?_⟩
  replace h := h.2
  cases h1 : C.H o with
  | hole => rw [h1] at h; exact h.elim
  | box cells => rw [h1] at h; exact h.elim
  | dead =>
    rw [h1] at hb
    cases h2 : C'.H o <;> rw [h2] at hb <;> simp_all
  | arr t l cur dp =>
    rw [h1] at hb h
    cases h2 : C'.H o with
    | hole => rw [h2] at hb; exact hb.elim
    | box cells => rw [h2] at hb; exact hb.elim
    | dead => trivial
    | arr t' l' cur' dp' =>
      rw [h2] at hb
      simp only at h hb ⊢
      rcases hb with hb | ⟨h3, h4, h5, h6⟩
      · rcases h with h | ⟨rfl, _⟩
        · exact .inl (by omega)
        · exact .inl hb
      · rcases h with h | ⟨rfl, hp, hf, hi, h⟩
        · exact .inl (by omega)
        · have hl : l ≠ [] := by intro e; subst e; simp at hi
          obtain ⟨k1, _, k3⟩ := h6 hl
          obtain ⟨k4, k5⟩ := k3 hp hf
          exact .inr ⟨h3, hp, k4, by omega, by rw [k1, h4, cell_of_heap k5]; exact h⟩
theorem IptrOk.mono {C C' : Cx} (hx : Ext C C') {o ver i c j : Nat} {v : Value} (h : IptrOk C o ver i c j v) : IptrOk C' o ver i c j v := by
  have hb := hx.obj o
  simp only [IptrOk, ObjExt] at *
  refine ⟨h.1, ?_⟩
  replace h := h.2
  cases h1 : C.H o with
  | hole => rw [h1] at h; exact h.elim
  | box cells => rw [h1] at h; exact h.elim
  | dead =>
    rw [h1] at hb
    cases h2 : C'.H o <;> rw [h2] at hb <;> simp_all
  | arr t l cur dp =>
    rw [h1] at hb h
    cases h2 : C'.H o with
    | hole => rw [h2] at hb; exact hb.elim
    | box cells => rw [h2] at hb; exact hb.elim
    | dead => trivial
    | arr t' l' cur' dp' =>
      rw [h2] at hb
      simp only at h hb ⊢
      rcases hb with hb | ⟨h3, h4, h5, h6⟩
      · rcases h with h | ⟨rfl, _⟩
        · exact .inl (by omega)
        · exact .inl hb
      · rcases h with h | ⟨rfl, hp, hf, hi, b, n, k, h, hj, hv⟩
        · exact .inl (by omega)
        · have hl : l ≠ [] := by intro e; subst e; simp at hi
          obtain ⟨k1, _, k3⟩ := h6 hl
          obtain ⟨k4, k5⟩ := k3 hp hf
          exact .inr ⟨h3, hp, k4, by omega, b, n, k, by rw [k1, h4, cell_of_heap k5]; exact h, hj, hv⟩
mutual
theorem RelA.mono {C C' : Cx} (hx : Ext C C') : ∀ {x : AV} {v : Value}, RelA C x v → RelA C' x v
  | .int _ _, _, h => by simpa only [RelA] using h
  | .bool _, _, h => by simpa only [RelA] using h
  | .dec _ _, _, h => by simpa only [RelA] using h
  | .ndec _ _, _, h => by simpa only [RelA] using h
  | .anyb, _, h => by simpa only [RelA] using h
  | .str _, _, h => by simpa only [RelA] using h
  | .sl _ _, _, h => by simp only [RelA] at h ⊢; exact h.mono hx.F fun b hb => hx.heap b (.inl hb)
  | .zsl, _, h => by simpa only [RelA] using h
  | .osl _ _, _, h => by simp only [RelA] at h ⊢; exact h.mono hx
  | .bptr _ _, _, h => by simp only [RelA] at h ⊢; exact h.mono hx
  | .eptr _ _ _ _, _, h => by simp only [RelA] at h ⊢; exact h.mono hx
  | .nilp, _, h => by simpa only [RelA] using h
  | .ref cells, _, h => by
    simp only [RelA] at h ⊢
    obtain ⟨b, off, rfl, hb, h⟩ := h
    exact ⟨b, off, rfl, hb.imp (hx.F _) (hx.G _), RelR.mono hx hb h⟩
  | .agg cells, _, h => by
    simp only [RelA] at h ⊢
    obtain ⟨vs, rfl, h1, h⟩ := h
    exact ⟨vs, rfl, h1, RelL.mono hx h⟩
  | .tup cells, _, h => by
    simp only [RelA] at h ⊢
    obtain ⟨vs, rfl, h⟩ := h
    exact ⟨vs, rfl, RelL.mono hx h⟩
  | .mth f o off, _, h => by
    simp only [RelA] at h ⊢
    obtain ⟨p, h1, h2⟩ := h
    exact ⟨p, h1, h2.mono hx⟩
  | .glb _, _, h => by simpa only [RelA] using h
  | .isl _ _ _ _, _, h => by simp only [RelA] at h ⊢; exact h.mono hx
  | .iptr _ _ _ _ _, _, h => by simp only [RelA] at h ⊢; exact h.mono hx
  | .fn f caps, _, h => by
    simp only [RelA] at h ⊢
    obtain ⟨vs, rfl, h⟩ := h
    exact ⟨vs, rfl, RelL.mono hx h⟩
  | .top, _, _ => by simp only [RelA]
theorem RelL.mono {C C' : Cx} (hx : Ext C C') : ∀ {xs : List AV} {vs : List Value}, RelL C xs vs → RelL C' xs vs
  | [], _, h => by simpa only [RelL] using h
  | x :: r, _, h => by
    simp only [RelL] at h ⊢
    obtain ⟨v, vr, rfl, h1, h⟩ := h
    exact ⟨v, vr, rfl, RelA.mono hx h1, RelL.mono hx h⟩
theorem RelR.mono {C C' : Cx} (hx : Ext C C') {b : Nat} (hb : C.F b ∨ C.G b) : ∀ {cells : List AV} {off : Nat}, RelR C b cells off → RelR C' b cells off
  | [], _, _ => by simp only [RelR]
  | x :: r, off, h => by
    simp only [RelR] at h ⊢
    obtain ⟨⟨u, h1, h2, h3⟩, h⟩ := h
    exact ⟨⟨u, (cell_of_heap (hx.heap _ hb) _).trans h1, h2, RelA.mono hx h3⟩, RelR.mono hx hb h⟩
end
end Go.Proofs.YtnbaahpbmhhofaaDoor.Fw

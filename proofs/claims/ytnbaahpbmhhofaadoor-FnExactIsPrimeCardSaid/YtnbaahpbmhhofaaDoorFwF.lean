/- One operation of the interpreter is what the machine does: what makes, reads and writes memory. -/
import Derived.Test.YtnbaahpbmhhofaaDoorFwE
namespace Go.Proofs.YtnbaahpbmhhofaaDoor.Fw
open Go Go.RowKit
set_option linter.unusedVariables false

/-! ### cells -/
theorem cellsO_rel {C : Cx} {x : AV} {v : Value} {l : List AV} (hr : RelA C x v) (h : cellsO x = some l) : RelL C l v.cells.toList ∧ ∀ u ∈ v.cells.toList, u.oneCell' = true := by
  have one : ∀ {y : AV} {u : Value}, RelA C y u → u.oneCell' = true → RelL C [y] u.cells.toList ∧ ∀ z ∈ u.cells.toList, z.oneCell' = true := by
    intro y u h1 h2
    have hc : u.cells = #[u] := by cases u <;> first | rfl | simp [Value.oneCell'] at h2
    rw [hc]
    exact ⟨by simp only [RelL]; exact ⟨u, [], rfl, h1, by simp⟩, by simpa using h2⟩
  cases x <;> simp only [cellsO, Option.some.injEq] at h <;> try (cases h; done)
  case agg cells =>
    subst h
    simp only [RelA] at hr
    obtain ⟨vs, rfl, h1, h2⟩ := hr
    simpa [Value.cells] using And.intro h2 h1
  all_goals subst h
  case int => exact one hr (by simp only [RelA] at hr; subst hr; rfl)
  case bool => exact one hr (by simp only [RelA] at hr; subst hr; rfl)
  case dec => exact one hr (by simp only [RelA] at hr; subst hr; rfl)
  case ndec => exact one hr (by simp only [RelA] at hr; subst hr; rfl)
  case anyb => exact one hr (by simp only [RelA] at hr; obtain ⟨b, rfl⟩ := hr; rfl)
  case str => exact one hr (by simp only [RelA] at hr; subst hr; rfl)
  case sl => exact one hr (by simp only [RelA, RelD] at hr; obtain ⟨A, c, h, _⟩ := hr; cases h; rfl)
  case zsl => exact one hr (by simp only [RelA] at hr; obtain ⟨A, rfl⟩ := hr; rfl)
  case osl => exact one hr (by simp only [RelA, OslOk] at hr; obtain ⟨⟨A, n, c, rfl⟩, _⟩ := hr; rfl)
  case bptr => exact one hr (by simp only [RelA, BptrOk] at hr; obtain ⟨⟨p, rfl⟩, _⟩ := hr; rfl)
  case eptr => exact one hr (by simp only [RelA, EptrOk] at hr; obtain ⟨⟨p, rfl⟩, _⟩ := hr; rfl)
  case nilp => exact one hr (by simp only [RelA] at hr; subst hr; rfl)
  case ref => exact one hr (by simp only [RelA] at hr; obtain ⟨b, off, rfl, _⟩ := hr; rfl)
  case mth => exact one hr (by simp only [RelA] at hr; obtain ⟨p, rfl, _⟩ := hr; rfl)
  case glb => exact one hr (by simp only [RelA] at hr; subst hr; rfl)
  case isl => exact one hr (by simp only [RelA, IslOk] at hr; obtain ⟨⟨A, n, c, rfl⟩, _⟩ := hr; rfl)
  case iptr => exact one hr (by simp only [RelA, IptrOk] at hr; obtain ⟨⟨p, rfl⟩, _⟩ := hr; rfl)
  case fn => exact one hr (by simp only [RelA] at hr; obtain ⟨vs, rfl, _⟩ := hr; rfl)
theorem toAVs_len : ∀ (t : Ty) (d : t.D), (toAVs t d).length = t.size
  | .int _, _ => rfl
  | .bool, _ => rfl
  | .str, _ => rfl
  | .sl _, _ => rfl
  | .pr a b, d => by simp [toAVs, Ty.size, toAVs_len a, toAVs_len b]
theorem RelD.toAVs {C : Cx} : ∀ {t : Ty} {d : t.D} {vs : List Value}, RelD C.F C.w t d vs → RelL C (toAVs t d) vs ∧ ∀ u ∈ vs, u.oneCell' = true
  | .int _, _, _, h => by simp only [RelD] at h; subst h; simp [Fw.toAVs, RelL, RelA, Value.oneCell']
  | .bool, _, _, h => by simp only [RelD] at h; subst h; simp [Fw.toAVs, RelL, RelA, Value.oneCell']
  | .str, _, _, h => by simp only [RelD] at h; subst h; simp [Fw.toAVs, RelL, RelA, Value.oneCell']
  | .sl _, _, vs, h => by
    have h' := h
    simp only [RelD] at h
    obtain ⟨A, c, rfl, _⟩ := h
    simp only [Fw.toAVs, RelL, RelA]
    exact ⟨⟨_, _, rfl, h', rfl⟩, by simp [Value.oneCell']⟩
  | .pr _ _, _, _, h => by
    simp only [RelD] at h
    obtain ⟨va, vb, rfl, h1, h2⟩ := h
    obtain ⟨a1, a2⟩ := RelD.toAVs h1
    obtain ⟨b1, b2⟩ := RelD.toAVs h2
    simp only [Fw.toAVs]
    exact ⟨a1.append b1, fun u hu => (List.mem_append.1 hu).elim (a2 u) (b2 u)⟩
theorem RelX.onecell {w : World} : ∀ {t : Ty} {d : t.D} {vs : List Value} {S : List Nat}, RelX w t d vs S → ∀ u ∈ vs, u.oneCell' = true
  | .int _, _, _, _, h => by simp only [RelX] at h; obtain ⟨rfl, _⟩ := h; simp [Value.oneCell']
  | .bool, _, _, _, h => by simp only [RelX] at h; obtain ⟨rfl, _⟩ := h; simp [Value.oneCell']
  | .str, _, _, _, h => by simp only [RelX] at h; obtain ⟨rfl, _⟩ := h; simp [Value.oneCell']
  | .sl _, _, _, _, h => by
    simp only [RelX] at h
    rcases h with ⟨_, _, A, rfl⟩ | ⟨_, b, c, cs, tid, ss, rfl, _⟩ <;> simp [Value.oneCell']
  | .pr _ _, _, _, _, h => by
    simp only [RelX] at h
    obtain ⟨va, vb, Sa, Sb, rfl, rfl, h1, h2⟩ := h
    exact fun u hu => (List.mem_append.1 hu).elim (RelX.onecell h1 u) (RelX.onecell h2 u)
theorem RelD.onecell {F : Nat → Prop} {w : World} : ∀ {t : Ty} {d : t.D} {vs : List Value}, RelD F w t d vs → ∀ u ∈ vs, u.oneCell' = true
  | .int _, _, _, h => by simp only [RelD] at h; subst h; simp [Value.oneCell']
  | .bool, _, _, h => by simp only [RelD] at h; subst h; simp [Value.oneCell']
  | .str, _, _, h => by simp only [RelD] at h; subst h; simp [Value.oneCell']
  | .sl _, _, _, h => by simp only [RelD] at h; obtain ⟨A, c, rfl, _⟩ := h; simp [Value.oneCell']
  | .pr _ _, _, _, h => by
    simp only [RelD] at h
    obtain ⟨va, vb, rfl, h1, h2⟩ := h
    exact fun u hu => (List.mem_append.1 hu).elim (RelD.onecell h1 u) (RelD.onecell h2 u)
theorem RelL.one {C : Cx} {x : AV} {vs : List Value} (h : RelL C [x] vs) : ∃ v, vs = [v] ∧ RelA C x v := by
  simp only [RelL] at h
  obtain ⟨v, vr, rfl, h1, rfl⟩ := h
  exact ⟨v, rfl, h1⟩
theorem toD_rel {C : Cx} : ∀ {t : Ty} {l : List AV} {vs : List Value} {d : t.D}, toD t l = some d → RelL C l vs → RelD C.F C.w t d vs
  | .int k, l, vs, d, h, hr => by
    rcases l with _ | ⟨x, _ | ⟨y, r⟩⟩
    · simp [toD] at h
    · cases x <;> try (simp [toD] at h; done)
      rename_i k' n
      simp only [toD] at h
      split at h
      · rename_i e; subst e; cases h
        obtain ⟨v, rfl, hv⟩ := hr.one
        simp only [RelA] at hv
        simp [RelD, hv]
      · cases h
    · cases x <;> simp [toD] at h
  | .bool, l, vs, d, h, hr => by
    rcases l with _ | ⟨x, _ | ⟨y, r⟩⟩
    · simp [toD] at h
    · simp only [toD] at h
      obtain ⟨v, rfl, hv⟩ := hr.one
      simp [RelD, boolOf_rel hv h]
    · simp [toD] at h
  | .str, l, vs, d, h, hr => by
    rcases l with _ | ⟨x, _ | ⟨y, r⟩⟩
    · simp [toD] at h
    · cases x <;> try (simp [toD] at h; done)
      simp only [toD] at h
      cases h
      obtain ⟨v, rfl, hv⟩ := hr.one
      simp only [RelA] at hv
      simp [RelD, hv]
    · cases x <;> simp [toD] at h
  | .sl e, l, vs, d, h, hr => by
    rcases l with _ | ⟨x, _ | ⟨y, r⟩⟩
    · simp [toD] at h
    · cases x <;> try (simp [toD] at h; done)
      · rename_i e' l'
        simp only [toD] at h
        split at h
        · rename_i he; subst he; cases h
          obtain ⟨v, rfl, hv⟩ := hr.one
          simpa only [RelA] using hv
        · cases h
      · simp only [toD] at h
        cases h
        obtain ⟨v, rfl, hv⟩ := hr.one
        simp only [RelA] at hv
        obtain ⟨A, rfl⟩ := hv
        simp only [RelD]
        exact ⟨A, 0, rfl, Nat.le_refl _, .inl trivial⟩
    · cases x <;> simp [toD] at h
  | .pr a b, l, vs, d, h, hr => by
    simp only [toD] at h
    split at h
    · rename_i x y hx hy
      cases h
      simp only [RelD]
      exact ⟨_, _, (List.take_append_drop a.size vs).symm, toD_rel hx hr.take, toD_rel hy hr.drop⟩
    · cases h

/-- What an array that is ours holds, as data that own their blocks. -/
theorem arr_X {base : Nat} {C : Cx} (hg : Good base C) {o : Nat} {t : Ty} {l : List t.D} {ver : Nat} {v : Value} (hH : C.H o = .arr t l ver true) (hv : OslOk C o ver v) : RelX C.w (.sl t) l [v] (blks C o) := by
  have hb := hg.ob o
  simp only [OslOk, hH] at hv
  obtain ⟨_, hv | ⟨_, hv⟩⟩ := hv
  · omega
  rw [hH] at hb
  simp only [ObjOk, ArrOk] at hb
  simp only [RelX, blks, hH]
  by_cases hl : l = []
  · subst hl
    refine .inl ⟨rfl, by simp, ?_⟩
    rcases hv with ⟨_, A, rfl⟩ | ⟨h0, _⟩
    · exact ⟨A, rfl⟩
    · simp at h0
  · have hne : ¬ (l.isEmpty = true) := by simpa using hl
    rcases hb with hb | ⟨_, cs, tid, hc, he⟩
    · exact absurd hb.1 hl
    · rcases hv with ⟨h0, _⟩ | ⟨_, c, cs', tid', rfl, h1, h2, h3⟩
      · exact absurd (List.eq_nil_of_length_eq_zero h0) hl
      · rw [hc] at h2
        cases h2
        unfold ElemsOk at he
        rw [if_pos rfl] at he
        obtain ⟨ss, h4, h5, h6⟩ := he
        exact .inr ⟨hl, C.blk o, c, cs, tid, ss, rfl, h1, hc, h3, by rw [if_neg hne, h4], h5, h6⟩
/-- .. and of any array: as data that nobody else may write while we look on. -/
theorem arr_D {base : Nat} {C : Cx} (hg : Good base C) {o : Nat} {t : Ty} {l : List t.D} {ver : Nat} {dp : Bool} {v : Value} (hH : C.H o = .arr t l ver dp) (hv : OslOk C o ver v) {F : Nat → Prop} (hF : ∀ b, C.F b → F b) (hB : ∀ b ∈ blks C o, F b) : RelD F C.w (.sl t) l [v] := by
  cases dp with
  | true => exact (arr_X hg hH hv).toD hB
  | false =>
    have hb := hg.ob o
    simp only [OslOk, hH] at hv
    obtain ⟨_, hv | ⟨_, hv⟩⟩ := hv
    · omega
    rw [hH] at hb
    simp only [ObjOk, ArrOk] at hb
    simp only [RelD]
    by_cases hl : l = []
    · subst hl
      rcases hv with ⟨_, A, rfl⟩ | ⟨h0, _⟩
      · exact ⟨A, 0, rfl, Nat.le_refl _, .inl rfl⟩
      · simp at h0
    · have hne : ¬ (l.isEmpty = true) := by simpa using hl
      rcases hb with hb | ⟨_, cs, tid, hc, he⟩
      · exact absurd hb.1 hl
      · rcases hv with ⟨h0, _⟩ | ⟨_, c, cs', tid', rfl, h1, h2, h3⟩
        · exact absurd (List.eq_nil_of_length_eq_zero h0) hl
        · rw [hc] at h2
          cases h2
          unfold ElemsOk at he
          rw [if_neg (by simp)] at he
          refine ⟨_, c, rfl, h1, .inr ⟨C.blk o, 0, rfl, hB _ (by simp only [blks, hH]; rw [if_neg hne]; simp), fun i x hx => ?_⟩⟩
          obtain ⟨us, h4, h5⟩ := he.2 i x hx
          exact ⟨us, h4.mono hF (fun _ _ => rfl), fun j u hu => by rw [cell_of_cells hc, Nat.zero_add]; exact h5 j u hu⟩
theorem toX_rel {base : Nat} {C : Cx} (hg : Good base C) : ∀ {t : Ty} {l : List AV} {vs : List Value} {d : t.D} {ids : List Nat}, toX C.H t l = some (d, ids) → RelL C l vs → RelX C.w t d vs (ids.flatMap (blks C)) ∧ ∀ o ∈ ids, ∃ t l ver dp, C.H o = .arr t l ver dp
  | .int k, l, vs, d, ids, h, hr => by
    rcases l with _ | ⟨x, _ | ⟨y, r⟩⟩
    · simp [toX] at h
    · cases x <;> try (simp [toX] at h; done)
      rename_i k' n
      simp only [toX] at h
      split at h
      · rename_i e; subst e; cases h
        obtain ⟨v, rfl, hv⟩ := hr.one
        simp only [RelA] at hv
        simp [RelX, hv]
      · cases h
    · cases x <;> simp [toX] at h
  | .bool, l, vs, d, ids, h, hr => by
    rcases l with _ | ⟨x, _ | ⟨y, r⟩⟩
    · simp [toX] at h
    · simp only [toX, Option.map_eq_some_iff] at h
      obtain ⟨b, hb, h⟩ := h
      cases h
      obtain ⟨v, rfl, hv⟩ := hr.one
      simp [RelX, boolOf_rel hv hb]
    · simp [toX] at h
  | .str, l, vs, d, ids, h, hr => by
    rcases l with _ | ⟨x, _ | ⟨y, r⟩⟩
    · simp [toX] at h
    · cases x <;> try (simp [toX] at h; done)
      simp only [toX] at h
      cases h
      obtain ⟨v, rfl, hv⟩ := hr.one
      simp only [RelA] at hv
      simp [RelX, hv]
    · cases x <;> simp [toX] at h
  | .sl e, l, vs, d, ids, h, hr => by
    rcases l with _ | ⟨x, _ | ⟨y, r⟩⟩
    · simp [toX] at h
    · cases x <;> try (simp [toX] at h; done)
      · simp only [toX] at h
        cases h
        obtain ⟨v, rfl, hv⟩ := hr.one
        simp only [RelA] at hv
        obtain ⟨A, rfl⟩ := hv
        simp only [RelX]
        exact ⟨.inl ⟨trivial, rfl, A, rfl⟩, by simp⟩
      · rename_i o ver
        simp only [toX] at h
        cases hH : C.H o <;> rw [hH] at h <;> try (simp at h; done)
        rename_i e' l' cur dp
        simp only at h
        split at h <;> try (cases h; done)
        rename_i hd; subst hd
        split at h <;> try (cases h; done)
        rename_i hv'; subst hv'
        split at h <;> try (cases h; done)
        rename_i he; subst he
        cases h
        obtain ⟨v, rfl, hv⟩ := hr.one
        simp only [RelA] at hv
        refine ⟨by simpa using arr_X hg hH hv, ?_⟩
        intro p hp
        simp at hp
        subst hp
        exact ⟨_, _, _, _, hH⟩
    · cases x <;> simp [toX] at h
  | .pr a b, l, vs, d, ids, h, hr => by
    simp only [toX] at h
    split at h
    · rename_i x i y j hx hy
      cases h
      obtain ⟨a1, a2⟩ := toX_rel hg hx hr.take
      obtain ⟨b1, b2⟩ := toX_rel hg hy hr.drop
      simp only [RelX]
      refine ⟨⟨_, _, _, _, (List.take_append_drop a.size vs).symm, by rw [List.flatMap_append], a1, b1⟩, fun o ho => ?_⟩
      rcases List.mem_append.1 ho with h | h
      · exact a2 o h
      · exact b2 o h
    · cases h
end Go.Proofs.YtnbaahpbmhhofaaDoor.Fw

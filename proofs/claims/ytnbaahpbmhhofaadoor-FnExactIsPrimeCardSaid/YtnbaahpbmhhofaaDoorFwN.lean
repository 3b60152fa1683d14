/- One operation of the interpreter is what the machine does: parts of slices; append. -/
import Derived.Test.YtnbaahpbmhhofaaDoorFwM
namespace Go.Proofs.YtnbaahpbmhhofaaDoor.Fw
open Go Go.RowKit
set_option linter.unusedVariables false
set_option linter.unusedSimpArgs false

section
variable {P : Program}
theorem run_bounds {w : World} {len cap : Nat} {low high max : Option Value} {l h m : Nat} (hl : (low = none ∧ l = 0) ∨ ∃ k, low = some (.int k (l : Int))) (hh : (high = none ∧ max = none ∧ h = len) ∨ ∃ k, high = some (.int k (h : Int)))
    (hm : (max = none ∧ m = cap) ∨ ∃ k, max = some (.int k (m : Int))) (h1 : l ≤ h) (h2 : h ≤ m) (h3 : m ≤ cap) : (Instr.sliceBounds true len cap low high max).run P w = .ok (l, h, m) w := by
  have e1 : (h : Int) ≤ (m : Int) := by omega
  have e2 : (l : Int) ≤ (h : Int) := by omega
  have e3 : (m : Int) ≤ (cap : Int) := by omega
  have e4 : (h : Int) ≤ (cap : Int) := by omega
  rcases hl with ⟨rfl, rfl⟩ | ⟨kl, rfl⟩ <;> rcases hh with ⟨rfl, rfl, rfl⟩ | ⟨kh, rfl⟩ <;> rcases hm with ⟨hm1, hm2⟩ | ⟨km, hm1⟩ <;> first | (cases hm1; done) | skip
  all_goals (try subst hm1) <;> (try subst hm2)
  all_goals simp_all [Instr.sliceBounds, Instr.sliceBound, asIntOf]
theorem RelD.part {F : Nat → Prop} {w : World} {e : Ty} {l : List e.D} {A : Option Addr} {c a b m : Nat} (h : RelD F w (.sl e) l [.slice A l.length c]) (h1 : a ≤ b) (h2 : b ≤ l.length) (h3 : b ≤ m) (h4 : m ≤ c) :
    RelD F w (.sl e) ((l.take b).drop a) [.slice (if m = a then A else A.map (·.add (a * e.size))) (b - a) (m - a)] := by
  simp only [RelD] at h ⊢
  obtain ⟨A', c', he, hc, h⟩ := h
  cases he
  have hlen : ((l.take b).drop a).length = b - a := by simp; omega
  refine ⟨_, _, by rw [hlen], by omega, ?_⟩
  by_cases hab : a = b
  · left; apply List.eq_nil_of_length_eq_zero; omega
  · rcases h with h | ⟨bb, o, rfl, hF, h⟩
    · subst h; simp at h2; omega
    · right
      rw [if_neg (by omega)]
      refine ⟨bb, o + a * e.size, by simp [addr_add], hF, fun i x hx => ?_⟩
      rw [List.getElem?_drop, List.getElem?_take] at hx
      split at hx <;> try (cases hx; done)
      obtain ⟨us, u1, u2⟩ := h _ _ hx
      refine ⟨us, u1, fun j u hj => ?_⟩
      have := u2 j u hj
      rwa [show o + (a + i) * e.size + j = o + a * e.size + i * e.size + j by rw [Nat.add_mul]; omega] at this
end

section
variable {P : Program} {T : Tb} {α : Type} {base : Nat} {C : Cx} {a : Act} {tv : Nat → AV} {nid : Nat} {next : Act → World → Prop} {Q : Exit → Act → World → Prop} {r : α} {k : AV → List (Nat × AO) → Option α}
variable {dst : Option Tmp} {type : TypeId} {pos : String} {after : Array Edge} {guard : Option (Nat × Bool)}

theorem bound_some (ht : Tmps C tv a) {o : Option Operand} {d n : Int} (h : bound tv o d = some n) : (o.map a.eval = none ∧ n = d) ∨ ∃ k, o.map a.eval = some (.int k n) := by
  unfold bound at h
  split at h
  · cases h; exact .inl ⟨rfl, rfl⟩
  · rename_i x
    split at h
    · rename_i k' n' e
      cases h
      have := opnd_rel ht x
      rw [e] at this
      simp only [RelA] at this
      exact .inr ⟨k', by simp [this]⟩
    · cases h
theorem so_cut (hT : TbOk P T) (hg : Good base C) (ht : Tmps C tv a) (hk : ∀ v u, k v u = some r → Kont base C a dst next v u) {t se : TypeId} {x : Operand} {lo hi mxo : Option Operand} {o ver : Nat} (hu : P.underlying t = some (.slice se)) (hx : opnd tv x = .osl o ver)
    (h : cutC T tv C.H se o ver lo hi mxo k = some r) : (Oper.mk dst (.slice t x lo hi mxo) type pos after guard).wp P a C.w next Q := by
  have hr := opnd_rel ht x
  rw [hx] at hr
  unfold cutC at h
  split at h <;> try (cases h; done)
  rename_i hh mm
  split at h <;> try (cases h; done)
  rename_i k1 b k2 c e1 e2
  split at h <;> try (cases h; done)
  rename_i d l cur dp hH
  split at h <;> try (cases h; done)
  rename_i hv
  subst hv
  split at h <;> try (cases h; done)
  rename_i hfl
  split at h <;> try (cases h; done)
  rename_i hse
  split at h <;> try (cases h; done)
  rename_i hbc
  subst hbc
  split at h <;> try (cases h; done)
  rename_i h0
  split at h <;> try (cases h; done)
  rename_i hl
  obtain ⟨j, hj, hjs⟩ := Option.map_eq_some_iff.1 hse
  have hsz := run_sizeOf_ti (hT.ty _ _ hj) C.w
  obtain ⟨p, rfl⟩ := Int.eq_ofNat_of_zero_le h0
  have hpl : p ≤ l.length := by omega
  have v1 := opnd_rel ht hh
  have v2 := opnd_rel ht mm
  rw [e1] at v1
  rw [e2] at v2
  simp only [RelA] at v1 v2 hr
  have hob := hg.ob o
  rw [hH] at hob
  simp only [ObjOk, ArrOk] at hob
  simp only [OslOk, hH] at hr
  obtain ⟨_, hr | ⟨_, hr⟩⟩ := hr
  · omega
  have own0 : C.own o = [] := by
    rcases hob with hob | ⟨_, cs, tid, _, hel⟩
    · exact hob.2
    · unfold ElemsOk at hel
      split at hel
      · obtain ⟨ss, s1, s2, s3⟩ := hel
        rw [s1, List.flatten_eq_nil_iff]
        intro S hS
        obtain ⟨i, hi⟩ := List.getElem?_of_mem hS
        have hil : i < l.length := by rw [← s2]; exact (List.getElem?_eq_some_iff.1 hi).1
        obtain ⟨us, u1, _⟩ := s3 i _ (List.getElem?_eq_getElem hil)
        have := u1.flat hfl
        simpa [List.getD_eq_getElem?_getD, hi] using this
      · exact hel.1
  -- the value
  obtain ⟨A, len, cap, hval, hlen, hcap⟩ : ∃ A len cap, a.eval x = .slice A len cap ∧ len = l.length ∧ len ≤ cap := by
    rcases hr with ⟨q, A, hq⟩ | ⟨_, c, cs, tid, hq, q1, _⟩
    · exact ⟨A, 0, 0, hq, q.symm, Nat.le_refl _⟩
    · exact ⟨_, _, c, hq, rfl, q1⟩
  have hb := run_bounds (P := P) (w := C.w) (len := len) (cap := cap) (low := none) (high := some (.int k1 (p : Int))) (max := some (.int k2 (p : Int))) (l := 0) (h := p) (m := p) (.inl ⟨rfl, rfl⟩) (.inr ⟨k1, rfl⟩) (.inr ⟨k2, rfl⟩) (by omega) (Nat.le_refl _) (by omega)
  have hrun : (execOp a.eval (Oper.mk dst (.slice t x none (some hh) (some mm)) type pos after guard)).run P C.w = .ok (.value (.slice (if p = 0 then A else A.map (·.add (0 * d.size))) p p)) C.w := by
    have : (Instr.slice t (.slice A len cap) none (some (.int k1 (p : Int))) (some (.int k2 (p : Int)))).run P C.w = .ok (.slice (if p = 0 then A else A.map (·.add (0 * d.size))) p p) C.w := by
      simp [Instr.slice, run_underlying hu, hb, hsz, hjs]
    simp [execOp, Instr.sliceAt, run_underlying hu, hval, v1, v2, this]
  let C' : Cx := { C with H := upd C.H o (.arr d (l.take p) (cur + 1) dp) }
  have hbk : ∀ q b, b ∈ blks C' q → b ∈ blks C q := by
    intro q b hb'
    by_cases hq : q = o
    · subst hq
      simp only [blks, C', upd_same] at hb'
      split at hb'
      · cases hb'
      · rename_i hne
        simp only [blks, hH]
        have : ¬ (l.isEmpty = true) := by
          intro he
          rw [List.isEmpty_iff] at he
          subst he
          simp at hne
        rw [if_neg this]; exact hb'
    · have hsame : blks C' q = blks C q := blks_same (C := C) (C' := C') (by show upd C.H o _ q = C.H q; exact upd_ne _ _ hq) rfl rfl
      rwa [hsame] at hb'
  have hext : Ext C C' := by
    refine ⟨fun _ h => h, fun _ h => h, fun _ _ => rfl, fun q => ?_⟩
    by_cases hq : q = o
    · subst hq
      simp only [ObjExt, hH, C', upd_same]
      exact .inl (Nat.lt_succ_self _)
    · exact ObjExt.same (by simp [C', upd_ne _ _ hq]) rfl fun _ _ => rfl
  have hgood : Good base C' := by
    refine ⟨fun q => ?_, fun q b hb' => hg.low q b (hbk q b hb'), fun q => ?_, fun q q' b hqq h1 h2 => hg.dj q q' b hqq (hbk q b h1) (hbk q' b h2), hg.fz, hg.gz, hg.gl⟩
    · by_cases hq : q = o
      · subst hq
        show ObjOk _ q (upd C.H q _ q)
        rw [upd_same]
        simp only [ObjOk, ArrOk]
        by_cases hl0 : l.take p = []
        · exact .inl ⟨hl0, own0⟩
        · refine .inr ⟨hl0, ?_⟩
          rcases hob with hob | ⟨_, cs, tid, hc, hel⟩
          · rw [hob.1] at hl0; simp at hl0
          · refine ⟨cs, tid, hc, ?_⟩
            unfold ElemsOk at hel ⊢
            split at hel
            · rename_i hd
              rw [if_pos hd]
              obtain ⟨ss, s1, s2, s3⟩ := hel
              refine ⟨ss.take p, ?_, by simp [s2], fun i y hy => ?_⟩
              · show C.own q = _
                rw [own0]
                symm
                rw [List.flatten_eq_nil_iff]
                intro S hS
                have hS' := List.mem_of_mem_take hS
                rw [own0] at s1
                exact (List.flatten_eq_nil_iff.1 s1.symm) S hS'
              · rw [List.getElem?_take] at hy
                split at hy <;> try (cases hy; done)
                rename_i hip
                obtain ⟨us, u1, u2⟩ := s3 i y hy
                refine ⟨us, ?_, u2⟩
                have : (ss.take p).getD i [] = ss.getD i [] := by simp only [List.getD_eq_getElem?_getD, List.getElem?_take, if_pos hip]
                rw [this]; exact u1
            · rename_i hd
              rw [if_neg hd]
              refine ⟨hel.1, fun i y hy => ?_⟩
              rw [List.getElem?_take] at hy
              split at hy <;> try (cases hy; done)
              exact hel.2 i y hy
      · show ObjOk _ q (upd C.H o _ q)
        rw [upd_ne _ _ hq]
        exact (hg.ob q).same hext rfl rfl rfl fun _ _ => rfl
    · by_cases hq : q = o
      · subst hq
        simp only [blks, C', upd_same]
        split
        · exact List.nodup_nil
        · rename_i hne
          have := hg.nd q
          simp only [blks, hH] at this
          have hne' : ¬ (l.isEmpty = true) := by
            intro he
            rw [List.isEmpty_iff] at he
            subst he
            simp at hne
          rw [if_neg hne'] at this
          exact this
      · have hsame : blks C' q = blks C q := blks_same (C := C) (C' := C') (by show upd C.H o _ q = C.H q; exact upd_ne _ _ hq) rfl rfl
        rw [hsame]; exact hg.nd q
  have := hk _ _ h C' (.slice (if p = 0 then A else A.map (·.add (0 * d.size))) p p) hgood ⟨hext, Nat.le_refl _, Below.refl _ _, fun _ h => .inl h, fun _ h => h⟩ rfl ?_
  · unfold Oper.wp; rw [hrun]; exact this
  · simp only [RelA, OslOk, C', upd_same]
    refine ⟨⟨_, _, _, rfl⟩, .inr ⟨trivial, ?_⟩⟩
    have hlt : (l.take p).length = p := by simp; omega
    rw [hlt]
    by_cases hp0 : p = 0
    · subst hp0
      exact .inl ⟨rfl, _, rfl⟩
    · refine .inr ⟨hp0, ?_⟩
      rcases hr with ⟨q, _⟩ | ⟨_, c, cs, tid, hq, q1, q2, q3⟩
      · omega
      · rw [hval] at hq
        cases hq
        refine ⟨p, cs, tid, ?_, Nat.le_refl _, q2, Nat.le_trans (Nat.mul_le_mul_right _ (by omega)) q3⟩
        rw [if_neg hp0]
        simp [Addr.add]
theorem slice_part (hT : TbOk P T) (ht : Tmps C tv a) {F : Nat → Prop} {t se : TypeId} {x : Operand} {lo hi mxo : Option Operand} {e : Ty} {l : List e.D} (hu : P.underlying t = some (.slice se)) (hse : (T.ty se).map TI.size = some e.size)
    (hmx : ¬ ((mxo.isSome && hi.isNone) = true)) {n1 n2 n3 : Int} (b1 : bound tv lo 0 = some n1) (b2 : bound tv hi (l.length : Int) = some n2) (b3 : bound tv mxo (l.length : Int) = some n3) (c1 : 0 ≤ n1) (c2 : n1 ≤ n2) (c3 : n2 ≤ n3) (c4 : n3 ≤ (l.length : Int))
    (hx : RelD F C.w (.sl e) l [a.eval x]) : ∃ val, (execOp a.eval (Oper.mk dst (.slice t x lo hi mxo) type pos after guard)).run P C.w = .ok (.value val) C.w ∧ RelD F C.w (.sl e) ((l.take n2.toNat).drop n1.toNat) [val] := by
  obtain ⟨j, hj, hjs⟩ := Option.map_eq_some_iff.1 hse
  have hsz := run_sizeOf_ti (hT.ty _ _ hj) C.w
  have d1 := bound_some ht b1
  have d2 := bound_some ht b2
  have d3 := bound_some ht b3
  have hx' := hx
  simp only [RelD] at hx'
  obtain ⟨A, c, hv, hc, _⟩ := hx'
  replace hv := (List.cons.inj hv).1
  rw [hv] at hx
  obtain ⟨p1, rfl⟩ := Int.eq_ofNat_of_zero_le c1
  obtain ⟨p2, rfl⟩ := Int.eq_ofNat_of_zero_le (show 0 ≤ n2 by omega)
  have hfin : ∀ (m : Nat), ((mxo.map a.eval = none ∧ m = c) ∨ ∃ k, mxo.map a.eval = some (.int k (m : Int))) → p2 ≤ m → m ≤ c → ∃ val, (execOp a.eval (Oper.mk dst (.slice t x lo hi mxo) type pos after guard)).run P C.w = .ok (.value val) C.w ∧ RelD F C.w (.sl e) ((l.take ((p2 : Int)).toNat).drop ((p1 : Int)).toNat) [val] := by
    intro m hm hpm hmc
    have hb := run_bounds (P := P) (w := C.w) (len := l.length) (cap := c) (low := lo.map a.eval) (high := hi.map a.eval) (max := mxo.map a.eval) (l := p1) (h := p2) (m := m)
      (by rcases d1 with ⟨q1, q2⟩ | q
          · exact .inl ⟨q1, by omega⟩
          · exact .inr q)
      (by rcases d2 with ⟨q1, q2⟩ | q
          · refine .inl ⟨q1, ?_, by omega⟩
            cases mxo with
            | none => rfl
            | some y => cases hi with
              | none => simp at hmx
              | some z => simp at q1
          · exact .inr q)
      hm (by omega) hpm hmc
    refine ⟨.slice (if m = p1 then A else A.map (·.add (p1 * e.size))) (p2 - p1) (m - p1), ?_, ?_⟩
    · have : (Instr.slice t (.slice A l.length c) (lo.map a.eval) (hi.map a.eval) (mxo.map a.eval)).run P C.w = .ok (.slice (if m = p1 then A else A.map (·.add (p1 * e.size))) (p2 - p1) (m - p1)) C.w := by
        simp [Instr.slice, run_underlying hu, hb, hsz, hjs]
      simp [execOp, Instr.sliceAt, run_underlying hu, hv, this]
    · simp only [Int.toNat_natCast]
      exact RelD.part hx (by omega) (by omega) hpm hmc
  rcases d3 with ⟨q1, q2⟩ | ⟨km, q⟩
  · exact hfin c (.inl ⟨q1, rfl⟩) (by omega) (Nat.le_refl _)
  · obtain ⟨p3, rfl⟩ := Int.eq_ofNat_of_zero_le (show 0 ≤ n3 by omega)
    exact hfin p3 (.inr ⟨km, q⟩) (by omega) (by omega)
theorem To.give (hg : Good base C) (ids : List Nat) : To base C (C.give ids) :=
  ⟨Ext.give hg ids, Nat.le_refl _, Below.refl _ _, fun b h => by
    rcases h with h | ⟨o, _, hb⟩
    · exact .inl h
    · exact .inr (hg.low o b hb).1, fun _ h => h⟩
theorem so_let (hT : TbOk P T) (hg : Good base C) (ht : Tmps C tv a) (hk : ∀ v u, k v u = some r → Kont base C a dst next v u) {t se : TypeId} {x : Operand} {lo hi : Option Operand} {o ver : Nat} (hu : P.underlying t = some (.slice se)) (e2 : opnd tv x = .osl o ver)
    (h : letC T tv C.H se o ver lo hi k = some r) : (Oper.mk dst (.slice t x lo hi none) type pos after guard).wp P a C.w next Q := by
  have hx := opnd_rel ht x
  rw [e2] at hx
  unfold letC at h
  split at h <;> try (cases h; done)
  rename_i d l cur dp hH
  split at h <;> try (cases h; done)
  rename_i hcur
  split at h <;> try (cases h; done)
  rename_i hse
  split at h <;> try (cases h; done)
  rename_i n1 n2 b1 b2
  split at h <;> try (cases h; done)
  rename_i c1
  split at h <;> try (cases h; done)
  rename_i c2
  split at h <;> try (cases h; done)
  rename_i c3
  subst hcur
  simp only [RelA] at hx
  have hD : RelD (C.give [o]).F C.w (.sl d) l [a.eval x] := arr_D hg hH hx (fun b hb => .inl hb) (fun b hb => .inr ⟨o, by simp, hb⟩)
  obtain ⟨val, v1, v2⟩ := slice_part (dst := dst) (type := type) (pos := pos) (after := after) (guard := guard) (mxo := none) hT ht hu hse (by simp) b1 b2 rfl c1 c2 c3 (Int.le_refl _) hD
  have hH' : (C.give [o]).H = updU [(o, .dead)] C.H := by
    funext q
    show (C.drop [o]).H q = _
    simp only [Cx.drop, updU]
    by_cases hq : q = o
    · subst hq
      rw [if_pos (by simp), hH]
      simp [upd]
    · rw [if_neg (by simpa using hq)]
      simp [upd, hq]
  exact wp_value v1 (hk _ _ h (C.give [o]) val (Good.give hg [o]) (To.give hg [o]) hH' (by simp only [RelA]; exact v2))
theorem so_slice (hT : TbOk P T) (hg : Good base C) (ht : Tmps C tv a) (hk : ∀ v u, k v u = some r → Kont base C a dst next v u) {t : TypeId} {x : Operand} {lo hi mxo : Option Operand}
    (h : (match T.ty t, opnd tv x with
    | some ⟨.slice se, _, _, _⟩, .sl e l => if (T.ty se).map TI.size = some e.size then match (if mxo.isSome && hi.isNone then none else bound tv lo 0), bound tv hi (l.length : Int), bound tv mxo (l.length : Int) with
      | some a, some b, some m => if 0 ≤ a then (if a ≤ b then (if b ≤ m then (if m ≤ (l.length : Int) then k (.sl e ((l.take b.toNat).drop a.toNat)) [] else none) else none) else none) else none
      | _, _, _ => none else none
    | some ⟨.slice se, _, _, _⟩, .osl o ver => match mxo with
      | some m => cutC T tv C.H se o ver lo hi (some m) k
      | none => letC T tv C.H se o ver lo hi k
    | _, _ => none) = some r) : (Oper.mk dst (.slice t x lo hi mxo) type pos after guard).wp P a C.w next Q := by
  have hx := opnd_rel ht x
  split at h <;> try (cases h; done)
  rotate_left
  · rename_i se _ _ _ o ver e1 e2
    have hu := (hT.ty _ _ e1).und
    simp only [undOk] at hu
    split at h
    · exact so_cut hT hg ht hk hu e2 h
    · exact so_let hT hg ht hk hu e2 h
  rename_i se _ _ _ e l e1 e2
  have hu := (hT.ty _ _ e1).und
  simp only [undOk] at hu
  split at h <;> try (cases h; done)
  rename_i hse
  split at h <;> try (cases h; done)
  rename_i n1 n2 n3 b1 b2 b3
  split at b1 <;> try (cases b1; done)
  rename_i hmx
  split at h <;> try (cases h; done)
  rename_i c1
  split at h <;> try (cases h; done)
  rename_i c2
  split at h <;> try (cases h; done)
  rename_i c3
  split at h <;> try (cases h; done)
  rename_i c4
  rw [e2] at hx
  simp only [RelA] at hx
  obtain ⟨val, v1, v2⟩ := slice_part (dst := dst) (type := type) (pos := pos) (after := after) (guard := guard) hT ht hu hse hmx b1 b2 b3 c1 c2 c3 c4 hx
  exact wp_value v1 ((hk _ _ h).pure hg (by simp only [RelA]; exact v2))

/-! ### append -/
theorem run_append_room2 {t t2 e e2 : TypeId} {q : TypeInfo} (ht : P.underlying t = some (.slice e)) (ht2 : P.underlying t2 = some (.slice e2)) (hi : P.info? e = some q) {w w' : World} {base : Option Addr} {sLen sCap : Nat} {x : Value} {n c : Nat} {A : Option Addr} (hx : x = .slice A n c) {news : List Value} {ty : TypeId}
    (hroom : sLen + n ≤ sCap) (hf : (Builtin.firstCells q.size n x).run P w = .ok news.toArray w)
    (hst : (match base with | some a => storeCells (a.add (sLen * q.size)) news | none => Pure.pure ()).run P w = .ok () w') :
    (Builtin.append_ #[t, t2] ty #[.slice base sLen sCap, x]).run P w = .ok (.slice base (sLen + n) sCap) w' := by
  subst hx
  cases base with
  | none =>
    simp at hst
    subst hst
    simp [Builtin.append_, run_underlying ht, run_underlying ht2, sizeOf, typeInfo, hi, Builtin.lenOf, hroom, hf]
  | some b => simp [Builtin.append_, run_underlying ht, run_underlying ht2, sizeOf, typeInfo, hi, Builtin.lenOf, hroom, hf, hst]
theorem run_append_grow2 {t t2 e e2 : TypeId} {q : TypeInfo} {z : Value} (ht : P.underlying t = some (.slice e)) (ht2 : P.underlying t2 = some (.slice e2)) (hi : P.info? e = some q) (hz : q.zero = some z) {w : World} {base : Option Addr} {sLen sCap : Nat} {x : Value} {n c : Nat} {A : Option Addr} (hx : x = .slice A n c) {olds news : List Value} {ty : TypeId}
    (hg : sCap < sLen + n) (h63 : sLen + n < 1099511627776) (hby : q.bytes ≤ 128)
    (hfo : (Builtin.firstCells q.size sLen (.slice base sLen sCap)).run P w.drew = .ok olds.toArray w.drew) (hf : (Builtin.firstCells q.size n x).run P w.drew = .ok news.toArray w.drew) :
    (Builtin.append_ #[t, t2] ty #[.slice base sLen sCap, x]).run P w = .ok (.slice (some ⟨w.heap.size, 0, none⟩) (sLen + n) (grownCap w (sLen + n) sCap e))
      (w.drew.alloc (.cells (olds.toArray ++ news.toArray ++ Builtin.zeroCells z.cells (grownCap w (sLen + n) sCap e - (sLen + n))) e)) := by
  subst hx
  have hn : ¬ (sLen + n ≤ sCap) := by omega
  have h63' : ¬ (9223372036854775807 < ((sLen : Int) + (n : Int))) := by omega
  have hfit : Builtin.nextslicecap (sLen + n) sCap * q.bytes ≤ 281474976710656 := by
    have h1 := nextslicecap_le hg
    have h2 : Builtin.nextslicecap (sLen + n) sCap * q.bytes ≤ (2 * (sLen + n)) * 128 := Nat.mul_le_mul h1 hby
    omega
  have h48' : ¬ (281474976710656 < Builtin.nextslicecap (sLen + n) sCap * q.bytes) := by omega
  simp [Builtin.append_, run_underlying ht, run_underlying ht2, sizeOf, typeInfo, zeroValue, hi, hz, Builtin.lenOf, hn, h63', h48', Question.forced, hf, hfo, newRow, grownCap]
  congr 2
  apply Array.ext'
  simp [List.append_assoc]
theorem grownCap_ge (w : World) {need old : Nat} (e : TypeId) : need ≤ grownCap w need old e := by
  show need ≤ need + _
  omega

/-! ### what is appended -/
/-- Elements in a list of cells, theirs or not. -/
def ElemsL (C : Cx) (t : Ty) (l : List t.D) (dp : Bool) (S : List Nat) (cs : List Value) : Prop :=
  if dp = true then ∃ ss : List (List Nat), S = ss.flatten ∧ ss.length = l.length ∧ ∀ i x, l[i]? = some x → ∃ us, RelX C.w t x us (ss.getD i []) ∧ ∀ j u, us[j]? = some u → cs[i * t.size + j]? = some u
  else S = [] ∧ ∀ i x, l[i]? = some x → ∃ us, RelD C.F C.w t x us ∧ ∀ j u, us[j]? = some u → cs[i * t.size + j]? = some u
theorem ElemsL.flat {C : Cx} {t : Ty} {l : List t.D} {dp dp' : Bool} {S : List Nat} {cs : List Value} (hf : t.flat = true) (h : ElemsL C t l dp S cs) : S = [] ∧ ElemsL C t l dp' [] cs := by
  have key : S = [] ∧ ∀ i x, l[i]? = some x → ∃ us, RelX C.w t x us [] ∧ ∀ j u, us[j]? = some u → cs[i * t.size + j]? = some u := by
    unfold ElemsL at h
    split at h
    · obtain ⟨ss, h1, h2, h3⟩ := h
      constructor
      · rw [h1, List.flatten_eq_nil_iff]
        intro s hs
        obtain ⟨m, hm, rfl⟩ := List.mem_iff_getElem.1 hs
        obtain ⟨zs, c1, _⟩ := h3 m _ (List.getElem?_eq_getElem (show m < l.length by omega))
        have := c1.flat hf
        rwa [List.getD_eq_getElem?_getD, List.getElem?_eq_getElem hm] at this
      · intro i x hx
        obtain ⟨us, u1, u2⟩ := h3 i x hx
        rw [u1.flat hf] at u1
        exact ⟨us, u1, u2⟩
    · refine ⟨h.1, fun i x hx => ?_⟩
      obtain ⟨us, u1, u2⟩ := h.2 i x hx
      exact ⟨us, u1.flat _ hf, u2⟩
  refine ⟨key.1, ?_⟩
  unfold ElemsL
  split
  · refine ⟨List.replicate l.length [], by simp, by simp, fun i x hx => ?_⟩
    obtain ⟨us, u1, u2⟩ := key.2 i x hx
    refine ⟨us, ?_, u2⟩
    rw [List.getD_eq_getElem?_getD, List.getElem?_replicate, if_pos (List.getElem?_eq_some_iff.1 hx).1]
    exact u1
  · refine ⟨rfl, fun i x hx => ?_⟩
    obtain ⟨us, u1, u2⟩ := key.2 i x hx
    exact ⟨us, u1.toD (fun b hb => by cases hb), u2⟩
theorem ElemsL.mono {C : Cx} {t : Ty} {l : List t.D} {dp : Bool} {S : List Nat} {cs cs' : List Value} (h : ElemsL C t l dp S cs) (hc : ∀ (j : Nat) u, j < l.length * t.size → cs[j]? = some u → cs'[j]? = some u) : ElemsL C t l dp S cs' := by
  have bd : ∀ {i j : Nat} {x : t.D} {us : List Value} {u : Value}, l[i]? = some x → us.length = t.size → us[j]? = some u → i * t.size + j < l.length * t.size := by
    intro i j x us u hi hl hj
    have h1 : i < l.length := (List.getElem?_eq_some_iff.1 hi).1
    have h2 : j < us.length := (List.getElem?_eq_some_iff.1 hj).1
    have : (i + 1) * t.size ≤ l.length * t.size := Nat.mul_le_mul_right _ h1
    rw [Nat.add_mul] at this; omega
  unfold ElemsL at h ⊢
  split at h
  · rename_i hd
    rw [if_pos hd]
    obtain ⟨ss, h1, h2, h3⟩ := h
    refine ⟨ss, h1, h2, fun i x hx => ?_⟩
    obtain ⟨us, u1, u2⟩ := h3 i x hx
    exact ⟨us, u1, fun j u hj => hc _ _ (bd hx u1.len hj) (u2 j u hj)⟩
  · rename_i hd
    rw [if_neg hd]
    refine ⟨h.1, fun i x hx => ?_⟩
    obtain ⟨us, u1, u2⟩ := h.2 i x hx
    exact ⟨us, u1, fun j u hj => hc _ _ (bd hx u1.len hj) (u2 j u hj)⟩
theorem ElemsL.append {C : Cx} {t : Ty} {l m : List t.D} {dp : Bool} {S S' : List Nat} {cs ds : List Value} (h : ElemsL C t l dp S cs) (k : ElemsL C t m dp S' ds) (hl : cs.length = l.length * t.size) : ElemsL C t (l ++ m) dp (S ++ S') (cs ++ ds) := by
  unfold ElemsL at h k ⊢
  have put : ∀ {i : Nat} {x : t.D} {P : Nat → List Value → Prop}, (l ++ m)[i]? = some x → (∀ i x, l[i]? = some x → ∃ us, P i us ∧ us.length = t.size ∧ ∀ j u, us[j]? = some u → cs[i * t.size + j]? = some u) → True := fun _ _ => trivial
  have left : ∀ {i j : Nat} {us : List Value} {u : Value}, i < l.length → us.length = t.size → us[j]? = some u → cs[i * t.size + j]? = some u → (cs ++ ds)[i * t.size + j]? = some u := by
    intro i j us u hi hz hj hc
    rw [List.getElem?_append_left (List.getElem?_eq_some_iff.1 hc).1]; exact hc
  have right : ∀ {i j : Nat} {u : Value}, ds[i * t.size + j]? = some u → (cs ++ ds)[(l.length + i) * t.size + j]? = some u := by
    intro i j u hc
    rw [List.getElem?_append_right (by rw [hl, Nat.add_mul]; omega), hl, show (l.length + i) * t.size + j - l.length * t.size = i * t.size + j by rw [Nat.add_mul]; omega]
    exact hc
  split at h
  · rename_i hd
    rw [if_pos hd] at k ⊢
    obtain ⟨ss, h1, h2, h3⟩ := h
    obtain ⟨rr, k1, k2, k3⟩ := k
    refine ⟨ss ++ rr, by rw [h1, k1, List.flatten_append], by simp [h2, k2], fun i x hx => ?_⟩
    by_cases hi : i < l.length
    · rw [List.getElem?_append_left hi] at hx
      obtain ⟨us, u1, u2⟩ := h3 i x hx
      refine ⟨us, ?_, fun j u hj => left hi u1.len hj (u2 j u hj)⟩
      rw [List.getD_eq_getElem?_getD, List.getElem?_append_left (by omega), ← List.getD_eq_getElem?_getD]; exact u1
    · obtain ⟨d, rfl⟩ : ∃ d, i = l.length + d := ⟨i - l.length, by omega⟩
      rw [List.getElem?_append_right (by omega), show l.length + d - l.length = d by omega] at hx
      obtain ⟨us, u1, u2⟩ := k3 d x hx
      refine ⟨us, ?_, fun j u hj => right (u2 j u hj)⟩
      rw [List.getD_eq_getElem?_getD, List.getElem?_append_right (by omega), show l.length + d - ss.length = d by omega, ← List.getD_eq_getElem?_getD]; exact u1
  · rename_i hd
    rw [if_neg hd] at k ⊢
    refine ⟨by rw [h.1, k.1]; rfl, fun i x hx => ?_⟩
    by_cases hi : i < l.length
    · rw [List.getElem?_append_left hi] at hx
      obtain ⟨us, u1, u2⟩ := h.2 i x hx
      exact ⟨us, u1, fun j u hj => left hi u1.len hj (u2 j u hj)⟩
    · obtain ⟨d, rfl⟩ : ∃ d, i = l.length + d := ⟨i - l.length, by omega⟩
      rw [List.getElem?_append_right (by omega), show l.length + d - l.length = d by omega] at hx
      obtain ⟨us, u1, u2⟩ := k.2 d x hx
      exact ⟨us, u1, fun j u hj => right (u2 j u hj)⟩
theorem ElemsL.ofIn {C : Cx} {t : Ty} {l : List t.D} {dp : Bool} {S : List Nat} {cs : Array Value} (h : ElemsL C t l dp S cs.toList) : ElemsIn C t l dp S cs := by
  unfold ElemsL at h
  unfold ElemsIn
  simpa using h
/-- An array that is ours: its header, its elements' cells. -/
theorem arr_L (hg : Good base C) {o : Nat} {t : Ty} {l : List t.D} {ver : Nat} {dp : Bool} {v : Value} (hH : C.H o = .arr t l ver dp) (hv : OslOk C o ver v) :
    ∃ A c cs, v = .slice A l.length c ∧ l.length ≤ c ∧ cs.length = l.length * t.size ∧ ElemsL C t l dp (C.own o) cs ∧ (∀ u ∈ cs, u.oneCell' = true) ∧ ((l = [] ∧ c = 0 ∧ cs = []) ∨ (l ≠ [] ∧ A = some ⟨C.blk o, 0, none⟩ ∧
      ∃ full tid, C.w.heap[C.blk o]? = some (.cells full tid (0, 0)) ∧ c * t.size ≤ full.size ∧ full.toList.take (l.length * t.size) = cs)) := by
  have hb := hg.ob o
  simp only [OslOk, hH] at hv
  obtain ⟨_, hv | ⟨_, hv⟩⟩ := hv
  · omega
  rw [hH] at hb
  simp only [ObjOk, ArrOk] at hb
  by_cases hl : l = []
  · subst hl
    rcases hb with hb | hb
    · rcases hv with ⟨_, A, rfl⟩ | ⟨h0, _⟩
      · refine ⟨A, 0, [], rfl, Nat.le_refl _, by simp, ?_, by simp, .inl ⟨rfl, rfl, rfl⟩⟩
        unfold ElemsL
        rw [hb.2]
        split
        · exact ⟨[], rfl, rfl, fun i x hx => by simp at hx⟩
        · exact ⟨rfl, fun i x hx => by simp at hx⟩
      · simp at h0
    · exact absurd rfl hb.1
  · rcases hb with hb | ⟨_, full, tid, hc, he⟩
    · exact absurd hb.1 hl
    rcases hv with ⟨h0, _⟩ | ⟨_, c, cs', tid', rfl, h1, h2, h3⟩
    · exact absurd (List.eq_nil_of_length_eq_zero h0) hl
    rw [hc] at h2
    cases h2
    have hroom : l.length * t.size ≤ full.size := Nat.le_trans (Nat.mul_le_mul_right _ h1) h3
    have hel : ElemsL C t l dp (C.own o) full.toList := by
      unfold ElemsOk at he
      unfold ElemsL
      simpa using he
    have hel2 := hel.mono (cs' := full.toList.take (l.length * t.size)) (fun j u hj hu => by rw [List.getElem?_take, if_pos hj]; exact hu)
    refine ⟨_, c, _, rfl, h1, by simp; omega, hel2, ?_, .inr ⟨hl, rfl, full, tid, hc, h3, rfl⟩⟩
    intro u hu
    obtain ⟨m, hm, rfl⟩ := List.mem_iff_getElem.1 hu
    have hm' : m < l.length * t.size := by simp at hm; omega
    have hp := t.size_pos
    have hi : m / t.size < l.length := Nat.div_lt_of_lt_mul (by rw [Nat.mul_comm]; exact hm')
    have hmod : m % t.size < t.size := Nat.mod_lt _ hp
    have hdm : m / t.size * t.size + m % t.size = m := by rw [Nat.mul_comm]; exact Nat.div_add_mod m t.size
    have get : ∀ {us : List Value}, us.length = t.size → (∀ u ∈ us, u.oneCell' = true) → (∀ j u, us[j]? = some u → (full.toList.take (l.length * t.size))[m / t.size * t.size + j]? = some u) → ((full.toList.take (l.length * t.size))[m]).oneCell' = true := by
      intro us hz h1c hget
      have := hget (m % t.size) _ (List.getElem?_eq_getElem (by omega))
      rw [hdm, List.getElem?_eq_getElem hm] at this
      rw [Option.some.inj this]
      exact h1c _ (List.getElem_mem _)
    unfold ElemsL at hel2
    split at hel2
    · obtain ⟨ss, _, _, e3⟩ := hel2
      obtain ⟨us, u1, u2⟩ := e3 _ _ (List.getElem?_eq_getElem hi)
      exact get u1.len u1.onecell u2
    · obtain ⟨us, u1, u2⟩ := hel2.2 _ _ (List.getElem?_eq_getElem hi)
      exact get u1.len u1.onecell u2
end
end Go.Proofs.YtnbaahpbmhhofaaDoor.Fw

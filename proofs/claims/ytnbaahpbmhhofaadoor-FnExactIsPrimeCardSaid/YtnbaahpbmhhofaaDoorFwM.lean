/- One operation of the interpreter is what the machine does: elements, lengths, parts of slices. -/
import Derived.Test.YtnbaahpbmhhofaaDoorFwL
import Derived.Laws.Strings
namespace Go.Proofs.YtnbaahpbmhhofaaDoor.Fw
open Go Go.RowKit
set_option linter.unusedVariables false
set_option linter.unusedSimpArgs false

theorem inC_some {α : Type} {i n : Int} {x : Option α} {r : α} (h : inC i n x = some r) : 0 ≤ i ∧ i < n ∧ x = some r := by
  unfold inC at h
  split at h
  · split at h
    · exact ⟨by assumption, by assumption, h⟩
    · cases h
  · cases h
section
variable {P : Program} {T : Tb} {α : Type} {base : Nat} {C : Cx} {a : Act} {tv : Nat → AV} {nid : Nat} {next : Act → World → Prop} {Q : Exit → Act → World → Prop} {r : α} {k : AV → List (Nat × AO) → Option α}
variable {dst : Option Tmp} {type : TypeId} {pos : String} {after : Array Edge} {guard : Option (Nat × Bool)}

theorem run_indexAt_sl {t e : TypeId} (hu : P.underlying t = some (.slice e)) {w : World} {size : Nat} (hs : (sizeOf e).run P w = .ok size w) {b o len cap : Nat} {ki : IntKind} {i : Int} (h0 : 0 ≤ i) (h1 : i < (len : Int)) :
    (Instr.indexAt t (.slice (some ⟨b, o, none⟩) len cap) (.int ki i)).run P w = .ok (.pointer (some ⟨b, o + i.toNat * size, none⟩)) w := by
  simp [Instr.indexAt, asIntOf, run_underlying hu, h0, h1, hs, addr_add]
theorem run_indexAt_arr {t e : TypeId} {n : Nat} (hu : P.underlying t = some (.array n e)) {w : World} {size : Nat} (hs : (sizeOf e).run P w = .ok size w) {ad : Addr} {ki : IntKind} {i : Int} (h0 : 0 ≤ i) (h1 : i < (n : Int)) :
    (Instr.indexAt t (.pointer (some ad)) (.int ki i)).run P w = .ok (.pointer (some (ad.add (i.toNat * size)))) w := by
  simp [Instr.indexAt, asIntOf, run_underlying hu, Instr.sureAddr, h0, h1, hs]
theorem so_glb (hT : TbOk P T) (hg : Good base C) (hk : ∀ v u, k v u = some r → Kont base C a dst next v u) {t e : TypeId} {x ix : Operand} {n g : Nat} {ki : IntKind} {i : Int} (hu : P.underlying t = some (.array n e)) (hx : RelA C (.glb g) (a.eval x)) (hi : a.eval ix = .int ki i)
    (h : glbC T g n e i k = some r) : (Oper.mk dst (.indexAddr t x ix) type pos after guard).wp P a C.w next Q := by
  unfold glbC at h
  split at h <;> try (cases h; done)
  rename_i kd _ _ k' l hj hgt
  split at h <;> try (cases h; done)
  rename_i hkk
  subst hkk
  split at h <;> try (cases h; done)
  rename_i hln
  obtain ⟨h0, h1, h⟩ := inC_some h
  have htj := hT.ty _ _ hj
  have hsz := run_sizeOf_ti htj C.w
  simp only [RelA] at hx
  obtain ⟨hF, hel⟩ := hg.gl g k' l hgt
  refine wp_value (w' := C.w) (v := .pointer (some ⟨g, 0 + i.toNat * 1, none⟩)) (by simp [execOp, hx, hi, run_indexAt_arr hu hsz h0 h1, addr_add]) ((hk _ _ h).pure hg ?_)
  simp only [RelA]
  refine ⟨g, _, rfl, .inl hF, ?_⟩
  have hlt : i.toNat < l.length := by omega
  simp only [RelR]
  refine ⟨⟨.int k' (rd l i), ?_, rfl, by simp only [RelA]⟩, trivial⟩
  rw [Nat.zero_add, Nat.mul_one]
  refine hel _ _ ?_
  unfold rd
  rw [List.getD_eq_getElem?_getD, List.getElem?_eq_getElem hlt]; rfl
/-- The slice that stands in a cell of an element of ours. -/
theorem isl_facts (hg : Good base C) {o ver i c : Nat} {v : Value} {t : Ty} {l : List t.D} {kk : IntKind} {m : List Int} (hH : C.H o = .arr t l ver true) (hr : IslOk C o ver i c v) (hs : slAt t c (l.getD i t.dflt) = some (kk, m)) :
    0 < ver ∧ t.flat = false ∧ i < l.length ∧ C.w.cell? ⟨C.blk o, i * t.size + c, none⟩ = some v ∧ ((m = [] ∧ ∃ A, v = .slice A 0 0) ∨ ∃ b cap, v = .slice (some ⟨b, 0, none⟩) m.length cap) := by
  simp only [IslOk, hH] at hr
  obtain ⟨_, hr | ⟨_, hp, hf, hi, hcell⟩⟩ := hr
  · omega
  have hl : l ≠ [] := by intro e; subst e; simp at hi
  have hob := hg.ob o
  rw [hH] at hob
  simp only [ObjOk, ArrOk] at hob
  rcases hob with hob | ⟨_, cs, tid, hc, hel⟩
  · exact absurd hob.1 hl
  unfold ElemsOk at hel
  rw [if_pos rfl] at hel
  obtain ⟨ss, s1, s2, s3⟩ := hel
  have hgd : l.getD i t.dflt = l[i] := by rw [List.getD_eq_getElem?_getD, List.getElem?_eq_getElem hi]; rfl
  rw [hgd] at hs
  obtain ⟨us, u1, u2⟩ := s3 i _ (List.getElem?_eq_getElem hi)
  obtain ⟨v', v1, v2⟩ := u1.slAt hs
  have hv := u2 c v' v1
  have hcell' := hcell
  rw [cell_of_cells hc, hv] at hcell
  cases hcell
  refine ⟨hp, hf, hi, hcell', v2.imp id ?_⟩
  rintro ⟨_, b, cap, _, _, e, _⟩
  exact ⟨b, cap, e⟩
theorem so_isl (hT : TbOk P T) (hg : Good base C) (hk : ∀ v u, k v u = some r → Kont base C a dst next v u) {t e : TypeId} {ti : TI} {x ix : Operand} {o ver m c : Nat} {ki : IntKind} {i : Int} (hu : P.underlying t = some (.slice e)) (hti : TiOk P e ti) (hx : RelA C (.isl o ver m c) (a.eval x)) (hi : a.eval ix = .int ki i)
    (h : islC C.H ti.size o ver m c i k = some r) : (Oper.mk dst (.indexAddr t x ix) type pos after guard).wp P a C.w next Q := by
  have hsz := run_sizeOf_ti hti C.w
  unfold islC at h
  split at h <;> try (cases h; done)
  rename_i T' l cur dp hH
  split at h <;> try (cases h; done)
  rename_i hv
  subst hv
  split at h <;> try (cases h; done)
  rename_i hd
  subst hd
  split at h <;> try (cases h; done)
  rename_i hs1
  split at h <;> try (cases h; done)
  rename_i kk ml hs
  obtain ⟨h0, h1, h⟩ := inC_some h
  simp only [RelA] at hx
  obtain ⟨hp, hf, hlt, hcell, hv⟩ := isl_facts hg hH hx hs
  rcases hv with ⟨hm, _⟩ | ⟨b, cap, hv⟩
  · subst hm; simp at h1; omega
  rw [hv] at hcell
  refine wp_value (w' := C.w) (v := .pointer (some ⟨b, 0 + i.toNat * ti.size, none⟩)) (by simp [execOp, hv, hi, run_indexAt_sl hu hsz h0 h1]) ((hk _ _ h).pure hg ?_)
  simp only [RelA, IptrOk, hH]
  exact ⟨⟨_, rfl⟩, .inr ⟨trivial, hp, hf, hlt, b, _, _, hcell, by omega, by rw [hs1]; simp⟩⟩
theorem so_indexAddr (hT : TbOk P T) (hg : Good base C) (ht : Tmps C tv a) (hk : ∀ v u, k v u = some r → Kont base C a dst next v u) {t : TypeId} {x ix : Operand}
    (h : (match T.ty t, opnd tv ix with
    | some ⟨.slice e, _, _, _⟩, .int _ i => match T.ty e with
      | some j => match opnd tv x with
        | .sl d l => if j.size = d.size then inC i (l.length : Int) (k (.ref (toAVs d (l.getD i.toNat d.dflt))) []) else none
        | .osl o ver => match C.H o with
          | .arr d l cur _ => if cur = ver then (if j.size = d.size then inC i (l.length : Int) (k (.eptr o ver i.toNat 0) []) else none) else none
          | _ => none
        | .isl o ver m c => islC C.H j.size o ver m c i k
        | _ => none
      | none => none
    | some ⟨.array n e, _, _, _⟩, .int _ i => match opnd tv x with
      | .glb g => glbC T g n e i k
      | _ => none
    | _, _ => none) = some r) : (Oper.mk dst (.indexAddr t x ix) type pos after guard).wp P a C.w next Q := by
  have hx := opnd_rel ht x
  have hi := opnd_rel ht ix
  split at h <;> try (cases h; done)
  rotate_left
  · rename_i n e _ _ _ ki i e1 e2
    rw [e2] at hi; simp only [RelA] at hi
    have hu := (hT.ty _ _ e1).und
    simp only [undOk] at hu
    split at h <;> try (cases h; done)
    rename_i g e3
    rw [e3] at hx
    exact so_glb hT hg hk hu hx hi h
  rename_i e _ _ _ ki i e1 e2
  rw [e2] at hi; simp only [RelA] at hi
  have hu := (hT.ty _ _ e1).und
  simp only [undOk] at hu
  split at h <;> try (cases h; done)
  rename_i j hj
  have hsz := run_sizeOf_ti (hT.ty _ _ hj) C.w
  split at h <;> try (cases h; done)
  · rename_i d l e3
    split at h <;> try (cases h; done)
    rename_i hjs
    obtain ⟨h0, h1, h⟩ := inC_some h
    rw [e3] at hx
    simp only [RelA, RelD] at hx
    obtain ⟨A, c, hx, hc, hb⟩ := hx
    have hlt : i.toNat < l.length := by omega
    rcases hb with hb | ⟨b, o, hA, hF, hel⟩
    · subst hb; simp at hlt
    subst hA
    obtain ⟨us, u1, u2⟩ := hel i.toNat _ (List.getElem?_eq_getElem hlt)
    have hgd : l.getD i.toNat d.dflt = l[i.toNat] := by rw [List.getD_eq_getElem?_getD, List.getElem?_eq_getElem hlt]; rfl
    obtain ⟨m1, m2⟩ := u1.toAVs
    replace hx := (List.cons.inj hx).1
    refine wp_value (w' := C.w) (by simp [execOp, hx, hi, run_indexAt_sl hu hsz h0 h1]; rfl) ((hk _ _ h).pure hg ?_)
    simp only [RelA]
    rw [hgd]
    refine ⟨b, _, rfl, .inl hF, RelR.mk fun n y hy => ?_⟩
    obtain ⟨z, z1, z2⟩ := m1.get hy
    exact ⟨z, by rw [hjs]; exact u2 n z z1, m2 z (List.mem_of_getElem? z1), z2⟩
  · rename_i o ver e3
    split at h <;> try (cases h; done)
    rename_i d l cur dp hH
    split at h <;> try (cases h; done)
    rename_i hv
    subst hv
    split at h <;> try (cases h; done)
    rename_i hjs
    obtain ⟨h0, h1, h⟩ := inC_some h
    rw [e3] at hx
    simp only [RelA, OslOk, hH] at hx
    obtain ⟨_, hx | ⟨_, hx⟩⟩ := hx
    · omega
    have hlt : i.toNat < l.length := by omega
    rcases hx with ⟨hx, _⟩ | ⟨_, c, cs, tid, hx, _⟩
    · omega
    refine wp_value (w' := C.w) (by simp [execOp, hx, hi, run_indexAt_sl hu hsz h0 h1]; rfl) ((hk _ _ h).pure hg ?_)
    simp only [RelA, EptrOk, hH]
    exact ⟨⟨_, rfl⟩, .inr ⟨trivial, hlt, by rw [hjs]; simp⟩⟩
  · rename_i o ver m c e3
    rw [e3] at hx
    exact so_isl hT hg hk hu (hT.ty _ _ hj) hx hi h
theorem intsOf_rel {k' : IntKind} : ∀ {cells : List AV} {vs : List Value} {l : List Int}, intsOf k' cells = some l → RelL C cells vs → vs = l.map (fun n => Value.int k' n)
  | [], vs, l, h, hr => by simp [intsOf] at h; subst h; simpa [RelL] using hr
  | x :: r', vs, l, h, hr => by
    cases x <;> try (simp [intsOf] at h; done)
    rename_i k2 n
    simp only [intsOf] at h
    split at h <;> try (cases h; done)
    rename_i hk2
    subst hk2
    obtain ⟨l', h1, h2⟩ := Option.map_eq_some_iff.1 h
    subst h2
    simp only [RelL, RelA] at hr
    obtain ⟨v, vr, rfl, rfl, hr⟩ := hr
    simp [intsOf_rel h1 hr]
theorem so_index (hT : TbOk P T) (hg : Good base C) (ht : Tmps C tv a) (hk : ∀ v u, k v u = some r → Kont base C a dst next v u) {t : TypeId} {x ix : Operand}
    (h : (match T.ty t, opnd tv x, opnd tv ix with
    | some ⟨.array n e, _, _, _⟩, .agg cells, .int _ i => match T.ty e with
      | some ⟨.int kd, 1, _, _⟩ => match intsOf kd cells with
        | some l => if l.length = n then inC i (n : Int) (k (.int kd (rd l i)) []) else none
        | none => none
      | _ => none
    | some ⟨.str, _, _, _⟩, .str s, .int _ i => inC i (s.size : Int) (k (.int .u8 (strAt s i)) [])
    | _, _, _ => none) = some r) : (Oper.mk dst (.index t x ix) type pos after guard).wp P a C.w next Q := by
  have hx := opnd_rel ht x
  have hi := opnd_rel ht ix
  split at h <;> try (cases h; done)
  rotate_left
  · rename_i _ _ _ s ki i e1 e2 e3
    rw [e2] at hx; rw [e3] at hi; simp only [RelA] at hi hx
    have hu := (hT.ty _ _ e1).und
    simp only [undOk] at hu
    obtain ⟨h0, h1, h⟩ := inC_some h
    have h2 : i.toNat < s.size := by omega
    refine wp_value (w' := C.w) (v := .int .u8 (strAt s i)) ?_ ((hk _ _ h).pure hg (by simp only [RelA]))
    have e4 : (Instr.index t (.string s) (.int ki i)).run P C.w = .ok (.int .u8 (strAt s i)) C.w := by
      rw [run_index_string C.w t s ki i hu, dif_pos ⟨h0, h1⟩]
      simp only [strAt, ByteArray.getElem?_lt' _ _ h2, Option.getD_some]
    simp [execOp, hx, hi, e4]
  rename_i n e _ _ _ cells ki i e1 e2 e3
  rw [e2] at hx; rw [e3] at hi; simp only [RelA] at hi hx
  obtain ⟨vs, hx, _, hl⟩ := hx
  have hu := (hT.ty _ _ e1).und
  simp only [undOk] at hu
  split at h <;> try (cases h; done)
  rename_i kd _ _ hj
  have htj := hT.ty _ _ hj
  have hsz := run_sizeOf_ti htj C.w
  have hag := run_isAgg_ti htj C.w
  split at h <;> try (cases h; done)
  rename_i l hints
  split at h <;> try (cases h; done)
  rename_i hlen
  obtain ⟨h0, h1, h⟩ := inC_some h
  have hvs := intsOf_rel hints hl
  have hlt : i.toNat < l.length := by omega
  have hv : vs.toArray[i.toNat]? = some (.int kd (rd l i)) := by
    subst hvs
    simp only [List.getElem?_toArray, List.getElem?_map, List.getElem?_eq_getElem hlt, Option.map_some]
    unfold rd
    rw [List.getD_eq_getElem?_getD, List.getElem?_eq_getElem hlt]; rfl
  refine wp_value (w' := C.w) (v := .int kd (rd l i)) ?_ ((hk _ _ h).pure hg (by simp only [RelA]))
  simp [execOp, hx, hi, Instr.index, asIntOf, run_underlying hu, h0, h1, hsz, part, hag, TK.isAgg]
  simp at hv
  simp [hv]
theorem so_len (hT : TbOk P T) (hg : Good base C) (ht : Tmps C tv a) (hk : ∀ v u, k v u = some r → Kont base C a dst next v u) {cx : Call} {x : Operand} {t : TypeId} (hc : cx.callee = .builtin .len) (hxs : cx.args.toList = [x]) (hts : cx.argTypes.toList = [t])
    (h : (match T.ty t with
        | some ⟨.slice _, _, _, _⟩ => lenC C.H (opnd tv x) fun v => k v []
        | _ => none) = some r) : (Oper.mk dst (.call cx) type pos after guard).wp P a C.w next Q := by
  have hx := opnd_rel ht x
  have ha : cx.args = #[x] := by rw [← Array.toArray_toList (xs := cx.args), hxs]
  have hb : cx.argTypes = #[t] := by rw [← Array.toArray_toList (xs := cx.argTypes), hts]
  split at h <;> try (cases h; done)
  rename_i e _ _ _ e1
  have hu := (hT.ty _ _ e1).und
  simp only [undOk] at hu
  have fin : ∀ {n : Nat} {A : Option Addr} {c : Nat}, a.eval x = .slice A n c → k (.int .i64 (n : Int)) [] = some r → (Oper.mk dst (.call cx) type pos after guard).wp P a C.w next Q := by
    intro n A c h1 h2
    refine wp_value (w' := C.w) (v := .int .i64 (n : Int)) ?_ ((hk _ _ h2).pure hg (by simp only [RelA]))
    simp [execOp, resolve, hc, ha, hb, h1, invoke, builtin, Builtin.len_, run_underlying hu, goInt]
  unfold lenC at h
  split at h <;> try (cases h; done)
  · rename_i d l e2
    rw [e2] at hx
    simp only [RelA, RelD] at hx
    obtain ⟨A, c, hx, _⟩ := hx
    replace hx := (List.cons.inj hx).1
    exact fin hx h
  · rename_i e2
    rw [e2] at hx
    simp only [RelA] at hx
    obtain ⟨A, hx⟩ := hx
    exact fin (n := 0) hx h
  · rename_i o ver e2
    split at h <;> try (cases h; done)
    rename_i d l cur dp hH
    split at h <;> try (cases h; done)
    rename_i hv
    subst hv
    rw [e2] at hx
    simp only [RelA, OslOk, hH] at hx
    obtain ⟨_, hx | ⟨_, hx⟩⟩ := hx
    · omega
    rcases hx with ⟨h0, A, hx⟩ | ⟨_, c, cs, tid, hx, _⟩
    · rw [h0] at h; exact fin (n := 0) hx h
    · exact fin hx h
  · rename_i o ver i c e2
    split at h <;> try (cases h; done)
    rename_i d l cur dp hH
    split at h <;> try (cases h; done)
    rename_i hv
    subst hv
    split at h <;> try (cases h; done)
    rename_i hd
    subst hd
    split at h <;> try (cases h; done)
    rename_i kk m hs
    rw [e2] at hx
    simp only [RelA] at hx
    obtain ⟨_, _, _, _, hv⟩ := isl_facts hg hH hx hs
    rcases hv with ⟨hm, A, hv⟩ | ⟨b, cap, hv⟩
    · subst hm; exact fin (n := 0) hv h
    · exact fin hv h
theorem so_max (hg : Good base C) (ht : Tmps C tv a) (hk : ∀ v u, k v u = some r → Kont base C a dst next v u) {cx : Call} (hc : cx.callee = .builtin .max)
    (h : (match cx.args.toList.map (opnd tv) with
      | [.int k1 a, .int k2 b] => k (.int k1 (mx a b)) []
      | _ => none) = some r) : (Oper.mk dst (.call cx) type pos after guard).wp P a C.w next Q := by
  have hr := opnds_rel ht cx.args.toList
  split at h <;> try (cases h; done)
  rename_i k1 n1 k2 n2 e
  rw [e] at hr
  simp only [RelL, RelA] at hr
  obtain ⟨v, vr, h1, rfl, u, ur, rfl, rfl, rfl⟩ := hr
  refine wp_value (w' := C.w) (v := .int k1 (mx n1 n2)) ?_ ((hk _ _ h).pure hg (by simp only [RelA]))
  simp [execOp, resolve, hc, invoke, builtin, Builtin.max_, h1, Builtin.max2, mx]
theorem so_min (hg : Good base C) (ht : Tmps C tv a) (hk : ∀ v u, k v u = some r → Kont base C a dst next v u) {cx : Call} (hc : cx.callee = .builtin .min)
    (h : (match cx.args.toList.map (opnd tv) with
      | [.int k1 a, .int k2 b] => k (.int k1 (mn a b)) []
      | _ => none) = some r) : (Oper.mk dst (.call cx) type pos after guard).wp P a C.w next Q := by
  have hr := opnds_rel ht cx.args.toList
  split at h <;> try (cases h; done)
  rename_i k1 n1 k2 n2 e
  rw [e] at hr
  simp only [RelL, RelA] at hr
  obtain ⟨v, vr, h1, rfl, u, ur, rfl, rfl, rfl⟩ := hr
  refine wp_value (w' := C.w) (v := .int k1 (mn n1 n2)) ?_ ((hk _ _ h).pure hg (by simp only [RelA]))
  simp [execOp, resolve, hc, invoke, builtin, Builtin.min_, h1, Builtin.min2, mn]
end
end Go.Proofs.YtnbaahpbmhhofaaDoor.Fw

/- One operation of the interpreter is what the machine does: places, lengths, small things. -/
import Derived.Test.YtnbaahpbmhhofaaDoorFwK
namespace Go.Proofs.YtnbaahpbmhhofaaDoor.Fw
open Go Go.RowKit
set_option linter.unusedVariables false
set_option linter.unusedSimpArgs false

section
variable {P : Program} {T : Tb} {α : Type} {base : Nat} {C : Cx} {a : Act} {tv : Nat → AV} {nid : Nat} {next : Act → World → Prop} {Q : Exit → Act → World → Prop} {r : α} {k : AV → List (Nat × AO) → Option α}
variable {dst : Option Tmp} {type : TypeId} {pos : String} {after : Array Edge} {guard : Option (Nat × Bool)}

theorem so_un (hg : Good base C) (ht : Tmps C tv a) (hk : ∀ v u, k v u = some r → Kont base C a dst next v u) {op : UnOp} {t : TypeId} {x : Operand}
    (h : (match op, opnd tv x with
    | .not, .bool b => k (.bool (!b)) []
    | .not, .dec p h => k (.ndec p h) []
    | .not, .ndec p h => k (.dec p h) []
    | .neg, .int kd n => k (.int kd (wr kd (0 - n))) []
    | _, _ => none) = some r) : (Oper.mk dst (.unOp op t x) type pos after guard).wp P a C.w next Q := by
  have hx := opnd_rel ht x
  split at h <;> try (cases h; done)
  · rename_i e; rw [e] at hx; simp only [RelA] at hx
    exact wp_value (w' := C.w) (by simp [execOp, hx, Op.unary]; rfl) ((hk _ _ h).pure hg (by simp only [RelA]))
  · rename_i p hp e; rw [e] at hx; simp only [RelA] at hx
    exact wp_value (w' := C.w) (v := .bool (!@decide p hp)) (by simp [execOp, hx, Op.unary]) ((hk _ _ h).pure hg (by simp only [RelA]))
  · rename_i p hp e; rw [e] at hx; simp only [RelA] at hx
    exact wp_value (w' := C.w) (v := .bool (@decide p hp)) (by simp [execOp, hx, Op.unary]) ((hk _ _ h).pure hg (by simp only [RelA]))
  · rename_i kd n e; rw [e] at hx; simp only [RelA] at hx
    exact wp_value (w' := C.w) (v := .int kd (wr kd (0 - n))) (by simp [execOp, hx, Op.unary, Op.intArith, wrap_wr]) ((hk _ _ h).pure hg (by simp only [RelA]))
theorem so_convert (hT : TbOk P T) (hg : Good base C) (ht : Tmps C tv a) (hk : ∀ v u, k v u = some r → Kont base C a dst next v u) {s t : TypeId} {x : Operand}
    (h : (match T.ty s, T.ty t, opnd tv x with
    | some ⟨.int _, _, _, _⟩, some ⟨.int kd, _, _, _⟩, .int _ n => k (.int kd (wr kd n)) []
    | _, _, _ => none) = some r) : (Oper.mk dst (.convert s t x) type pos after guard).wp P a C.w next Q := by
  have hx := opnd_rel ht x
  split at h <;> try (cases h; done)
  rename_i k1 _ _ _ kd _ _ _ k2 n e1 e2 e
  rw [e] at hx; simp only [RelA] at hx
  have h1 := (hT.ty _ _ e1).und
  have h2 := (hT.ty _ _ e2).und
  simp only [undOk] at h1 h2
  exact wp_value (w' := C.w) (v := .int kd (wr kd n)) (by simp [execOp, hx, convert, run_underlying h1, run_underlying h2, Conv.intToInt, wrap_wr]) ((hk _ _ h).pure hg (by simp only [RelA]))
theorem so_makeFunc (hg : Good base C) (ht : Tmps C tv a) (hk : ∀ v u, k v u = some r → Kont base C a dst next v u) {f : FuncId} {first caps : Array Operand}
    (h : (if first.size = 0 then k (.fn f (caps.toList.map (opnd tv))) [] else (match first.toList, caps.toList with
    | [x], [] => match opnd tv x with
      | .bptr p off => k (.mth f p off) []
      | _ => none
    | _, _ => none)) = some r) : (Oper.mk dst (.makeFunc (.func f) first caps) type pos after guard).wp P a C.w next Q := by
  split at h
  · rename_i h0
    have hf : first = #[] := Array.eq_empty_of_size_eq_zero h0
    subst hf
    refine wp_value (w' := C.w) (v := .func (.func f) #[] (caps.map a.eval)) (by simp [execOp, Instr.makeFunc]) ((hk _ _ h).pure hg ?_)
    simp only [RelA]
    exact ⟨caps.toList.map a.eval, by rw [← Array.toList_map, Array.toArray_toList], opnds_rel ht caps.toList⟩
  · split at h <;> try (cases h; done)
    rename_i x h1 h2
    split at h <;> try (cases h; done)
    rename_i p off h3
    obtain rfl : first = #[x] := Array.toList_inj.1 (by simpa using h1)
    obtain rfl : caps = #[] := Array.toList_inj.1 (by simpa using h2)
    have hx := opnd_rel ht x
    rw [h3] at hx
    simp only [RelA] at hx
    refine wp_value (w' := C.w) (v := .func (.func f) #[a.eval x] #[]) (by simp [execOp, Instr.makeFunc]) ((hk _ _ h).pure hg ?_)
    simp only [RelA]
    exact ⟨_, rfl, hx⟩
theorem so_extract (hg : Good base C) (ht : Tmps C tv a) (hk : ∀ v u, k v u = some r → Kont base C a dst next v u) {x : Operand} {i : Nat}
    (h : (match opnd tv x with
    | .tup l => match l[i]? with
      | some v => k v []
      | none => none
    | _ => none) = some r) : (Oper.mk dst (.extract x i) type pos after guard).wp P a C.w next Q := by
  have hx := opnd_rel ht x
  split at h <;> try (cases h; done)
  rename_i l e
  rw [e] at hx; simp only [RelA] at hx
  obtain ⟨vs, hx, hl⟩ := hx
  split at h <;> try (cases h; done)
  rename_i v hv
  obtain ⟨u, h1, h2⟩ := hl.get hv
  exact wp_value (w' := C.w) (v := u) (by simp [execOp, hx, Instr.extract, h1]) ((hk _ _ h).pure hg h2)
theorem so_makeSlice (hT : TbOk P T) (hg : Good base C) (hb : base ≤ C.w.heap.size) (hn : C.H nid = .hole) (ht : Tmps C tv a) (hk : ∀ v u, k v u = some r → Kont base C a dst next v u) {t : TypeId} {x y : Operand}
    (h : (match T.ty t, opnd tv x, opnd tv y with
    | some ⟨.slice e, _, _, _⟩, .int .i64 n, .int .i64 _ => if sameTmp x y = true then match T.dt e with
      | some d => if 0 ≤ n then (if limB n.toNat = true then k (.osl nid 0) [(nid, .arr d (List.replicate n.toNat d.dflt) 0 true)] else none) else none
      | none => none else none
    | _, _, _ => none) = some r) : (Oper.mk dst (.makeSlice t x y) type pos after guard).wp P a C.w next Q := by
  have hx := opnd_rel ht x
  split at h <;> try (cases h; done)
  rename_i e _ _ _ n n' e1 e2 e3
  split at h <;> try (cases h; done)
  rename_i hxy
  have hyx : y = x := by
    cases x <;> cases y <;> simp [sameTmp] at hxy
    subst hxy; rfl
  subst hyx
  split at h <;> try (cases h; done)
  rename_i d hd
  split at h <;> try (cases h; done)
  rename_i h0
  split at h <;> try (cases h; done)
  rename_i hlim
  rw [e2] at hx; simp only [RelA] at hx
  obtain ⟨i, q, zv, d1, d2, d3, d4, d5, d6, d7, d8, d9⟩ := hT.dt e d hd
  have hu := (hT.ty _ _ e1).und
  simp only [undOk] at hu
  have hl : n < 1099511627776 := by
    have h1 : n.toNat < lim := Nat.le_of_ble_eq_true hlim
    have h2 : lim = 1099511627776 := rfl
    omega
  have hby : (q.bytes : Int) * n ≤ 281474976710656 := by
    have h1 : (q.bytes : Int) ≤ 128 := by rw [d7]; exact_mod_cast d3
    have h2 : (q.bytes : Int) * n ≤ 128 * n := Int.mul_le_mul_of_nonneg_right h1 h0
    omega
  have hrun := run_make (P := P) C.w t e q zv hu d5 d8 .i64 .i64 n n h0 (Int.le_refl _) hby (by omega)
  generalize hcells : madeCells zv.cells (n.toNat * q.size) = cells at hrun
  have hcs : cells.size = n.toNat * d.size := by rw [← hcells, d6]; simp [madeCells]
  have hzl : zv.cells.size = d.size := by have := (dflt_rel C.w d9).len; simpa using this
  have hel : ElemsIn C d (List.replicate n.toNat d.dflt) true [] cells := by
    unfold ElemsIn
    rw [if_pos rfl]
    refine ⟨List.replicate n.toNat [], by simp, by simp, fun j x hj => ?_⟩
    have hj' : j < n.toNat := by have := (List.getElem?_eq_some_iff.1 hj).1; simpa using this
    rw [List.getElem?_replicate, if_pos hj'] at hj
    cases hj
    refine ⟨zv.cells.toList, ?_, fun m u hm => ?_⟩
    · rw [List.getD_eq_getElem?_getD, List.getElem?_replicate, if_pos hj']
      exact dflt_rel C.w d9
    · have hm' : m < d.size := by rw [← hzl]; have := (List.getElem?_eq_some_iff.1 hm).1; simpa using this
      have hjm : j * d.size + m < n.toNat * d.size := by
        have : (j + 1) * d.size ≤ n.toNat * d.size := Nat.mul_le_mul_right _ hj'
        rw [Nat.add_mul] at this; omega
      rw [← hcells, d6]
      unfold madeCells
      rw [Array.getElem?_map, Array.getElem?_range, if_pos hjm]
      simp only [Option.map_some]
      have hmod : (j * d.size + m) % zv.cells.size = m := by
        rw [hzl, Nat.add_comm, Nat.add_mul_mod_self_right, Nat.mod_eq_of_lt hm']
      rw [hmod]
      have : zv.cells[m]? = some u := by simpa using hm
      rw [getElem!_def, this]
  have hx' : a.eval y = .int .i64 n := hx
  refine wp_value (w' := C.w.alloc (.cells cells e)) (v := .slice (some ⟨C.w.heap.size, 0, none⟩) n.toNat n.toNat) (by simp [execOp, hx', hrun]) ?_
  by_cases hnn : n.toNat = 0
  · rw [hnn] at h hcs ⊢
    simp only [List.replicate_zero] at h
    have hto := To.alloc (b := 0) (S := []) (x := .arr d ([] : List d.D) 0 true) hg hb hn (.cells cells e)
    exact hk _ _ h (C.new nid 0 [] (.arr d ([] : List d.D) 0 true) (C.w.alloc (.cells cells e))) _ (Good.arr_nil hg hn (fun k hk => heap_alloc _ _ k hk) hto.size) hto rfl (osl_nil rfl _)
  · have hne : List.replicate n.toNat d.dflt ≠ [] := by intro e; exact hnn (by simpa using congrArg List.length e)
    have hto := To.alloc (b := C.w.heap.size) (S := []) (x := .arr d (List.replicate n.toNat d.dflt) 0 true) hg hb hn (.cells cells e)
    refine hk _ _ h (C.new nid C.w.heap.size [] (.arr d (List.replicate n.toNat d.dflt) 0 true) (C.w.alloc (.cells cells e))) _ (Good.arr hg hb hn hne (Free.nil base C) hel (fun k hk => heap_alloc _ _ k hk) (heap_alloc_size _ _) (heap_alloc_new _ _)) hto rfl ?_
    have := osl_new (C' := C.new nid C.w.heap.size [] (.arr d (List.replicate n.toNat d.dflt) 0 true) (C.w.alloc (.cells cells e))) (c := n.toNat) rfl hne (by simp) (heap_alloc_new _ _) (by omega)
    simpa using this
theorem so_fieldAddr (hT : TbOk P T) (hg : Good base C) (ht : Tmps C tv a) (hk : ∀ v u, k v u = some r → Kont base C a dst next v u) {t : TypeId} {x : Operand} {f : Nat}
    (h : (match T.ty t with
    | some ⟨.struct fs, _, _, _⟩ => match nthF fs f with
      | some (off, ft) => match T.ty ft with
        | some j => if 0 < j.size then match opnd tv x with
          | .bptr p o2 => match C.H p with
            | .box _ => k (.bptr p (o2 + off)) []
            | _ => none
          | .eptr p ver i o2 => match C.H p with
            | .arr _ _ cur _ => if cur = ver then k (.eptr p ver i (o2 + off)) [] else none
            | _ => none
          | .ref cells => k (.ref (cells.drop off)) []
          | _ => none else none
        | none => none
      | none => none
    | _ => none) = some r) : (Oper.mk dst (.fieldAddr t x f) type pos after guard).wp P a C.w next Q := by
  have hx := opnd_rel ht x
  split at h <;> try (cases h; done)
  rename_i fs _ _ _ hi
  split at h <;> try (cases h; done)
  rename_i off ft hf
  split at h <;> try (cases h; done)
  rename_i j hj
  split at h <;> try (cases h; done)
  rename_i hpos
  obtain ⟨fds, hu, hfd, _⟩ := (hT.ty _ _ hi).und
  have hfield : ∃ fd, fds[f]? = some fd ∧ fd.offset = off ∧ fd.type = ft := by
    unfold nthF at hf
    rw [← hfd, List.getElem?_map, Option.map_eq_some_iff] at hf
    obtain ⟨fd, h1, h2⟩ := hf
    cases h2
    exact ⟨fd, by simpa using h1, rfl, rfl⟩
  obtain ⟨fd, f1, rfl, rfl⟩ := hfield
  have hsz := run_sizeOf_ti (hT.ty _ _ hj) C.w
  have hrun : ∀ b o, (Instr.fieldAt t (.pointer (some ⟨b, o, none⟩)) f).run P C.w = .ok (.pointer (some ⟨b, o + fd.offset, none⟩)) C.w := by
    intro b o
    have hne : ¬ (j.size = 0) := by omega
    simp [Instr.fieldAt, run_underlying hu, f1, Instr.sureAddr, fieldPlace, hsz, hne, addr_add]
  split at h <;> try (cases h; done)
  · rename_i p o2 e
    rw [e] at hx
    split at h <;> try (cases h; done)
    rename_i cells hH
    simp only [RelA, BptrOk, hH] at hx
    refine wp_value (w' := C.w) (by simp [execOp, hx.2, hrun]; rfl) ((hk _ _ h).pure hg ?_)
    simp only [RelA, BptrOk, hH]
    exact ⟨⟨_, rfl⟩, trivial⟩
  · rename_i p ver i o2 e
    rw [e] at hx
    split at h <;> try (cases h; done)
    rename_i d l cur dp hH
    split at h <;> try (cases h; done)
    rename_i hv
    subst hv
    simp only [RelA, EptrOk, hH] at hx
    obtain ⟨_, hx | ⟨_, hi', hx⟩⟩ := hx
    · omega
    refine wp_value (w' := C.w) (by simp [execOp, hx, hrun]; rfl) ((hk _ _ h).pure hg ?_)
    simp only [RelA, EptrOk, hH]
    exact ⟨⟨_, rfl⟩, .inr ⟨trivial, hi', by rw [Nat.add_assoc]⟩⟩
  · rename_i cells e
    rw [e] at hx
    simp only [RelA] at hx
    obtain ⟨b, o, hx, hG, hr⟩ := hx
    refine wp_value (w' := C.w) (by simp [execOp, hx, hrun]; rfl) ((hk _ _ h).pure hg ?_)
    simp only [RelA]
    exact ⟨b, o + fd.offset, rfl, hG, hr.drop⟩
theorem so_field (hT : TbOk P T) (hg : Good base C) (ht : Tmps C tv a) (hk : ∀ v u, k v u = some r → Kont base C a dst next v u) {t : TypeId} {x : Operand} {f : Nat}
    (h : (match T.ty t, opnd tv x with
    | some ⟨.struct fs, _, _, _⟩, .agg cells => match nthF fs f with
      | some (off, ft) => match T.ty ft with
        | some j => if off + j.size ≤ cells.length then k (takeT j (cells.drop off)) [] else none
        | none => none
      | none => none
    | _, _ => none) = some r) : (Oper.mk dst (.field t x f) type pos after guard).wp P a C.w next Q := by
  have hx := opnd_rel ht x
  split at h <;> try (cases h; done)
  rename_i fs _ _ _ cells hi e
  split at h <;> try (cases h; done)
  rename_i off ft hf
  split at h <;> try (cases h; done)
  rename_i j hj
  split at h <;> try (cases h; done)
  rename_i hroom
  obtain ⟨fds, hu, hfd, _⟩ := (hT.ty _ _ hi).und
  have hfield : ∃ fd, fds[f]? = some fd ∧ fd.offset = off ∧ fd.type = ft := by
    unfold nthF at hf
    rw [← hfd, List.getElem?_map, Option.map_eq_some_iff] at hf
    obtain ⟨fd, h1, h2⟩ := hf
    cases h2
    exact ⟨fd, by simpa using h1, rfl, rfl⟩
  obtain ⟨fd, f1, rfl, rfl⟩ := hfield
  have htj := hT.ty _ _ hj
  rw [e] at hx
  simp only [RelA] at hx
  obtain ⟨vs, hx, h1, h2⟩ := hx
  have hlen := h2.len
  have hrel := takeT_rel (C := C) (i := j) htj.one (by simp; omega) (h2.drop (n := fd.offset)) (fun u hu => h1 u (List.mem_of_mem_drop hu))
  refine wp_value (w' := C.w) (v := if j.k.isAgg = true then .agg ((vs.drop fd.offset).take j.size).toArray else ((vs.drop fd.offset).take j.size).headD undef) ?_ ((hk _ _ h).pure hg hrel)
  by_cases hk' : j.k.isAgg = true
  · have hex : vs.toArray.extract fd.offset (fd.offset + j.size) = ((vs.drop fd.offset).take j.size).toArray := by
      rw [List.extract_toArray, List.extract_eq_take_drop]
      congr 2; omega
    simp [execOp, hx, Instr.field, run_underlying hu, f1, asAgg, part, run_isAgg_ti htj, hk', run_sizeOf_ti htj, hex]
  · have h0 : j.k.isAgg = false := by simpa using hk'
    have hs1 := htj.one h0
    have hlt : fd.offset < vs.length := by omega
    have hv : vs.toArray[fd.offset]? = some vs[fd.offset] := by simp [hlt]
    have hh : ((vs.drop fd.offset).take j.size).headD undef = vs[fd.offset] := by
      rw [hs1, List.drop_eq_getElem_cons hlt]; rfl
    rw [if_neg hk', hh]
    simp [execOp, hx, Instr.field, run_underlying hu, f1, asAgg, part, run_isAgg_ti htj, h0, hlt]
end
end Go.Proofs.YtnbaahpbmhhofaaDoor.Fw

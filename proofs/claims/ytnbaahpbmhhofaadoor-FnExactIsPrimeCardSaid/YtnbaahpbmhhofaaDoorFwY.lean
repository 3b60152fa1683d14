/- Regions of open order: whatever the order. -/
import Derived.Test.YtnbaahpbmhhofaaDoorFwX
namespace Go.Proofs.YtnbaahpbmhhofaaDoor.Fw
open Go Go.RowKit
set_option linter.unusedVariables false
set_option linter.unusedSimpArgs false

theorem inR_iff {n c p : Nat} : inR n c p = true ↔ n ≤ p ∧ p < n + c := by
  simp only [inR, Bool.and_eq_true, Nat.ble_eq, Nat.blt_eq]
section
variable {P : Program} {T : Tb} {α : Type} {base : Nat} {Q : Exit → Act → World → Prop} {r : α}
variable {Ca : Ca T} {fid : FuncId} {ops : Array Oper} {es : List Eff} {σ0 : St} {an : List (List Nat)}
/-- All that is known of a region. -/
structure Reg (T : Tb) (Ca : Fw.Ca T) (fid : FuncId) (ops : Array Oper) (es : List Eff) (σ0 : St) : Prop where
  len : es.length = ops.size
  at_ : ∀ (j : Nat) (e : Eff), es[j]? = some e → ∃ o, ops[j]? = some o ∧ EffOk T Ca fid ops.toList (ancs ops.toList []) σ0.H.length ((es.take j).map (·.rc)) o e ∧ e.σ = stD (fun k => decide (k < j)) 0 es σ0 ∧ σ0.H.length ≤ e.rc.nid
  dis : ∀ (i j : Nat) (e f : Eff), i < j → es[i]? = some e → es[j]? = some f → e.rc.nid + e.rc.cnt ≤ f.rc.nid
  pairs : ∀ (i j : Nat) (e f : Eff), i < j → es[i]? = some e → es[j]? = some f → i ∈ (ancs ops.toList []).getD j [] ∨ indep e.rc f.rc = true
  back : backOk ops.toList 0 = true

theorem Reg.own {j k : Nat} {e f : Eff} {p : Nat} (hR : Reg T Ca fid ops es σ0) (hj : es[j]? = some e) (hk : es[k]? = some f) (h1 : inR e.rc.nid e.rc.cnt p = true) (h2 : inR f.rc.nid f.rc.cnt p = true) : j = k := by
  rw [inR_iff] at h1 h2
  rcases Nat.lt_trichotomy j k with h | h | h
  · have := hR.dis j k e f h hj hk; omega
  · exact h
  · have := hR.dis k j f e h hk hj; omega
theorem Reg.vis {j : Nat} {p : Nat} {l : List Nat} (h : visIn l ((es.take j).map (·.rc)) p = true) : ∃ i f, i ∈ l ∧ es[i]? = some f ∧ inR f.rc.nid f.rc.cnt p = true := by
  unfold visIn at h
  obtain ⟨i, hi, h⟩ := List.any_eq_true.1 h
  split at h <;> try (cases h; done)
  rename_i rc hrc
  rw [List.getElem?_map] at hrc
  obtain ⟨f, hf, rfl⟩ := Option.map_eq_some_iff.1 hrc
  rw [List.getElem?_take] at hf
  split at hf <;> try (cases hf; done)
  exact ⟨i, f, hi, hf, h⟩
/-- The changed objects of a step: its own new ones, old ones, those of what it waits for. -/
theorem Reg.keys {j : Nat} {e : Eff} {p : Nat} (hR : Reg T Ca fid ops es σ0) (hj : es[j]? = some e) (hp : p ∈ e.u.map (·.1)) : inR e.rc.nid e.rc.cnt p = true ∨ p < σ0.H.length ∨ ∃ i f, i ∈ (ancs ops.toList []).getD j [] ∧ es[i]? = some f ∧ inR f.rc.nid f.rc.cnt p = true := by
  obtain ⟨o, _, hok, _, _⟩ := hR.at_ j e hj
  have hl : ((es.take j).map (·.rc)).length = j := by have := (List.getElem?_eq_some_iff.1 hj).1; simp; omega
  have hk := hok.keys
  rw [hl] at hk
  unfold keysOk at hk
  rw [List.all_eq_true] at hk
  obtain ⟨q, hq, rfl⟩ := List.mem_map.1 hp
  have := hk q hq
  rw [Bool.or_eq_true, Bool.or_eq_true] at this
  rcases this with h | h | h
  · exact .inl h
  · exact .inr (.inl (by simpa using h))
  · exact .inr (.inr (Reg.vis h))
theorem Reg.mu {j : Nat} {e : Eff} {p : Nat} (hR : Reg T Ca fid ops es σ0) (hj : es[j]? = some e) (hp : p ∈ e.u.map (·.1)) (hm : e.rc.mu = false) : inR e.rc.nid e.rc.cnt p = true := by
  obtain ⟨o, _, hok, _, _⟩ := hR.at_ j e hj
  rw [hok.mu] at hm
  simp only [muOf, Bool.not_eq_false', List.all_eq_true] at hm
  obtain ⟨q, hq, rfl⟩ := List.mem_map.1 hp
  exact hm q hq

/-- What is done, and all it waits for. -/
structure Done (ops : Array Oper) (D : Nat → Bool) : Prop where
  closed : ∀ k, D k = true → ∀ i ∈ (ancs ops.toList []).getD k [], D i = true
theorem indep_t1 {a b : Rec} {d : Tmp} (h : indep a b = true) (hd : a.dst = some d) : b.reads.contains d = false ∧ b.dst ≠ some d := by
  simp only [indep, Bool.and_eq_true, Bool.not_eq_true'] at h
  obtain ⟨⟨⟨⟨⟨h1, h2⟩, h3⟩, h4⟩, h5⟩, h6⟩ := h
  constructor
  · rw [hd] at h2; exact h2
  · intro e; rw [hd, e] at h1; simp [sameDst] at h1
theorem indep_t2 {a b : Rec} {d : Tmp} (h : indep a b = true) (hd : b.dst = some d) : a.reads.contains d = false := by
  simp only [indep, Bool.and_eq_true, Bool.not_eq_true'] at h
  obtain ⟨⟨⟨⟨⟨h1, h2⟩, h3⟩, h4⟩, h5⟩, h6⟩ := h
  rw [hd] at h3; exact h3
theorem indep_wr {a b : Rec} (h : indep a b = true) {p : Nat} (hp : p ∈ a.wr) : p ∉ b.wr := by
  simp only [indep, Bool.and_eq_true, Bool.not_eq_true'] at h
  obtain ⟨⟨⟨⟨⟨h1, h2⟩, h3⟩, h4⟩, h5⟩, h6⟩ := h
  simp only [disj, List.all_eq_true] at h4
  have := h4 p hp
  simpa using this
theorem indep_tc {a b : Rec} (h : indep a b = true) : tchOk a.tc b.wr b.mu = true ∧ tchOk b.tc a.wr a.mu = true := by
  simp only [indep, Bool.and_eq_true, Bool.not_eq_true'] at h
  obtain ⟨⟨⟨⟨⟨h1, h2⟩, h3⟩, h4⟩, h5⟩, h6⟩ := h
  exact ⟨h5, h6⟩
/-- What clashes with a step comes before it, in the text as in any order. -/
theorem Reg.ord {D : Nat → Bool} {j k : Nat} {e f : Eff} (hR : Reg T Ca fid ops es σ0) (hD : Done ops D) (hj : es[j]? = some e) (hk : es[k]? = some f) (hDj : D j = false) (hpre : ∀ i ∈ (ancs ops.toList []).getD j [], D i = true)
    (h1 : indep f.rc e.rc = true → False) (h2 : indep e.rc f.rc = true → False) : D k = decide (k < j) := by
  rcases Nat.lt_trichotomy k j with h | h | h
  · rw [decide_eq_true h]
    rcases hR.pairs k j f e h hk hj with h3 | h3
    · exact hpre k h3
    · exact (h1 h3).elim
  · subst h
    rw [hDj, decide_eq_false (Nat.lt_irrefl _)]
  · rw [decide_eq_false (by omega)]
    rcases hR.pairs j k e f h hj hk with h3 | h3
    · cases hDk : D k with
      | false => rfl
      | true => have := hD.closed k hDk j h3; rw [hDj] at this; cases this
    · exact (h2 h3).elim
theorem Reg.reads {D : Nat → Bool} {j : Nat} {e : Eff} (hR : Reg T Ca fid ops es σ0) (hD : Done ops D) (hj : es[j]? = some e) (hDj : D j = false) (hpre : ∀ i ∈ (ancs ops.toList []).getD j [], D i = true) {i : Tmp} (hi : e.rc.reads.contains i = true) :
    tvOf (stD D 0 es σ0) i = tvOf e.σ i := by
  obtain ⟨o, _, _, hσ, _⟩ := hR.at_ j e hj
  rw [hσ]
  refine stD_t (fun k f hk hf => ?_) rfl rfl
  simp only [Nat.zero_add]
  refine hR.ord hD hj hk hDj hpre (fun h => ?_) (fun h => ?_)
  · have := (indep_t1 h hf).1; rw [hi] at this; cases this
  · have := indep_t2 h hf; rw [hi] at this; cases this
theorem Reg.mask {D : Nat → Bool} {j : Nat} {e : Eff} (hR : Reg T Ca fid ops es σ0) (hD : Done ops D) (hj : es[j]? = some e) (hDj : D j = false) (hpre : ∀ i ∈ (ancs ops.toList []).getD j [], D i = true) :
    (∀ p, inR e.rc.nid e.rc.cnt p = true → look (stD D 0 es σ0).H p = .hole) ∧
    Msk (maskH (look e.σ.H) σ0.H.length e.rc.nid e.rc.cnt (visIn ((ancs ops.toList []).getD j []) ((es.take j).map (·.rc))) e.rc.tc) (look (stD D 0 es σ0).H) := by
  obtain ⟨o, ho, hok, hσ, hn⟩ := hR.at_ j e hj
  have hown : ∀ p, inR e.rc.nid e.rc.cnt p = true → look (stD D 0 es σ0).H p = .hole := by
    intro p hp
    have : look (stD D 0 es σ0).H p = look (stD (fun _ => false) 0 es σ0).H p := by
      refine stD_H (fun k f hk hf => ?_) rfl
      simp only [Nat.zero_add]
      rcases hR.keys hk hf with h | h | ⟨i, g, hi, hg, h⟩
      · rw [← hR.own hj hk hp h]; exact hDj
      · rw [inR_iff] at hp; omega
      · cases hDk : D k with
        | false => rfl
        | true =>
          have := hD.closed k hDk i hi
          rw [← hR.own hj hg hp h, hDj] at this
          cases this
    rw [this, stD_none (fun _ _ => rfl)]
    exact look_hole (by rw [inR_iff] at hp; omega)
  refine ⟨hown, fun p => ?_⟩
  unfold maskH
  split
  · rename_i hp
    exact .inl (hown p hp).symm
  · have same : (∀ (k : Nat) (f : Eff), es[k]? = some f → p ∈ f.u.map (·.1) → (indep f.rc e.rc = true → False) ∧ (indep e.rc f.rc = true → False)) → look e.σ.H p = look (stD D 0 es σ0).H p := by
      intro h
      rw [hσ]
      symm
      refine stD_H (fun k f hk hf => ?_) rfl
      simp only [Nat.zero_add]
      exact hR.ord hD hj hk hDj hpre (h k f hk hf).1 (h k f hk hf).2
    have wrp : ∀ (k : Nat) (f : Eff), es[k]? = some f → p ∈ f.u.map (·.1) → p ∈ f.rc.wr := by
      intro k f hk hf
      obtain ⟨_, _, hok', _, _⟩ := hR.at_ k f hk
      rw [hok'.wr]; exact hf
    split
    · exact .inr rfl
    · rename_i tc o' htc
      split
      · rename_i hp
        subst hp
        refine .inl (same fun k f hk hf => ⟨fun h => ?_, fun h => ?_⟩)
        · have := (indep_tc h).2
          rw [htc] at this
          simp only [tchOk, Bool.not_eq_true'] at this
          have := wrp k f hk hf
          simp_all
        · have := (indep_tc h).1
          rw [htc] at this
          simp only [tchOk, Bool.not_eq_true'] at this
          have := wrp k f hk hf
          simp_all
      · exact .inr rfl
    · rename_i htc
      have hnm : ∀ f : Eff, (indep f.rc e.rc = true ∨ indep e.rc f.rc = true) → f.rc.mu = false := by
        intro f h
        rcases h with h | h
        · have := (indep_tc h).2
          rw [htc] at this
          simpa [tchOk] using this
        · have := (indep_tc h).1
          rw [htc] at this
          simpa [tchOk] using this
      split
      · rename_i hp
        refine .inl (same fun k f hk hf => ?_)
        obtain ⟨_, _, _, _, hn'⟩ := hR.at_ k f hk
        refine ⟨fun h => ?_, fun h => ?_⟩
        · have := hR.mu hk hf (hnm f (.inl h)); rw [inR_iff] at this; omega
        · have := hR.mu hk hf (hnm f (.inr h)); rw [inR_iff] at this; omega
      · split
        · rename_i hv
          obtain ⟨i, g, hi, hg, hin⟩ := Reg.vis hv
          have hij : i < j := ancs_lt hR.back j o (by simpa using ho) i hi
          -- who changes p without clashing is i itself
          refine .inl ?_
          rw [hσ]
          symm
          refine stD_H (fun k f hk hf => ?_) rfl
          simp only [Nat.zero_add]
          have hki : f.rc.mu = false → k = i := fun hm => hR.own hk hg (hR.mu hk hf hm) hin
          by_cases hk1 : indep f.rc e.rc = true ∨ indep e.rc f.rc = true
          · have := hki (hnm f hk1)
            subst this
            rw [hpre k hi, decide_eq_true hij]
          · exact hR.ord hD hj hk hDj hpre (fun h => hk1 (.inl h)) (fun h => hk1 (.inr h))
        · exact .inr rfl
theorem Sim.congr {C : Cx} {σ ρ : St} {a : Act} (h : Sim base C σ a) (ht : ∀ i, tvOf ρ i = tvOf σ i) (hH : ∀ p, look ρ.H p = look σ.H p) (hl : ρ.t.length = σ.t.length) : Sim base C ρ a where
  good := h.good
  low := h.low
  H := by rw [h.H]; funext p; exact (hH p).symm
  len := by rw [hl]; exact h.len
  tm := fun i => by rw [ht]; exact h.tm i
  df := h.df

theorem draw_any (hT : TbOk P T) (hC : CaOk P T Ca) (hR : Reg T Ca fid ops es σ0) : ∀ (fuel : Nat) {listed : Array Bool} {D : Nat → Bool} {a : Act} {C : Cx}, Sim base C (stD D 0 es σ0) a → Done ops D → listed.size = ops.size → (∀ k, k < ops.size → listed.getD k true = D k ∧ listed.getD k false = D k) → (∀ k, D k = true → k < ops.size) →
    ((List.range ops.size).filter fun k => !D k).length ≤ fuel →
    (∀ a' C', Sim base C' (es.foldl (fun σ e => effOf e σ) σ0) a' → To base C C' → Q .normal a' C'.w) →
    wpAny P .any ops Q fuel listed a C.w := by
  have fin : ∀ {D : Nat → Bool} {a : Act} {C : Cx}, Sim base C (stD D 0 es σ0) a → (∀ k, k < ops.size → D k = true) → (∀ a' C', Sim base C' (es.foldl (fun σ e => effOf e σ) σ0) a' → To base C C' → Q .normal a' C'.w) → Q .normal a C.w := by
    intro D a C hs hall hk
    rw [stD_all (fun i hi => by rw [Nat.zero_add]; exact hall i (by rw [← hR.len]; exact hi))] at hs
    exact hk a C hs (To.refl base C)
  intro fuel
  induction fuel with
  | zero =>
    intro listed D a C hs hD hsz hl hlt hcnt hk
    have hall : ∀ k, k < ops.size → D k = true := by
      intro k hk
      have h0 : (List.range ops.size).filter (fun k => !D k) = [] := List.eq_nil_of_length_eq_zero (by omega)
      rw [List.filter_eq_nil_iff] at h0
      have := h0 k (List.mem_range.2 hk)
      simpa using this
    refine ⟨?_, fin hs hall hk⟩
    unfold Region.ready
    rw [List.filter_eq_nil_iff]
    intro k hk
    rw [List.mem_range] at hk
    simp [(hl k hk).1, hall k hk]
  | succ fuel ih =>
    intro listed D a C hs hD hsz hl hlt hcnt hk
    have rdy : ∀ k, k < ops.size → D k = false → ∀ o, ops[k]? = some o → (∀ e ∈ edgesOf o, D e = true) → k ∈ Region.ready .any ops listed := by
      intro k hk hDk o ho he
      unfold Region.ready
      rw [List.mem_filter]
      refine ⟨List.mem_range.2 hk, ?_⟩
      rw [(hl k hk).1, hDk, ho]
      simp only [Option.map_some, Option.getD_some, Bool.not_false, Bool.true_and]
      rw [Array.all_eq_true_iff_forall_mem]
      intro e hem
      cases hb : Region.binds .any e with
      | false => rfl
      | true =>
        have := he e.on (by unfold edgesOf; exact List.mem_map.2 ⟨e, List.mem_filter.2 ⟨by simpa using hem, hb⟩, rfl⟩)
        have hlt' := hlt _ this
        simp only [Bool.not_true, Bool.false_or]
        rw [(hl _ hlt').2, this]
    refine ⟨fun hnil => ?_, fun j hj => ?_⟩
    · refine fin hs ?_ hk
      intro k
      induction k using Nat.strongRecOn with
      | _ k ihk =>
        intro hk
        cases hDk : D k with
        | true => rfl
        | false =>
          have ho : ops[k]? = some ops[k] := Array.getElem?_eq_getElem hk
          have := rdy k hk hDk _ ho fun e he => by
            have hb := backOk_get hR.back (j := k) (o := ops[k]) (by simp) e he
            exact ihk e (by omega) (by omega)
          rw [hnil] at this; cases this
    · unfold Region.ready at hj
      rw [List.mem_filter] at hj
      obtain ⟨hjr, hj⟩ := hj
      have hjlt := List.mem_range.1 hjr
      obtain ⟨o, ho⟩ : ∃ o, ops[j]? = some o := ⟨_, Array.getElem?_eq_getElem hjlt⟩
      rw [ho] at hj
      simp only [Option.map_some, Option.getD_some, Bool.and_eq_true, Bool.not_eq_true'] at hj
      have hDj : D j = false := by rw [← (hl j hjlt).1]; exact hj.1
      obtain ⟨e, he⟩ : ∃ e, es[j]? = some e := ⟨_, List.getElem?_eq_getElem (by rw [hR.len]; exact hjlt)⟩
      obtain ⟨o', ho', hok, hσ, hn⟩ := hR.at_ j e he
      rw [ho] at ho'; cases ho'
      have hedge : ∀ i ∈ edgesOf o, D i = true := by
        intro i hi
        unfold edgesOf at hi
        obtain ⟨ed, hed, rfl⟩ := List.mem_map.1 hi
        rw [List.mem_filter] at hed
        have := (Array.all_eq_true_iff_forall_mem.1 hj.2) ed (by simpa using hed.1)
        rw [hed.2] at this
        simp only [Bool.not_true, Bool.false_or] at this
        have hlt' : ed.on < ops.size := by
          have := backOk_get hR.back (j := j) (o := o) (by simpa using ho) ed.on hi
          omega
        rw [← (hl _ hlt').2]; exact this
      have hpre : ∀ i ∈ (ancs ops.toList []).getD j [], D i = true := by
        intro i hi
        rcases ancs_get ops.toList [] j o (by simpa using ho) i (by simpa using hi) with h | ⟨x, hx, _, h⟩
        · exact hedge i h
        · exact hD.closed x (hedge x hx) i h
      have hprel : ((es.take j).map (·.rc)).length = j := by simp; rw [hR.len]; omega
      -- what is done behind it
      let D' : Nat → Bool := fun k => D k || k == j
      have hDn : ∀ k f, j < k → D k = true → es[k]? = some f → indep e.rc f.rc = true := by
        intro k f hjk hDk hf
        rcases hR.pairs j k e f hjk he hf with h | h
        · have := hD.closed k hDk j h; rw [hDj] at this; cases this
        · exact h
      obtain ⟨p1, p2⟩ := stD_put (σ := σ0) he hDj (fun k f hjk hDk hf i hi => (indep_t1 (hDn k f hjk hDk hf) hi).2) (fun k f hjk hDk hf p hp => by
        obtain ⟨_, _, hok', _, _⟩ := hR.at_ k f hf
        have := indep_wr (hDn k f hjk hDk hf) (p := p) (by rw [hok.wr]; exact hp)
        rw [hok'.wr] at this; exact this)
      have next : ∀ {a' : Act} {C' : Cx}, Sim base C' (effOf e (stD D 0 es σ0)) a' → To base C C' → wpAny P .any ops Q fuel (listed.setIfInBounds j true) a' C'.w := by
        intro a' C' hs' hto
        have hs2 : Sim base C' (stD D' 0 es σ0) a' := hs'.congr p1 p2 (by rw [stD_len, eff_len, stD_len])
        refine ih hs2 ⟨fun k hk i hi => ?_⟩ (by simp [hsz]) (fun k hk => ?_) (fun k hk => ?_) ?_ fun a2 C2 h1 h2 => hk a2 C2 h1 (hto.trans h2)
        · show (D i || i == j) = true
          have hk' : (D k || k == j) = true := hk
          rw [Bool.or_eq_true] at hk' ⊢
          rcases hk' with h | h
          · exact .inl (hD.closed k h i hi)
          · rw [beq_iff_eq] at h; subst h; exact .inl (hpre i hi)
        · have hgj : ∀ d, (listed.setIfInBounds j true).getD k d = if j = k then true else listed.getD k d := by
            intro d
            simp only [Array.getD_eq_getD_getElem?, Array.getElem?_setIfInBounds]
            by_cases h : j = k
            · subst h; rw [if_pos rfl, if_pos (by rw [hsz]; exact hk), if_pos rfl]; rfl
            · rw [if_neg h, if_neg h]
          rw [hgj, hgj]
          show _ = (D k || k == j) ∧ _ = (D k || k == j)
          by_cases h : j = k
          · subst h; simp
          · have hkj : (k == j) = false := by simp; omega
            rw [if_neg h, if_neg h, hkj, Bool.or_false]; exact hl k hk
        · have hk' : (D k || k == j) = true := hk
          rw [Bool.or_eq_true] at hk'
          rcases hk' with h | h
          · exact hlt k h
          · rw [beq_iff_eq] at h; subst h; exact hjlt
        · have := countF (p := fun k => !D k) (q := fun k => !D' k) (l := List.range ops.size) (x := j) (fun y _ hy => by
            show (!D y) = true
            have hy' : (!(D y || y == j)) = true := hy
            simp at hy' ⊢; exact hy'.1) hjr (by simp [hDj]) (by simp [D'])
          omega
      unfold wpOp
      rw [ho]
      simp only
      have hgo : Region.wanted o (yielded ops a.tmps) = e.go := by
        rcases hok.gd with ⟨h1, h2⟩ | ⟨jj, w, g, b, h1, h2, h3, h4, h5⟩ | ⟨jj, w, g, l, h1, h2, h3, h4, h5⟩
        · simp [Region.wanted, h1, h2]
        · have hrel := hs.tm g
          rw [hR.reads hD he hDj hpre h3] at hrel
          have := boolOf_rel hrel h4
          have hy := yielded_of h2 this
          simp [Region.wanted, h1, hy, h5]
        · have hrel := hs.tm g
          rw [hR.reads hD he hDj hpre h3, h4] at hrel
          simp [Region.wanted, h1, yielded_undef h2 hrel, h5]
      rw [hgo]
      cases hg : e.go with
      | true =>
        simp only [if_true]
        refine .inl ?_
        obtain ⟨m1, m2⟩ := hR.mask hD he hDj hpre
        have hrun := hok.run hg (H := C.H) (by rw [hprel, hs.H]; exact m2) (fun v u => some (v, u))
        have htm : Tmps C (tvM e.rc.reads (tvOf e.σ)) a := by
          intro i
          unfold tvM
          split
          · rename_i hi
            rw [← hR.reads hD he hDj hpre hi]; exact hs.tm i
          · simp only [RelA]
        refine step_sound hT hC.pure hs.good hs.low (fun x hx => ?_) htm (fun v u hvu => ?_) hrun
        · rw [hs.H]
          exact m1 _ (by rw [inR_iff, hok.cnt]; omega)
        · cases hvu
          intro C' val g1 g2 g3 g4
          have := hs.step (dst := o.dst) g1 g2 g3 g4
          refine next ?_ g2
          unfold effOf
          rw [hok.dst]; exact this
      | false =>
        simp only [Bool.false_eq_true, if_false]
        obtain ⟨i1, i2⟩ := hok.idle hg
        refine next ?_ (To.refl base C)
        unfold effOf
        rw [hok.dst, i1, i2]
        exact hs.pass o.dst

theorem execDraw_sound (hT : TbOk P T) (hC : CaOk P T Ca) {id : Nat} {σ : St} {a : Act} {C : Cx} {k : St → Option α} (hs : Sim base C σ a)
    (hk : ∀ ρ a' C', k ρ = some r → Sim base C' ρ a' → To base C C' → Q .normal a' C'.w)
    (h : execDraw T Ca fid ops.toList (ancs ops.toList []) σ.H.length ops.toList σ σ.H.length [] [] k = some r) : (Code.region id ops true).wp P Q a C.w := by
  obtain ⟨es, ρ, rs', ht, hρ, hp, hb⟩ := execDraw_told _ (fun q hq => by cases hq) h
  obtain ⟨f1, f2, f3, f4, f5⟩ := ht.facts
  have hlen : es.length = ops.size := by simpa using f1
  have hR : Reg T Ca fid ops es σ := by
    refine ⟨hlen, fun j e he => ?_, f5, fun i j e f hij he hf => ?_, hb⟩
    · obtain ⟨o, a1, a2, a3, a4⟩ := f4 j e he
      refine ⟨o, by simpa using a1, by simpa using a2, ?_, a4⟩
      rw [stD_below (by have := (List.getElem?_eq_some_iff.1 he).1; omega)]; exact a3
    · unfold allPairs at hp
      rw [List.all_eq_true] at hp
      have hjl : j < ops.size := by rw [← hlen]; exact (List.getElem?_eq_some_iff.1 hf).1
      have := hp j (by simpa using hjl)
      rw [List.all_eq_true] at this
      have := this i (List.mem_range.2 hij)
      unfold pairOk at this
      rw [Bool.or_eq_true] at this
      refine this.imp (fun h => by simpa using h) fun h => ?_
      rw [f2] at h
      simp only [List.nil_append, List.getElem?_map, he, hf, Option.map_some] at h
      exact h
  have g1 : Good base { C with w := { C.w with drawn := C.w.drawn + 1 } } := hs.good.world (fun _ _ => rfl) (Nat.le_refl _)
  have t1 : To base C { C with w := { C.w with drawn := C.w.drawn + 1 } } := To.world hs.good (fun _ _ => rfl) (Nat.le_refl _) (Below.refl base C.w).drew
  have hs1 : Sim base { C with w := { C.w with drawn := C.w.drawn + 1 } } (stD (fun _ => false) 0 es σ) a := by
    rw [stD_none (fun _ _ => rfl)]
    exact { good := g1, low := hs.low, H := hs.H, len := hs.len, tm := fun i => (hs.tm i).mono t1.ext, df := hs.df }
  refine wp_region_any hT.mixed (draw_any hT hC hR ops.size hs1 ⟨fun k h => by cases h⟩ (by simp) (fun k hk => ?_) (fun k h => by cases h) ?_ fun a' C' h1 h2 => ?_)
  · simp [Array.getD_eq_getD_getElem?, hk]
  · refine Nat.le_trans (List.length_filter_le _ _) (by simp)
  · rw [← f3] at h1
    exact hk ρ a' C' hρ h1 (t1.trans h2)
end
end Go.Proofs.YtnbaahpbmhhofaaDoor.Fw

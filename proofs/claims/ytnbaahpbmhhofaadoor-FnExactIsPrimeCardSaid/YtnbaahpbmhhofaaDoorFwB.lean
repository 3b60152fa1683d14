/- The interpreter, on: regions, the code, calls. -/
import Derived.Test.YtnbaahpbmhhofaaDoorFwA
namespace Go.Proofs.YtnbaahpbmhhofaaDoor.Fw
open Go Go.RowKit
set_option linter.unusedVariables false

/-! ### letting go of arrays: they become slices that nobody writes -/
def frzA (H : Nat → AO) (ids : List Nat) : AV → AV
  | .osl o ver => if ids.contains o = true then (match H o with
    | .arr t l cur _ => if cur = ver then .sl t l else .top
    | _ => .top) else .osl o ver
  | .eptr o ver i off => if ids.contains o = true then .top else .eptr o ver i off
  | .isl o ver i c => if ids.contains o = true then .top else .isl o ver i c
  | .iptr o ver i c j => if ids.contains o = true then .top else .iptr o ver i c j
  | x => x
def frzO (H : Nat → AO) (ids : List Nat) : Nat → List AO → List AO
  | _, [] => []
  | i, x :: r => (match x with
    | .arr t l ver dp => if ids.contains i = true then .dead else .arr t l ver dp
    | .box cells => .box (cells.map (mapA (frzA H ids) depth))
    | x => x) :: frzO H ids (i + 1) r
def freeze (ids : List Nat) (σ : St) : St :=
  ⟨σ.t.map (mapA (frzA (look σ.H) ids) depth), frzO (look σ.H) ids 0 σ.H⟩
def tvOf (σ : St) (i : Nat) : AV := σ.t.getD i .top
/-- Ahead of a call whose result may share what it is given: our arrays that it is given are let go. -/
def preS (T : Tb) (o : Oper) (σ : St) : St :=
  match o.op with
  | .call c => match c.callee with
    | .value f => match opnd (tvOf σ) f with
      | .fn g caps => if T.thr g = true then σ else if apartR T g = true then σ else
          (match (c.args.toList.map (opnd (tvOf σ)) ++ caps).flatMap (idsA (look σ.H) depth) with
          | [] => σ
          | ids => freeze ids σ)
      | _ => σ
    | _ => σ
  | _ => σ

/-! ### a region in the order of its text -/
def dstOf (all : List Oper) (j : Nat) : Option Tmp := (all[j]?).bind (·.dst)
section
variable {α : Type}
/-- A call that works on our objects. -/
def thrC (T : Tb) (C : Ca T) (o : Oper) (σ : St) : Option (FuncId × List AV) :=
  match o.op with
  | .call c => match c.callee with
    | .value f => match opnd (tvOf σ) f with
      | .fn g caps => if T.thr g = true then some (g, c.args.toList.map (opnd (tvOf σ)) ++ caps) else none
      | .mth g p off => if T.thr g = true then some (g, .bptr p off :: c.args.toList.map (opnd (tvOf σ))) else none
      | _ => none
    | _ => none
  | _ => none
noncomputable def stepC (T : Tb) (C : Ca T) (fid : FuncId) (o : Oper) (σ : St) (k : St → Option α) : Option α :=
  match thrC T C o σ with
  | some (g, args) => C.thr g args σ.H fun v H' => k ⟨putT σ.t o.dst v, H'⟩
  | none =>
    let ρ := preS T o σ
    stepE T C fid (tvOf ρ) (look ρ.H) ρ.H.length o fun v u => k ⟨putT ρ.t o.dst v, applyU u ρ.H⟩
/-- A guard: the operation is wanted, or not; not, too, where the guard's own operation was not. -/
def testG (c : AV) (w : Bool) (x y : Bool → Option α) (z : Option α) : Option α :=
  match c with
  | .tup _ => z
  | _ => testC c (if w = true then x true else y true) (if w = true then y false else x false)
noncomputable def execOps (T : Tb) (C : Ca T) (fid : FuncId) (all : List Oper) : List Oper → St → (St → Option α) → Option α
  | [], σ, k => k σ
  | o :: r, σ, k => match o.guard with
    | none => stepC T C fid o σ fun ρ => execOps T C fid all r ρ k
    | some (j, w) => match dstOf all j with
      | some g => testG (tvOf σ g) w
          (fun b => stepC T C fid o ⟨setT σ.t g (.bool b), σ.H⟩ fun ρ => execOps T C fid all r ρ k)
          (fun b => execOps T C fid all r ⟨putT (setT σ.t g (.bool b)) o.dst (.tup []), σ.H⟩ k)
          (execOps T C fid all r ⟨putT σ.t o.dst (.tup []), σ.H⟩ k)
      | none => none

/-! ### a region of open order -/
inductive Tch where
  | none
  | one (o : Nat)
  | all
/-- What was read, written and looked at: the temporaries, the objects. 'mu': one that was there is changed; its own new numbers. -/
structure Rec where
  dst : Option Tmp
  reads : List Tmp
  wr : List Nat
  mu : Bool
  tc : Tch
  nid : Nat
  cnt : Nat
def tmpsOf : List Operand → List Tmp
  | [] => []
  | .tmp i :: r => i :: tmpsOf r
  | _ :: r => tmpsOf r
def tchV : AV → Tch
  | .bptr p _ => .one p
  | .eptr p _ _ _ => .one p
  | .osl p _ => .one p
  | .isl p _ _ _ => .one p
  | .iptr p _ _ _ _ => .one p
  | _ => .none
def tchOf (tv : Nat → AV) (o : Oper) : Tch :=
  match o.op with
  | .load _ a => tchV (opnd tv a)
  | .fieldAddr _ a _ => tchV (opnd tv a)
  | .indexAddr _ a _ => tchV (opnd tv a)
  | .nilCheck a => tchV (opnd tv a)
  | .slice _ a _ _ _ => tchV (opnd tv a)
  | .store _ _ _ | .call _ | .buildSlice _ _ _ => .all
  | _ => .none
def inR (nid cnt p : Nat) : Bool := Nat.ble nid p && Nat.blt p (nid + cnt)
def readsOf (o : Oper) (g : List Tmp) : List Tmp := g ++ tmpsOf o.op.operands.toList
/-- The temporaries that are read, and no others. -/
def tvM (reads : List Tmp) (tv : Nat → AV) (i : Nat) : AV := if reads.contains i = true then tv i else .top
/-- The numbers of what must have been done before. -/
def visIn (an : List Nat) (rs : List Rec) (p : Nat) : Bool := an.any fun i => match rs[i]? with
  | some r => inR r.nid r.cnt p
  | none => false
/-- The objects that it may look at, and no others. -/
def maskH (H : Nat → AO) (N0 nid cnt : Nat) (vis : Nat → Bool) (tc : Tch) (p : Nat) : AO :=
  if inR nid cnt p = true then .hole else match tc with
  | .none => .dead
  | .one o => if p = o then H p else .dead
  | .all => if p < N0 then H p else if vis p = true then H p else .dead
def keysOk (N0 nid cnt : Nat) (vis : Nat → Bool) (u : List (Nat × AO)) : Bool := u.all fun q => inR nid cnt q.1 || (Nat.blt q.1 N0 || vis q.1)
def muOf (nid cnt : Nat) (u : List (Nat × AO)) : Bool := !(u.all fun q => inR nid cnt q.1)
def disj (a b : List Nat) : Bool := a.all fun x => !b.contains x
def dstIn : Option Tmp → List Tmp → Bool
  | none, _ => false
  | some d, l => l.contains d
def sameDst : Option Tmp → Option Tmp → Bool
  | some a, some b => a == b
  | _, _ => false
def tchOk (tc : Tch) (wr : List Nat) (mu : Bool) : Bool :=
  match tc with
  | .none => true
  | .one o => !wr.contains o
  | .all => !mu
def indep (a b : Rec) : Bool :=
  !sameDst a.dst b.dst && !dstIn a.dst b.reads && !dstIn b.dst a.reads && disj a.wr b.wr && tchOk a.tc b.wr b.mu && tchOk b.tc a.wr a.mu
/-- What each operation waits for, at any remove. -/
def edgesOf (o : Oper) : List Nat := (o.after.toList.filter fun e => Region.binds .any e).map (·.on)
def ancs : List Oper → List (List Nat) → List (List Nat)
  | [], acc => acc
  | o :: r, acc => ancs r (acc ++ [edgesOf o ++ (edgesOf o).flatMap fun e => acc.getD e []])
def pairOk (an : List (List Nat)) (rs : List Rec) (i j : Nat) : Bool :=
  (an.getD j []).contains i || (match rs[i]?, rs[j]? with
    | some a, some b => indep a b
    | _, _ => false)
def allPairs (an : List (List Nat)) (rs : List Rec) (n : Nat) : Bool :=
  (List.range n).all fun j => (List.range j).all fun i => pairOk an rs i j
/-- All wait for what is told before them. -/
def backOk : List Oper → Nat → Bool
  | [], _ => true
  | o :: r, n => (edgesOf o).all (fun e => Nat.blt e n) && backOk r (n + 1)
noncomputable def drawStep (T : Tb) (C : Ca T) (fid : FuncId) (an : List (List Nat)) (N0 : Nat) (o : Oper) (g : List Tmp) (σ : St) (nid : Nat) (rs : List Rec) (k : St → Rec → Option α) : Option α :=
  let cnt := newCnt T fid o
  let tv := tvM (readsOf o g) (tvOf σ)
  let tc := tchOf tv o
  let vis := visIn (an.getD rs.length []) rs
  stepE T C fid tv (maskH (look σ.H) N0 nid cnt vis tc) nid o fun v u =>
    if keysOk N0 nid cnt vis u = true then k ⟨putT σ.t o.dst v, applyU u σ.H⟩ ⟨o.dst, readsOf o g, u.map (·.1), muOf nid cnt u, tc, nid, cnt⟩ else none
/-- What is known of guards by now. -/
def knOf : List (Tmp × Bool) → Tmp → Option Bool
  | [], _ => none
  | q :: r, g => match Nat.beq q.1 g with
    | true => some q.2
    | false => knOf r g
def knCut : Option Tmp → List (Tmp × Bool) → List (Tmp × Bool)
  | none, kn => kn
  | some _, [] => []
  | some d, q :: r => match Nat.beq q.1 d with
    | true => knCut (some d) r
    | false => q :: knCut (some d) r
noncomputable def execDraw (T : Tb) (C : Ca T) (fid : FuncId) (all : List Oper) (an : List (List Nat)) (N0 : Nat) : List Oper → St → Nat → List Rec → List (Tmp × Bool) → (St → Option α) → Option α
  | [], σ, _, rs, _, k => if (allPairs an rs all.length && backOk all 0) = true then k σ else none
  | o :: r, σ, nid, rs, kn, k => match o.guard with
    | none => drawStep T C fid an N0 o [] σ nid rs fun ρ rc => execDraw T C fid all an N0 r ρ (nid + newCnt T fid o) (rs ++ [rc]) (knCut o.dst kn) k
    | some (j, w) => match dstOf all j with
      | some g => match knOf kn g with
        | some b => match (b == w) with
          | true => drawStep T C fid an N0 o [g] σ nid rs fun ρ rc => execDraw T C fid all an N0 r ρ (nid + newCnt T fid o) (rs ++ [rc]) (knCut o.dst kn) k
          | false => execDraw T C fid all an N0 r ⟨putT σ.t o.dst (.tup []), σ.H⟩ (nid + newCnt T fid o) (rs ++ [⟨o.dst, [g], [], false, .none, nid, newCnt T fid o⟩]) (knCut o.dst kn) k
        | none => testG (tvOf σ g) w
          (fun b => drawStep T C fid an N0 o [g] σ nid rs fun ρ rc => execDraw T C fid all an N0 r ρ (nid + newCnt T fid o) (rs ++ [rc]) (knCut o.dst ((g, b) :: kn)) k)
          (fun b => execDraw T C fid all an N0 r ⟨putT σ.t o.dst (.tup []), σ.H⟩ (nid + newCnt T fid o) (rs ++ [⟨o.dst, [g], [], false, .none, nid, newCnt T fid o⟩]) (knCut o.dst ((g, b) :: kn)) k)
          (execDraw T C fid all an N0 r ⟨putT σ.t o.dst (.tup []), σ.H⟩ (nid + newCnt T fid o) (rs ++ [⟨o.dst, [g], [], false, .none, nid, newCnt T fid o⟩]) (knCut o.dst kn) k)
      | none => none

/-! ### code -/
inductive Ex where
  | normal
  | exit (id : Nat)
  | ret
def firstReg : Code → Nat
  | .region id _ _ => id
  | .seq a _ => firstReg a
  | .block _ c => firstReg c
  | .loop c => firstReg c
  | _ => 0
/-- No object of ours in it. -/
def plainA : Nat → AV → Bool
  | d + 1, .agg l => l.all (plainA d)
  | d + 1, .tup l => l.all (plainA d)
  | d + 1, .fn _ l => l.all (plainA d)
  | d + 1, .ref l => l.all (plainA d)
  | 0, .agg _ => false
  | 0, .tup _ => false
  | 0, .fn _ _ => false
  | 0, .ref _ => false
  | _, .osl _ _ => false
  | _, .bptr _ _ => false
  | _, .mth _ _ _ => false
  | _, .eptr _ _ _ _ => false
  | _, .isl _ _ _ _ => false
  | _, .iptr _ _ _ _ _ => false
  | _, _ => true
def verOf (r0 o v : Nat) : Nat := if r0 ≤ o then 0 else v
def trimA (r0 : Nat) (H : Nat → AO) (h0 : Nat) : AV → AV
  | .osl o ver => if o < h0 then (match H o with
    | .arr _ _ cur _ => if cur = ver then .osl o (verOf r0 o ver) else .top
    | _ => .top) else .top
  | .bptr o off => if o < h0 then .bptr o off else .top
  | .mth f o off => if o < h0 then .mth f o off else .top
  | .eptr _ _ _ _ => .top
  | .isl o ver i c => if o < h0 then (if o < r0 then (match H o with
    | .arr _ _ cur _ => if cur = ver then .isl o ver i c else .top
    | _ => .top) else .top) else .top
  | .iptr _ _ _ _ _ => .top
  | .ref cells => if cells.all (plainA depth) = true then .ref cells else .top
  | .dec p h => .bool (@decide p h)
  | .ndec p h => .bool (!@decide p h)
  | x => x
def trimT (f : AV → AV) (keep : List Tmp) : Nat → List AV → List AV
  | _, [] => []
  | i, x :: r => (if keep.contains i = true then f x else .top) :: trimT f keep (i + 1) r
def trimO (r0 : Nat) (f : AV → AV) : Nat → Nat → List AO → List AO
  | _, 0, _ => []
  | _, _, [] => []
  | i, n + 1, x :: r => (match x with
    | .arr t l ver dp => .arr t l (verOf r0 i ver) dp
    | .box cells => .box (cells.map f)
    | x => x) :: trimO r0 f (i + 1) n r
/-- At a loop's head: what is not kept is forgotten; the versions of its own objects (from r0 on) are told anew. -/
def trim (r0 : Nat) (keep : List Tmp) (h0 : Nat) (σ : St) : St :=
  ⟨trimT (mapA (trimA r0 (look σ.H) h0) depth) keep 0 σ.t, trimO r0 (mapA (trimA r0 (look σ.H) h0) depth) 0 h0 σ.H⟩
/-- A mark: the empty slice is to be a slice that nobody writes, not an object. -/
def softTy : Ty → Option Ty
  | .pr (.pr .bool .bool) e => some e
  | _ => none
/-- A mark: the empty slice is to be an object whose elements' slices are not its own. -/
def objT : Ty → Ty
  | .pr (.pr .bool .str) e => e
  | t => t
def objB : Ty → Bool
  | .pr (.pr .bool .str) _ => false
  | _ => true
/-- A mark: the object is to be let go. -/
def letTy : Ty → Bool
  | .pr (.pr .str .bool) _ => true
  | _ => false
/-- Empty slices become objects, or lists. -/
def promote : List (Tmp × Ty) → St → St
  | [], σ => σ
  | (i, t) :: r, σ => promote r (match tvOf σ i with
    | .zsl => (match softTy t with
      | some e => ⟨setT σ.t i (.sl e []), σ.H⟩
      | none => ⟨setT σ.t i (.osl σ.H.length 0), σ.H ++ [.arr (objT t) [] 0 (objB t)]⟩)
    | .osl o _ => if letTy t = true then freeze [o] σ else σ
    | _ => σ)
def loopIt (body : St → (Ex → St → Option α) → Option α) (nm : St → St) (k : Ex → St → Option α) : Nat → St → Option α
  | 0, _ => none
  | n + 1, σ => body σ fun e ρ => match e with
    | .normal => loopIt body nm k n (nm ρ)
    | e => k e ρ
/-- Two ways that come to the same. -/
noncomputable def both (x y : Option α) : Option α := @ite _ (x = y) (Classical.propDecidable _) x none
noncomputable def testK (c : AV) (x y : Option α) : Option α :=
  match c with
  | .anyb => both x y
  | c => testC c x y
noncomputable def exec (T : Tb) (C : Ca T) (fid : FuncId) (r0 n : Nat) : Code → St → (Ex → St → Option α) → Option α
  | .skip, σ, k => k .normal σ
  | .region _ ops false, σ, k => execOps T C fid ops.toList ops.toList σ fun ρ => k .normal ρ
  | .region _ ops true, σ, k => execDraw T C fid ops.toList (ancs ops.toList []) σ.H.length ops.toList σ σ.H.length [] [] fun ρ => k .normal ρ
  | .seq a b, σ, k => exec T C fid r0 n a σ fun e ρ => match e with
    | .normal => exec T C fid r0 n b ρ k
    | e => k e ρ
  | .cond c a b, σ, k => testK (opnd (tvOf σ) c) (exec T C fid r0 n a σ k) (exec T C fid r0 n b σ k)
  | .block id c, σ, k => exec T C fid r0 n c σ fun e ρ => match e with
    | .exit j => if j = id then k .normal ρ else k (.exit j) ρ
    | e => k e ρ
  | .loop c, σ, k =>
    let kp := T.keep fid (firstReg c)
    let σ0 := promote kp.2 σ
    loopIt (exec T C fid r0 n c) (trim r0 kp.1 σ0.H.length) k n (trim r0 kp.1 σ0.H.length σ0)
  | .exit id, σ, k => k (.exit id) σ
  | .ret, σ, k => k .ret σ
  | _, _, _ => none
end

/-! ### results and calls -/
def isAggA : AV → Bool
  | .agg _ => true
  | _ => false
/-- A result: whether it is made of cells, and its cells. -/
def resCells (T : Tb) (σ : St) : ResultVar → Option (Bool × List AV)
  | .tmp t => match cellsO (tvOf σ t) with
    | some l => some (isAggA (tvOf σ t), l)
    | none => none
  | .cell a t => match T.ty t, cellsAt (look σ.H) (tvOf σ a) with
    | some i, some cs => if i.size ≤ cs.length then some (i.k.isAgg, cs.take i.size) else none
    | _, _ => none
def expD (H : Nat → AO) : (t : Ty) → List AV → Option t.D
  | .sl e, [.osl o ver] => match H o with
    | .arr e' l cur _ => if cur = ver then (if h : e' = e then some (h ▸ l) else none) else none
    | _ => none
  | .pr a b, vs => match expD H a (vs.take a.size), expD H b (vs.drop a.size) with
    | some x, some y => some (x, y)
    | _, _ => none
  | t, vs => toD t vs
def shapeOk (t : Ty) (v : Bool × List AV) : Bool := (v.1 == t.isPr) && Nat.beq v.2.length t.size
def expL (H : Nat → AO) : (rs : List Ty) → List (Bool × List AV) → Option (DL rs)
  | [], [] => some ()
  | [a], [v] => if shapeOk a v = true then expD H a v.2 else none
  | a :: b :: r, v :: w => if shapeOk a v = true then (match expD H a v.2, expL H (b :: r) w with
    | some x, some y => some (x, y)
    | _, _ => none) else none
  | _, _ => none
def expXL (H : Nat → AO) : (rs : List Ty) → List (Bool × List AV) → Option (DL rs × List Nat)
  | [], [] => some ((), [])
  | [a], [v] => if shapeOk a v = true then toX H a v.2 else none
  | a :: b :: r, v :: w => if shapeOk a v = true then (match toX H a v.2, expXL H (b :: r) w with
    | some (x, i), some (y, j) => some ((x, y), i ++ j)
    | _, _ => none) else none
  | _, _ => none
def allR {β γ : Type} (f : β → Option γ) : List β → Option (List γ)
  | [] => some []
  | x :: r => match f x, allR f r with
    | some y, some s => some (y :: s)
    | _, _ => none
/-- What a function answers, out of its end. -/
def finish (T : Tb) (f : FuncId) (fn : Func) (e : Ex) (σ : St) : Option (DL (T.rs f)) :=
  match e with
  | .exit _ => none
  | _ => match allR (resCells T σ) fn.results.toList with
    | some vs => if T.fresh f = true then (match expXL (look σ.H) (T.rs f) vs with
        | some (d, ids) => if nodupB ids = true then some d else none
        | none => none) else expL (look σ.H) (T.rs f) vs
    | none => none
/-- The same of one that works on its caller's objects. -/
def finishT (T : Tb) (fn : Func) (e : Ex) (σ : St) : Option (AV × List AO) :=
  match e with
  | .exit _ => none
  | _ => match allR (resCells T σ) fn.results.toList with
    | some vs => some (resA (vs.map fun p => ofCells p.1 p.2), σ.H)
    | none => none
def st0 (fn : Func) (args : List AV) (H : List AO) : St := ⟨args ++ List.replicate (fn.ntmps - args.length) .top, H⟩
/-- The functions, to a depth. 'orc': what is known of functions that are not interpreted. -/
noncomputable def run (T : Tb) (orc : (f : FuncId) → List AV → Option (DL (T.rs f))) : Nat → Ca T
  | 0 => ⟨fun _ _ => none, fun _ _ _ _ => none⟩
  | n + 1 => ⟨fun f args => match T.fn f with
      | some fn => match fn.body with
        | some c => exec T (run T orc n) f 0 n c (st0 fn args []) (finish T f fn)
        | none => none
      | none => orc f args,
    fun f args H k => if T.thr f = true then (match T.fn f with
      | some fn => match fn.body with
        | some c => exec T (run T orc n) f H.length n c (st0 fn args H) (fun e σ => (finishT T fn e σ).bind fun x => k x.1 x.2)
        | none => none
      | none => none) else none⟩
end Go.Proofs.YtnbaahpbmhhofaaDoor.Fw

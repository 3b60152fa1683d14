/- An interpreter of translated Go over plain values: slices are lists, structs are tuples, what a call makes is an object with a number. Here: the values, the objects, the interpreter. Nothing is claimed here. -/
import Derived.Below
import Derived.Laws.Entries
import Derived.Test.YtnbaahpbmhhofaaDoorFwGl
namespace Go.Proofs.YtnbaahpbmhhofaaDoor.Fw
open Go Go.RowKit
set_option linter.unusedVariables false

/-! ### plain data -/
/-- The kinds of plain data: a number, a bool, a string, a slice, two things one behind the other (a struct's fields). -/
inductive Ty where
  | int (k : IntKind)
  | bool
  | str
  | sl (e : Ty)
  | pr (a b : Ty)
  deriving DecidableEq
/-- What such data are in Lean. -/
@[reducible] def Ty.D : Ty → Type
  | .int _ => Int
  | .bool => Bool
  | .str => ByteArray
  | .sl e => List e.D
  | .pr a b => a.D × b.D
/-- How many cells they take. -/
def Ty.size : Ty → Nat
  | .pr a b => a.size + b.size
  | _ => 1
def Ty.dflt : (t : Ty) → t.D
  | .int _ => (0 : Int)
  | .bool => false
  | .str => (⟨#[]⟩ : ByteArray)
  | .sl _ => []
  | .pr a b => (a.dflt, b.dflt)
/-- Results: none, one, several. -/
@[reducible] def DL : List Ty → Type
  | [] => Unit
  | [a] => a.D
  | a :: b :: r => a.D × DL (b :: r)

/-! ### the interpreter's values -/
inductive AV where
  | int (k : IntKind) (n : Int)
  | bool (b : Bool)
  /-- A test's outcome, and its opposite. -/
  | dec (p : Prop) (h : Decidable p)
  | ndec (p : Prop) (h : Decidable p)
  /-- A bool that is not known. -/
  | anyb
  | str (s : ByteArray)
  /-- A slice that nobody writes while we look on. -/
  | sl (t : Ty) (l : List t.D)
  /-- An empty slice without room. -/
  | zsl
  /-- All of object o, as it was at its version. -/
  | osl (o ver : Nat)
  /-- Cell 'off' of variable o. -/
  | bptr (o off : Nat)
  /-- Cell 'off' of element i of object o. -/
  | eptr (o ver i off : Nat)
  | nilp
  /-- A place that nobody writes while we look on, and what stands there. -/
  | ref (cells : List AV)
  | agg (cells : List AV)
  | tup (vs : List AV)
  | fn (f : FuncId) (caps : List AV)
  /-- A method of variable o, as a value. -/
  | mth (f : FuncId) (o off : Nat)
  /-- A package variable's place. -/
  | glb (g : Nat)
  /-- The slice of object o's own that stands in cell c of its element i. -/
  | isl (o ver i c : Nat)
  /-- Element j of that slice. -/
  | iptr (o ver i c j : Nat)
  /-- Anything. -/
  | top
  deriving Inhabited

/-- Objects: not there, let go, a variable, a slice's array. 'dp': its elements' own slices are its own, too. -/
inductive AO where
  | hole
  | dead
  | box (cells : List AV)
  | arr (t : Ty) (l : List t.D) (ver : Nat) (dp : Bool)
  deriving Inhabited

structure St where
  t : List AV
  H : List AO

/-! ### types and tables -/
inductive TK where
  | int (k : IntKind)
  | bool
  | slice (e : TypeId)
  | struct (fs : List (Nat × TypeId))
  | array (n : Nat) (e : TypeId)
  | str
  | other
structure TI where
  k : TK
  size : Nat
  bytes : Nat
  zero : List AV
/-- What the interpreter knows of a program, and what it is told to do. -/
structure Tb where
  fn : FuncId → Option Func
  ty : TypeId → Option TI
  /-- A type as plain data. -/
  dt : TypeId → Option Ty
  rs : FuncId → List Ty
  /-- The slices among a function's results are new. -/
  fresh : FuncId → Bool
  /-- The call whose result goes there hands it to us. -/
  own : FuncId → Tmp → Bool
  /-- At a loop's head: what is kept; which empty slices become objects. -/
  keep : FuncId → Nat → List Tmp × List (Tmp × Ty)
  /-- It works on its caller's objects. -/
  thr : FuncId → Bool
/-- The functions that may be called. -/
structure Ca (T : Tb) where
  pure : (f : FuncId) → List AV → Option (DL (T.rs f))
  thr : {α : Type} → FuncId → List AV → List AO → (AV → List AO → Option α) → Option α

/-! ### small words -/
/-- A number brought into its kind's range; told so that the kernel does not reckon with it. -/
noncomputable def wr (k : IntKind) (n : Int) : Int := Classical.choose (⟨k.wrap n, rfl⟩ : ∃ m, m = k.wrap n)
theorem wr_eq (k : IntKind) (n : Int) : wr k n = k.wrap n := Classical.choose_spec (⟨k.wrap n, rfl⟩ : ∃ m, m = k.wrap n)
def rd (xs : List Int) (i : Int) : Int := xs.getD i.toNat 0
noncomputable def shl (k : IntKind) (x y : Int) : Int := wr k (x * 2 ^ min y.toNat k.bits)
def shr (k : IntKind) (x y : Int) : Int := x / 2 ^ min y.toNat k.bits
/-- A string's byte. -/
def strAt (s : ByteArray) (i : Int) : Int := ((s[i.toNat]?).getD 0).toNat
def mx (a b : Int) : Int := if a < b then b else a
def mn (a b : Int) : Int := if b < a then b else a
/-- How long a slice may get. -/
def lim : Nat := 1099511627776
def limB (n : Nat) : Bool := Nat.blt n lim

def cellsO : AV → Option (List AV)
  | .agg l => some l
  | .top => none
  | .tup _ => none
  | x => some [x]
/-- A value out of its cells. -/
def ofCells (ag : Bool) (l : List AV) : AV := if ag = true then .agg l else l.headD .top
def toAVs : (t : Ty) → t.D → List AV
  | .int k, n => [.int k n]
  | .bool, b => [.bool b]
  | .str, s => [.str s]
  | .sl e, l => [.sl e l]
  | .pr a b, d => toAVs a d.1 ++ toAVs b d.2
def Ty.isPr : Ty → Bool
  | .pr _ _ => true
  | _ => false
def enc (t : Ty) (d : t.D) : AV := ofCells t.isPr (toAVs t d)
def boolOf : AV → Option Bool
  | .bool b => some b
  | .dec p h => some (@decide p h)
  | .ndec p h => some (!@decide p h)
  | _ => none
/-- Data out of cells, but for what our own objects hold. -/
def toD : (t : Ty) → List AV → Option t.D
  | .int k, [.int k' n] => if k' = k then some n else none
  | .bool, [v] => boolOf v
  | .str, [.str s] => some s
  | .sl _, [.zsl] => some []
  | .sl e, [.sl e' l] => if h : e' = e then some (h ▸ l) else none
  | .pr a b, vs => match toD a (vs.take a.size), toD b (vs.drop a.size) with
    | some x, some y => some (x, y)
    | _, _ => none
  | _, _ => none
/-- Data out of cells, our own objects' and no others' slices; the objects are told. -/
def toX (H : Nat → AO) : (t : Ty) → List AV → Option (t.D × List Nat)
  | .int k, [.int k' n] => if k' = k then some (n, []) else none
  | .bool, [v] => (boolOf v).map fun b => (b, [])
  | .str, [.str s] => some (s, [])
  | .sl _, [.zsl] => some ([], [])
  | .sl e, [.osl o ver] => match H o with
    | .arr e' l cur dp => if dp = true then (if cur = ver then (if h : e' = e then some (h ▸ l, [o]) else none) else none) else none
    | _ => none
  | .pr a b, vs => match toX H a (vs.take a.size), toX H b (vs.drop a.size) with
    | some (x, i), some (y, j) => some ((x, y), i ++ j)
    | _, _ => none
  | _, _ => none
/-- The numbers of the slice in cell c of data. -/
def slAt : (t : Ty) → Nat → t.D → Option (IntKind × List Int)
  | .sl (.int k), 0, l => some (k, l)
  | .pr a b, c, d => if Nat.blt c a.size = true then slAt a c d.1 else slAt b (c - a.size) d.2
  | _, _, _ => none
/-- One of them is another. -/
def slSet : (t : Ty) → Nat → t.D → Nat → Int → t.D
  | .sl (.int k), 0, l, j, n => List.set (α := Int) l j n
  | .pr a b, c, d, j, n => if Nat.blt c a.size = true then (slSet a c d.1 j n, d.2) else (d.1, slSet b (c - a.size) d.2 j n)
  | _, _, d, _, _ => d
/-- An element's cells from c on, its slices told as parts of the object. -/
def isAVs (o ver i : Nat) : (t : Ty) → Nat → t.D → List AV
  | .int k, _, n => [.int k n]
  | .bool, _, b => [.bool b]
  | .str, _, s => [.str s]
  | .sl _, c, _ => [.isl o ver i c]
  | .pr a b, c, d => isAVs o ver i a c d.1 ++ isAVs o ver i b (c + a.size) d.2
def Ty.flat : Ty → Bool
  | .sl _ => false
  | .pr a b => a.flat && b.flat
  | _ => true
def nodupB : List Nat → Bool
  | [] => true
  | x :: r => !r.contains x && nodupB r

def look (H : List AO) (o : Nat) : AO := H.getD o .hole
def setAt : List AO → Nat → AO → List AO
  | [], 0, x => [x]
  | [], n + 1, x => .hole :: setAt [] n x
  | _ :: r, 0, x => x :: r
  | y :: r, n + 1, x => y :: setAt r n x
def applyU : List (Nat × AO) → List AO → List AO
  | [], H => H
  | (o, x) :: u, H => applyU u (setAt H o x)
def setT : List AV → Nat → AV → List AV
  | [], _, _ => []
  | _ :: r, 0, x => x :: r
  | y :: r, n + 1, x => y :: setT r n x
def putT (t : List AV) : Option Tmp → AV → List AV
  | none, _ => t
  | some d, v => setT t d v
def kill : List Nat → List (Nat × AO)
  | [] => []
  | o :: r => (o, .dead) :: kill r

def ofVal : Value → AV
  | .bool b => .bool b
  | .int k n => .int k n
  | .string s => .str s
  | .slice none 0 0 => .zsl
  | .pointer none => .nilp
  | _ => .top
def opnd (tv : Nat → AV) : Operand → AV
  | .tmp i => tv i
  | .const v => ofVal v
  | .func f => .fn f []
  | .global g => .glb g

/-- A walk through a value's parts. -/
def mapA (f : AV → AV) : Nat → AV → AV
  | d + 1, .agg l => .agg (l.map (mapA f d))
  | d + 1, .tup l => .tup (l.map (mapA f d))
  | d + 1, .fn g l => .fn g (l.map (mapA f d))
  | 0, .agg _ => .top
  | 0, .tup _ => .top
  | 0, .fn _ _ => .top
  | _, x => f x
def allM (f : AV → Option AV) : List AV → Option (List AV)
  | [] => some []
  | x :: r => match f x, allM f r with
    | some y, some s => some (y :: s)
    | _, _ => none
/-- What a callee is shown of a value: our objects as they stand. -/
def snap (H : Nat → AO) : Nat → AV → Option AV
  | d + 1, .agg l => (allM (snap H d) l).map .agg
  | d + 1, .tup l => (allM (snap H d) l).map .tup
  | d + 1, .fn g l => (allM (snap H d) l).map (.fn g)
  | d + 1, .ref l => (allM (snap H d) l).map .ref
  | d + 1, .bptr o off => match H o with
    | .box cells => (allM (snap H d) (cells.drop off)).map .ref
    | _ => none
  | d + 1, .osl o ver => match H o with
    | .arr t l cur _ => if cur = ver then some (.sl t l) else none
    | _ => none
  | _, .eptr _ _ _ _ => none
  | _, .mth _ _ _ => none
  | _, .isl _ _ _ _ => none
  | _, .iptr _ _ _ _ _ => none
  | d + 1, .dec p h => some (.bool (@decide p h))
  | d + 1, .ndec p h => some (.bool (!@decide p h))
  | 0, _ => none
  | _ + 1, x => some x
/-- Which of our arrays a value leads to. -/
def idsA (H : Nat → AO) : Nat → AV → List Nat
  | d + 1, .agg l => l.flatMap (idsA H d)
  | d + 1, .tup l => l.flatMap (idsA H d)
  | d + 1, .fn _ l => l.flatMap (idsA H d)
  | d + 1, .ref l => l.flatMap (idsA H d)
  | d + 1, .bptr o off => match H o with
    | .box cells => (cells.drop off).flatMap (idsA H d)
    | _ => []
  | _ + 1, .osl o _ => [o]
  | _, _ => []
def depth : Nat := 6
def Ty.hasSl : Ty → Bool
  | .sl _ => true
  | .pr a b => a.hasSl || b.hasSl
  | _ => false
/-- How many slices. -/
def Ty.sls : Ty → Nat
  | .sl _ => 1
  | .pr a b => a.sls + b.sls
  | _ => 0

/-- The version of what is handed to us: of elements with slices, one at which no whole element is stored. -/
def ver0 (e : Ty) : Nat := if e.flat = true then 0 else 1
/-- The cells of a result that is ours from now on, and the new objects. -/
def impC (n : Nat) : (t : Ty) → t.D → List AV × List (Nat × AO)
  | .int k, x => ([.int k x], [])
  | .bool, x => ([.bool x], [])
  | .str, x => ([.str x], [])
  | .sl e, l => ([.osl n (ver0 e)], [(n, .arr e l (ver0 e) true)])
  | .pr a b, d => let x := impC n a d.1; let y := impC (n + a.sls) b d.2; (x.1 ++ y.1, x.2 ++ y.2)
def impT (own : Bool) (n : Nat) (t : Ty) (d : t.D) : AV × List (Nat × AO) :=
  if own = true then let x := impC n t d; (ofCells t.isPr x.1, x.2) else (enc t d, [])
def impL (own : Bool) (n : Nat) : (rs : List Ty) → DL rs → List AV × List (Nat × AO)
  | [], _ => ([], [])
  | [a], d => let x := impT own n a d; ([x.1], x.2)
  | a :: b :: r, d => let x := impT own n a d.1; let y := impL own (n + a.sls) (b :: r) d.2; (x.1 :: y.1, x.2 ++ y.2)
def resA : List AV → AV
  | [v] => v
  | l => .tup l
def impR (own : Bool) (n : Nat) (rs : List Ty) (d : DL rs) : AV × List (Nat × AO) :=
  let x := impL own n rs d
  (resA x.1, x.2)

/-! ### one operation -/
section
variable {α : Type}
def testC (c : AV) (x y : Option α) : Option α :=
  match c with
  | .bool b => if b = true then x else y
  | .dec p h => @ite _ p h x y
  | .ndec p h => @ite _ p h y x
  | _ => none
noncomputable def arithC (op : BinOp) (k : IntKind) (a b : Int) (kk : AV → Option α) : Option α :=
  match op with
  | .add => kk (.int k (wr k (a + b)))
  | .sub => kk (.int k (wr k (a - b)))
  | .mul => kk (.int k (wr k (a * b)))
  | .quo => if b = 0 then none else kk (.int k (wr k (a.tdiv b)))
  | .rem => if b = 0 then none else kk (.int k (a.tmod b))
  | .and => kk (.int k (Go.bits .and k a b))
  | .or => kk (.int k (Go.bits .or k a b))
  | .xor => kk (.int k (Go.bits .xor k a b))
  | .andNot => kk (.int k (Go.bits .andNot k a b))
  | .eql => kk (.dec (a = b) inferInstance)
  | .neq => kk (.ndec (a = b) inferInstance)
  | .lss => kk (.dec (a < b) inferInstance)
  | .leq => kk (.dec (a ≤ b) inferInstance)
  | .gtr => kk (.dec (a > b) inferInstance)
  | .geq => kk (.dec (a ≥ b) inferInstance)
  | _ => none
/-- The equality of cells that are numbers or bools. -/
def eqCells : List AV → List AV → Option Bool
  | [], [] => some true
  | .int k a :: r, .int k' b :: s => if k = k' then (eqCells r s).map fun e => (a == b) && e else none
  | _, _ => none
noncomputable def binC (op : BinOp) (x y : AV) (kk : AV → Option α) : Option α :=
  match x, y with
  | .int k a, .int k' b =>
    match op with
    | .shl => if b < 0 then none else kk (.int k (shl k a b))
    | .shr => if b < 0 then none else kk (.int k (shr k a b))
    | _ => if k = k' then arithC op k a b kk else none
  | .agg l, .agg m => match op, eqCells l m with
    | .eql, some e => kk (.bool e)
    | .neq, some e => kk (.bool (!e))
    | _, _ => none
  | _, _ => none
def binB (op : BinOp) (x y : AV) (kk : AV → Option α) : Option α :=
  match op, boolOf x, boolOf y with
  | .eql, some a, some b => kk (.bool (a == b))
  | .neq, some a, some b => kk (.bool (a != b))
  | _, _, _ => none
/-- Is it empty? -/
def emptyC (H : Nat → AO) (x : AV) (e n : Option α) : Option α :=
  match x with
  | .zsl => e
  | .sl t l => if l.isEmpty = true then e else n
  | .osl o ver => match H o with
    | .arr t l cur _ => if cur = ver then (if l.isEmpty = true then e else n) else none
    | _ => none
  | _ => none
def isNilO : Operand → Bool
  | .const (.slice none 0 0) => true
  | _ => false
/-- A slice is compared with nil: of an empty one it is not known. -/
def nilC (op : BinOp) (H : Nat → AO) (x : AV) (y : Operand) (k : AV → Option α) : Option α :=
  match op with
  | .eql => if isNilO y = true then emptyC H x (k .anyb) (k (.bool false)) else none
  | .neq => if isNilO y = true then emptyC H x (k .anyb) (k (.bool true)) else none
  | _ => none
def TK.isAgg : TK → Bool
  | .struct _ => true
  | .array _ _ => true
  | _ => false
/-- A value of a type at cells. -/
def takeT (i : TI) (l : List AV) : AV := ofCells i.k.isAgg (l.take i.size)
/-- Cells with others put in from a place on. -/
def putCells : List AV → Nat → List AV → List AV
  | cs, _, [] => cs
  | cs, n, v :: r => putCells (setT cs n v) (n + 1) r
/-- The parts laid at their fields. -/
def fillC (place : Nat → Option (Nat × Nat)) : List AV → List (Nat × AV) → Option (List AV)
  | cs, [] => some cs
  | cs, (i, v) :: r => match place i with
    | some (off, size) => match cellsO v with
      | some ys => if ys.length = size then (if off + size ≤ cs.length then fillC place (putCells cs off ys) r else none) else none
      | none => none
    | none => none
def nthF (fs : List (Nat × TypeId)) (i : Nat) : Option (Nat × TypeId) := fs[i]?
/-- The fields' places and sizes. -/
def places (T : Tb) : List (Nat × TypeId) → Option (List (Nat × Nat))
  | [] => some []
  | f :: r => match T.ty f.2, places T r with
    | some j, some s => some ((f.1, j.size) :: s)
    | _, _ => none
/-- The numbers of literal cells. -/
def intsOf (k : IntKind) : List AV → Option (List Int)
  | [] => some []
  | .int k' n :: r => if k' = k then (intsOf k r).map (n :: ·) else none
  | _ => none
def dataAll (t : Ty) : List AV → Option (List t.D)
  | [] => some []
  | v :: r => match (cellsO v).bind (toD t), dataAll t r with
    | some x, some s => some (x :: s)
    | _, _ => none
def dataAllX (H : Nat → AO) (t : Ty) : List AV → Option (List t.D × List Nat)
  | [] => some ([], [])
  | v :: r => match (cellsO v).bind (toX H t), dataAllX H t r with
    | some (x, i), some (s, j) => some (x :: s, i ++ j)
    | _, _ => none
/-- Parts 0, 1, 2 .. in order. -/
def partsIn : Nat → List (Nat × AV) → Option (List AV)
  | _, [] => some []
  | i, (j, v) :: r => if j = i then (partsIn (i + 1) r).map (v :: ·) else none
/-- An array of what is given: with what our objects hold, if it is all ours, else without. -/
def newArr (H : Nat → AO) (t : Ty) (vs : List AV) (nid : Nat) : Option (List (Nat × AO)) :=
  match dataAllX H t vs with
  | some (l, ids) => if nodupB ids = true then some (kill ids ++ [(nid, .arr t l 0 true)]) else none
  | none => match dataAll t vs with
    | some l => some [(nid, .arr t l 0 false)]
    | none => none

/-- What is read of a place: the cells from there on. -/
def cellsAt (H : Nat → AO) : AV → Option (List AV)
  | .bptr o off => match H o with
    | .box cells => some (cells.drop off)
    | _ => none
  | .eptr o ver i off => match H o with
    | .arr t l cur dp => if cur = ver then (if dp = true then (if t.flat = true then some ((toAVs t (l.getD i t.dflt)).drop off) else if Nat.blt 0 cur = true then some ((isAVs o ver i t 0 (l.getD i t.dflt)).drop off) else none) else some ((toAVs t (l.getD i t.dflt)).drop off)) else none
    | _ => none
  | .ref cells => some cells
  | _ => none

/-- A slice's elements, for an append's second operand: the kind, the elements, whether they are all ours, what dies of it. -/
inductive Src where
  | some (t : Ty) (l : List t.D) (own : Bool) (dies : List Nat)
  | empty
  | none
def srcOf (H : Nat → AO) : AV → Src
  | .zsl => .empty
  | .sl t l => .some t l false []
  | .osl o ver => match H o with
    | .arr t l cur dp => if cur = ver then (if t.flat = true then .some t l true [] else (if dp = true then .some t l true [o] else .some t l false [])) else .none
    | _ => .none
  | _ => .none

/-- May elements that are ours (or not) go into an array whose elements are its own (or not)? -/
def fitsIn (t : Ty) (own dp : Bool) : Bool := t.flat || (own == dp)
def appendC (T : Tb) (tv : Nat → AV) (H : Nat → AO) (nid : Nat) (st : TypeId) (s x : AV) (k : AV → List (Nat × AO) → Option α) : Option α :=
  match T.ty st with
  | some ⟨.slice e, _, _, _⟩ => match T.dt e with
    | some t => match s, srcOf H x with
      | .zsl, .some t' l' own dies => if h : t' = t then (if l'.length < lim then k (.osl nid 0) (kill dies ++ [(nid, .arr t (h ▸ l') 0 (own || t.flat))]) else none) else none
      | .osl o ver, .some t' l' own dies => match H o with
        | .arr t2 l cur dp => if cur = ver then (if h : t' = t2 then (if t2 = t then (if fitsIn t2 own dp = true then (if dies.contains o = true then none else (if l.length + l'.length < lim then k (.osl o (ver + 1)) (kill dies ++ [(o, .arr t2 (l ++ (h ▸ l')) (cur + 1) dp)]) else none)) else none) else none) else none) else none
        | _ => none
      | _, _ => none
    | none => none
  | _ => none

def lenC (H : Nat → AO) (x : AV) (k : AV → Option α) : Option α :=
  match x with
  | .sl _ l => k (.int .i64 (l.length : Int))
  | .zsl => k (.int .i64 0)
  | .osl o ver => match H o with
    | .arr _ l cur _ => if cur = ver then k (.int .i64 (l.length : Int)) else none
    | _ => none
  | .isl o ver i c => match H o with
    | .arr t l cur dp => if cur = ver then (if dp = true then (match slAt t c (l.getD i t.dflt) with
      | some (_, m) => k (.int .i64 (m.length : Int))
      | none => none) else none) else none
    | _ => none
  | _ => none
/-- 0 <= i < n, or nothing is told. -/
def inC (i : Int) (n : Int) (x : Option α) : Option α := if 0 ≤ i then (if i < n then x else none) else none
/-- An element of a package variable that is an array of numbers. -/
def glbC (T : Tb) (g n : Nat) (e : TypeId) (i : Int) (k : AV → List (Nat × AO) → Option α) : Option α :=
  match T.ty e, glTab g with
  | some ⟨.int kd, 1, _, _⟩, some (k', l) => if k' = kd then (if l.length = n then inC i (n : Int) (k (.ref [.int kd (rd l i)]) []) else none) else none
  | _, _ => none
/-- An element of a slice that stands in an element of ours. -/
def islC (H : Nat → AO) (size o ver i c : Nat) (j : Int) (k : AV → List (Nat × AO) → Option α) : Option α :=
  match H o with
  | .arr t l cur dp => if cur = ver then (if dp = true then (if size = 1 then (match slAt t c (l.getD i t.dflt) with
    | some (_, m) => inC j (m.length : Int) (k (.iptr o ver i c j.toNat) [])
    | none => none) else none) else none) else none
  | _ => none
/-- A number is stored there. -/
def iputC (H : Nat → AO) (o ver i c j : Nat) (ys : List AV) (k : AV → List (Nat × AO) → Option α) : Option α :=
  match H o with
  | .arr t l cur dp => if cur = ver then (if dp = true then (match slAt t c (l.getD i t.dflt), ys with
    | some (k1, m), [.int k2 y] => if k1 = k2 then k .top [(o, .arr t (l.set i (slSet t c (l.getD i t.dflt) j y)) cur dp)] else none
    | _, _ => none) else none) else none
  | _ => none
/-- A whole element with slices is stored: what our objects hold. -/
def wputC (H : Nat → AO) (p j : Nat) (d : Ty) (l : List d.D) (cur : Nat) (dp : Bool) (ys : List AV) (k : AV → List (Nat × AO) → Option α) : Option α :=
  if dp = true then (if cur = 0 then (match toX H d ys with
    | some (y, ids) => if nodupB ids = true then (if ids.contains p = true then none else k .top (kill ids ++ [(p, .arr d (l.set j y) cur dp)])) else none
    | none => none) else none) else none
/-- A bound of a slice. -/
def bound (tv : Nat → AV) (o : Option Operand) (d : Int) : Option Int :=
  match o with
  | none => some d
  | some x => match opnd tv x with
    | .int _ n => some n
    | _ => none

/-- Both are one temporary. -/
def sameTmp : Operand → Operand → Bool
  | .tmp i, .tmp j => i == j
  | _, _ => false
/-- Number of new objects that an operation may make. -/
def slsL : List Ty → Nat
  | [] => 0
  | a :: r => a.sls + slsL r
def newCnt (T : Tb) (fid : FuncId) (o : Oper) : Nat :=
  match o.op with
  | .alloc _ | .box _ _ | .makeSlice _ _ _ | .buildSlice _ _ _ => 1
  | .call c => match c.callee with
    | .value (.func g) => slsL (T.rs g)
    | .builtin .append => 1
    | .value _ => 8
    | _ => 0
  | _ => 0

def calleeOf (tv : Nat → AV) : Callee → Option (FuncId × List AV)
  | .value f => match opnd tv f with
    | .fn g caps => some (g, caps)
    | _ => none
  | _ => none
def ownsAt (T : Tb) (fid : FuncId) (g : FuncId) (dst : Option Tmp) : Bool :=
  match dst with
  | some d => T.own fid d && T.fresh g
  | none => false

/-- Its result shares nothing with what it is given. -/
def apartR (T : Tb) (g : FuncId) : Bool := T.fresh g || !(T.rs g).any Ty.hasSl
def pureC (T : Tb) (C : Ca T) (fid : FuncId) (H : Nat → AO) (nid : Nat) (dst : Option Tmp) (g : FuncId) (args : List AV) (k : AV → List (Nat × AO) → Option α) : Option α :=
  if (apartR T g || (args.flatMap (idsA H depth)).isEmpty) = true then
    match allM (snap H depth) args with
    | some as => (C.pure g as).bind fun d => let r := impR (ownsAt T fid g dst) nid (T.rs g) d; k r.1 r.2
    | none => none
  else none

/-- All of an array of ours but its end, with no room behind it. -/
def cutC (T : Tb) (tv : Nat → AV) (H : Nat → AO) (se : TypeId) (o ver : Nat) (lo hi mxo : Option Operand) (k : AV → List (Nat × AO) → Option α) : Option α :=
  match lo, hi, mxo with
  | none, some h, some m => match opnd tv h, opnd tv m with
    | .int _ b, .int _ c => match H o with
      | .arr d l cur dp => if cur = ver then (if d.flat = true then (if (T.ty se).map TI.size = some d.size then (if b = c then (if 0 ≤ b then (if b ≤ (l.length : Int) then k (.osl o (ver + 1)) [(o, .arr d (l.take b.toNat) (cur + 1) dp)] else none) else none) else none) else none) else none) else none
      | _ => none
    | _, _ => none
  | _, _, _ => none
/-- A part of an array of ours: the array is let go, nobody writes it from now on. -/
def letC (T : Tb) (tv : Nat → AV) (H : Nat → AO) (se : TypeId) (o ver : Nat) (lo hi : Option Operand) (k : AV → List (Nat × AO) → Option α) : Option α :=
  match H o with
  | .arr d l cur _ => if cur = ver then (if (T.ty se).map TI.size = some d.size then (match bound tv lo 0, bound tv hi (l.length : Int) with
    | some a, some b => if 0 ≤ a then (if a ≤ b then (if b ≤ (l.length : Int) then k (.sl d ((l.take b.toNat).drop a.toNat)) [(o, .dead)] else none) else none) else none
    | _, _ => none) else none) else none
  | _ => none
noncomputable def stepE (T : Tb) (C : Ca T) (fid : FuncId) (tv : Nat → AV) (H : Nat → AO) (nid : Nat) (o : Oper) (k : AV → List (Nat × AO) → Option α) : Option α :=
  match o.op with
  | .move x | .assign x => k (opnd tv x) []
  | .pick c a b => testC (opnd tv c) (k (opnd tv a) []) (k (opnd tv b) [])
  | .alloc t => match T.ty t with
    | some i => k (.bptr nid 0) [(nid, .box i.zero)]
    | none => none
  | .box _ x => match cellsO (opnd tv x) with
    | some cs => k (.bptr nid 0) [(nid, .box cs)]
    | none => none
  | .build t ps => match T.ty t with
    | some ⟨.struct fs, _, _, z⟩ => match places T fs with
      | some ps' => match fillC (fun i => ps'[i]?) z (ps.toList.map fun p => (p.1, opnd tv p.2)) with
        | some cs => k (.agg cs) []
        | none => none
      | none => none
    | some ⟨.array _ e, _, _, z⟩ => match T.ty e with
      | some j => match fillC (fun i => some (i * j.size, j.size)) z (ps.toList.map fun p => (p.1, opnd tv p.2)) with
        | some cs => k (.agg cs) []
        | none => none
      | none => none
    | _ => none
  | .buildSlice t len ps => match T.ty t with
    | some ⟨.slice e, _, _, _⟩ => if len = 0 then (match ps.toList, T.dt e with | [], some _ => k .zsl [] | _, _ => none) else match T.dt e, partsIn 0 (ps.toList.map fun p => (p.1, opnd tv p.2)) with
      | some d, some vs => if vs.length = len then (if len * d.size ≤ 16777216 then match newArr H d vs nid with
        | some u => k (.osl nid 0) u
        | none => none else none) else none
      | _, _ => none
    | _ => none
  | .load t a => match T.ty t, cellsAt H (opnd tv a) with
    | some i, some cs => if i.size ≤ cs.length then k (takeT i cs) [] else none
    | _, _ => none
  | .store t a x => match T.ty t, cellsO (opnd tv x) with
    | some i, some ys => if ys.length = i.size then match opnd tv a with
      | .bptr p off => match H p with
        | .box cells => if off + i.size ≤ cells.length then k .top [(p, .box (putCells cells off ys))] else none
        | _ => none
      | .eptr p ver j off => match H p with
        | .arr d l cur dp => if cur = ver then (if off = 0 then (if i.size = d.size then (if d.flat = true then (match toD d ys with
          | some y => k .top [(p, .arr d (l.set j y) cur dp)]
          | none => none) else wputC H p j d l cur dp ys k) else none) else none) else none
        | _ => none
      | .iptr p ver i c j => iputC H p ver i c j ys k
      | _ => none else none
    | _, _ => none
  | .nilCheck x => match opnd tv x with
    | .bptr p off => match H p with
      | .box _ => k (.bptr p off) []
      | _ => none
    | .ref cells => k (.ref cells) []
    | .fn f caps => k (.fn f caps) []
    | _ => none
  | .binOp op t x y _ => match opnd tv x, opnd tv y with
    | .int k1 a, .int k2 b => binC op (.int k1 a) (.int k2 b) fun v => k v []
    | .agg l, .agg m => match T.ty t with
      | some ⟨.struct fs, _, _, _⟩ => if (fs.map (·.1) == List.range fs.length) && fs.all (fun f => match T.ty f.2 with | some ⟨.int _, _, _, _⟩ => true | _ => false) && (l.length == fs.length) then binC op (.agg l) (.agg m) fun v => k v [] else none
      | _ => none
    | a, b => match T.ty t with
      | some ⟨.bool, _, _, _⟩ => binB op a b fun v => k v []
      | some ⟨.slice _, _, _, _⟩ => nilC op H a y fun v => k v []
      | _ => none
  | .unOp op _ x => match op, opnd tv x with
    | .not, .bool b => k (.bool (!b)) []
    | .not, .dec p h => k (.ndec p h) []
    | .not, .ndec p h => k (.dec p h) []
    | .neg, .int kd n => k (.int kd (wr kd (0 - n))) []
    | _, _ => none
  | .convert s t x => match T.ty s, T.ty t, opnd tv x with
    | some ⟨.int _, _, _, _⟩, some ⟨.int kd, _, _, _⟩, .int _ n => k (.int kd (wr kd n)) []
    | _, _, _ => none
  | .makeFunc (.func f) first caps => if first.size = 0 then k (.fn f (caps.toList.map (opnd tv))) [] else (match first.toList, caps.toList with
    | [x], [] => match opnd tv x with
      | .bptr p off => k (.mth f p off) []
      | _ => none
    | _, _ => none)
  | .makeSlice t a b => match T.ty t, opnd tv a, opnd tv b with
    | some ⟨.slice e, _, _, _⟩, .int .i64 n, .int .i64 _ => if sameTmp a b = true then match T.dt e with
      | some d => if 0 ≤ n then (if limB n.toNat = true then k (.osl nid 0) [(nid, .arr d (List.replicate n.toNat d.dflt) 0 true)] else none) else none
      | none => none else none
    | _, _, _ => none
  | .slice t x lo hi mxo => match T.ty t, opnd tv x with
    | some ⟨.slice se, _, _, _⟩, .sl e l => if (T.ty se).map TI.size = some e.size then match (if mxo.isSome && hi.isNone then none else bound tv lo 0), bound tv hi (l.length : Int), bound tv mxo (l.length : Int) with
      | some a, some b, some m => if 0 ≤ a then (if a ≤ b then (if b ≤ m then (if m ≤ (l.length : Int) then k (.sl e ((l.take b.toNat).drop a.toNat)) [] else none) else none) else none) else none
      | _, _, _ => none else none
    | some ⟨.slice se, _, _, _⟩, .osl o ver => match mxo with
      | some m => cutC T tv H se o ver lo hi (some m) k
      | none => letC T tv H se o ver lo hi k
    | _, _ => none
  | .fieldAddr t x f => match T.ty t with
    | some ⟨.struct fs, _, _, _⟩ => match nthF fs f with
      | some (off, ft) => match T.ty ft with
        | some j => if 0 < j.size then match opnd tv x with
          | .bptr p o2 => match H p with
            | .box _ => k (.bptr p (o2 + off)) []
            | _ => none
          | .eptr p ver i o2 => match H p with
            | .arr _ _ cur _ => if cur = ver then k (.eptr p ver i (o2 + off)) [] else none
            | _ => none
          | .ref cells => k (.ref (cells.drop off)) []
          | _ => none else none
        | none => none
      | none => none
    | _ => none
  | .field t x f => match T.ty t, opnd tv x with
    | some ⟨.struct fs, _, _, _⟩, .agg cells => match nthF fs f with
      | some (off, ft) => match T.ty ft with
        | some j => if off + j.size ≤ cells.length then k (takeT j (cells.drop off)) [] else none
        | none => none
      | none => none
    | _, _ => none
  | .indexAddr t x ix => match T.ty t, opnd tv ix with
    | some ⟨.slice e, _, _, _⟩, .int _ i => match T.ty e with
      | some j => match opnd tv x with
        | .sl d l => if j.size = d.size then inC i (l.length : Int) (k (.ref (toAVs d (l.getD i.toNat d.dflt))) []) else none
        | .osl o ver => match H o with
          | .arr d l cur _ => if cur = ver then (if j.size = d.size then inC i (l.length : Int) (k (.eptr o ver i.toNat 0) []) else none) else none
          | _ => none
        | .isl o ver m c => islC H j.size o ver m c i k
        | _ => none
      | none => none
    | some ⟨.array n e, _, _, _⟩, .int _ i => match opnd tv x with
      | .glb g => glbC T g n e i k
      | _ => none
    | _, _ => none
  | .index t x ix => match T.ty t, opnd tv x, opnd tv ix with
    | some ⟨.array n e, _, _, _⟩, .agg cells, .int _ i => match T.ty e with
      | some ⟨.int kd, 1, _, _⟩ => match intsOf kd cells with
        | some l => if l.length = n then inC i (n : Int) (k (.int kd (rd l i)) []) else none
        | none => none
      | _ => none
    | some ⟨.str, _, _, _⟩, .str s, .int _ i => inC i (s.size : Int) (k (.int .u8 (strAt s i)) [])
    | _, _, _ => none
  | .extract x i => match opnd tv x with
    | .tup l => match l[i]? with
      | some v => k v []
      | none => none
    | _ => none
  | .call c => match c.callee with
    | .builtin .len => match c.args.toList, c.argTypes.toList with
      | [x], [t] => match T.ty t with
        | some ⟨.slice _, _, _, _⟩ => lenC H (opnd tv x) fun v => k v []
        | _ => none
      | _, _ => none
    | .builtin .append => match c.args.toList, c.argTypes.toList with
      | [s, x], [t, t2] => match T.ty t2 with
        | some ⟨.slice _, _, _, _⟩ => appendC T tv H nid t (opnd tv s) (opnd tv x) k
        | _ => none
      | _, _ => none
    | .builtin .max => match c.args.toList.map (opnd tv) with
      | [.int k1 a, .int k2 b] => k (.int k1 (mx a b)) []
      | _ => none
    | .builtin .min => match c.args.toList.map (opnd tv) with
      | [.int k1 a, .int k2 b] => k (.int k1 (mn a b)) []
      | _ => none
    | .value f => match opnd tv f with
      | .fn g caps => if T.thr g = true then none else if newCnt T fid o < slsL (T.rs g) then none else pureC T C fid H nid o.dst g (c.args.toList.map (opnd tv) ++ caps) k
      | _ => none
    | _ => none
  | _ => none
end
end Go.Proofs.YtnbaahpbmhhofaaDoor.Fw

/- One operation of the interpreter is what the machine does: the cases, on. -/
import Derived.Below
import Derived.Laws.Entries
import Derived.Test.YthanbjnpfenniaaDoorFwGl
import Derived.Deep.Draws
import Derived.ChangeKeysEq
import Derived.Laws.StructEq
import Derived.Laws.OwnMore
import Derived.Laws.CopyRow
import Derived.Laws.Tables
import Derived.ArgAppend
namespace Go.Proofs.YthanbjnpfenniaaDoor.Fw
open Go Go.RowKit
set_option linter.unusedVariables false

/-! ### plain data -/
/-- The kinds of plain data: a number, a bool, a string, a slice, two things one behind the other (a struct's fields). -/
inductive Ty where
  | int (k : IntKind)
  | bool
  | str
  | sl (e : Ty)
  | pr (a b : Ty)
  deriving DecidableEq
/-- What such data are in Lean. -/
@[reducible] def Ty.D : Ty → Type
  | .int _ => Int
  | .bool => Bool
  | .str => ByteArray
  | .sl e => List e.D
  | .pr a b => a.D × b.D
/-- How many cells they take. -/
def Ty.size : Ty → Nat
  | .pr a b => a.size + b.size
  | _ => 1
def Ty.dflt : (t : Ty) → t.D
  | .int _ => (0 : Int)
  | .bool => false
  | .str => (⟨#[]⟩ : ByteArray)
  | .sl _ => []
  | .pr a b => (a.dflt, b.dflt)
/-- Results: none, one, several. -/
@[reducible] def DL : List Ty → Type
  | [] => Unit
  | [a] => a.D
  | a :: b :: r => a.D × DL (b :: r)

/-! ### the interpreter's values -/
inductive AV where
  | int (k : IntKind) (n : Int)
  | bool (b : Bool)
  /-- A test's outcome, and its opposite. -/
  | dec (p : Prop) (h : Decidable p)
  | ndec (p : Prop) (h : Decidable p)
  /-- A bool that is not known. -/
  | anyb
  | str (s : ByteArray)
  /-- A slice that nobody writes while we look on. -/
  | sl (t : Ty) (l : List t.D)
  /-- An empty slice without room. -/
  | zsl
  /-- All of object o, as it was at its version. -/
  | osl (o ver : Nat)
  /-- Cell 'off' of variable o. -/
  | bptr (o off : Nat)
  /-- Cell 'off' of element i of object o. -/
  | eptr (o ver i off : Nat)
  | nilp
  /-- A place that nobody writes while we look on, and what stands there. -/
  | ref (cells : List AV)
  | agg (cells : List AV)
  | tup (vs : List AV)
  | fn (f : FuncId) (caps : List AV)
  /-- A method of variable o, as a value. -/
  | mth (f : FuncId) (o off : Nat)
  /-- A package variable's place. -/
  | glb (g : Nat)
  /-- The slice of object o's own that stands in cell c of its element i. -/
  | isl (o ver i c : Nat)
  /-- Element j of that slice. -/
  | iptr (o ver i c j : Nat)
  /-- Anything. -/
  | top
  deriving Inhabited

/-- Objects: not there, let go, a variable, a slice's array. 'dp': its elements' own slices are its own, too. -/
inductive AO where
  | hole
  | dead
  | box (cells : List AV)
  | arr (t : Ty) (l : List t.D) (ver : Nat) (dp : Bool)
  deriving Inhabited

structure St where
  t : List AV
  H : List AO

/-! ### types and tables -/
inductive TK where
  | int (k : IntKind)
  | bool
  | slice (e : TypeId)
  | struct (fs : List (Nat × TypeId))
  | array (n : Nat) (e : TypeId)
  | str
  | other
structure TI where
  k : TK
  size : Nat
  bytes : Nat
  zero : List AV
/-- What the interpreter knows of a program, and what it is told to do. -/
structure Tb where
  fn : FuncId → Option Func
  ty : TypeId → Option TI
  /-- A type as plain data. -/
  dt : TypeId → Option Ty
  rs : FuncId → List Ty
  /-- The slices among a function's results are new. -/
  fresh : FuncId → Bool
  /-- The call whose result goes there hands it to us. -/
  own : FuncId → Tmp → Bool
  /-- At a loop's head: what is kept; which empty slices become objects. -/
  keep : FuncId → Nat → List Tmp × List (Tmp × Ty)
  /-- It works on its caller's objects. -/
  thr : FuncId → Bool
/-- The functions that may be called. -/
structure Ca (T : Tb) where
  pure : (f : FuncId) → List AV → Option (DL (T.rs f))
  thr : {α : Type} → FuncId → List AV → List AO → (AV → List AO → Option α) → Option α

/-! ### small words -/
/-- A number brought into its kind's range; told so that the kernel does not reckon with it. -/
noncomputable def wr (k : IntKind) (n : Int) : Int := Classical.choose (⟨k.wrap n, rfl⟩ : ∃ m, m = k.wrap n)
theorem wr_eq (k : IntKind) (n : Int) : wr k n = k.wrap n := Classical.choose_spec (⟨k.wrap n, rfl⟩ : ∃ m, m = k.wrap n)
def rd (xs : List Int) (i : Int) : Int := xs.getD i.toNat 0
noncomputable def shl (k : IntKind) (x y : Int) : Int := wr k (x * 2 ^ min y.toNat k.bits)
def shr (k : IntKind) (x y : Int) : Int := x / 2 ^ min y.toNat k.bits
/-- A string's byte. -/
def strAt (s : ByteArray) (i : Int) : Int := ((s[i.toNat]?).getD 0).toNat
def mx (a b : Int) : Int := if a < b then b else a
def mn (a b : Int) : Int := if b < a then b else a
/-- How long a slice may get. -/
def lim : Nat := 1099511627776
def limB (n : Nat) : Bool := Nat.blt n lim

def cellsO : AV → Option (List AV)
  | .agg l => some l
  | .top => none
  | .tup _ => none
  | x => some [x]
/-- A value out of its cells. -/
def ofCells (ag : Bool) (l : List AV) : AV := if ag = true then .agg l else l.headD .top
def toAVs : (t : Ty) → t.D → List AV
  | .int k, n => [.int k n]
  | .bool, b => [.bool b]
  | .str, s => [.str s]
  | .sl e, l => [.sl e l]
  | .pr a b, d => toAVs a d.1 ++ toAVs b d.2
def Ty.isPr : Ty → Bool
  | .pr _ _ => true
  | _ => false
def enc (t : Ty) (d : t.D) : AV := ofCells t.isPr (toAVs t d)
def boolOf : AV → Option Bool
  | .bool b => some b
  | .dec p h => some (@decide p h)
  | .ndec p h => some (!@decide p h)
  | _ => none
/-- Data out of cells, but for what our own objects hold. -/
def toD : (t : Ty) → List AV → Option t.D
  | .int k, [.int k' n] => if k' = k then some n else none
  | .bool, [v] => boolOf v
  | .str, [.str s] => some s
  | .sl _, [.zsl] => some []
  | .sl e, [.sl e' l] => if h : e' = e then some (h ▸ l) else none
  | .pr a b, vs => match toD a (vs.take a.size), toD b (vs.drop a.size) with
    | some x, some y => some (x, y)
    | _, _ => none
  | _, _ => none
/-- Data out of cells, our own objects' and no others' slices; the objects are told. -/
def toX (H : Nat → AO) : (t : Ty) → List AV → Option (t.D × List Nat)
  | .int k, [.int k' n] => if k' = k then some (n, []) else none
  | .bool, [v] => (boolOf v).map fun b => (b, [])
  | .str, [.str s] => some (s, [])
  | .sl _, [.zsl] => some ([], [])
  | .sl e, [.osl o ver] => match H o with
    | .arr e' l cur dp => if dp = true then (if cur = ver then (if h : e' = e then some (h ▸ l, [o]) else none) else none) else none
    | _ => none
  | .pr a b, vs => match toX H a (vs.take a.size), toX H b (vs.drop a.size) with
    | some (x, i), some (y, j) => some ((x, y), i ++ j)
    | _, _ => none
  | _, _ => none
/-- The numbers of the slice in cell c of data. -/
def slAt : (t : Ty) → Nat → t.D → Option (IntKind × List Int)
  | .sl (.int k), 0, l => some (k, l)
  | .pr a b, c, d => if Nat.blt c a.size = true then slAt a c d.1 else slAt b (c - a.size) d.2
  | _, _, _ => none
/-- One of them is another. -/
def slSet : (t : Ty) → Nat → t.D → Nat → Int → t.D
  | .sl (.int k), 0, l, j, n => List.set (α := Int) l j n
  | .pr a b, c, d, j, n => if Nat.blt c a.size = true then (slSet a c d.1 j n, d.2) else (d.1, slSet b (c - a.size) d.2 j n)
  | _, _, d, _, _ => d
/-- An element's cells from c on, its slices told as parts of the object. -/
def isAVs (o ver i : Nat) : (t : Ty) → Nat → t.D → List AV
  | .int k, _, n => [.int k n]
  | .bool, _, b => [.bool b]
  | .str, _, s => [.str s]
  | .sl _, c, _ => [.isl o ver i c]
  | .pr a b, c, d => isAVs o ver i a c d.1 ++ isAVs o ver i b (c + a.size) d.2
def Ty.flat : Ty → Bool
  | .sl _ => false
  | .pr a b => a.flat && b.flat
  | _ => true
def nodupB : List Nat → Bool
  | [] => true
  | x :: r => !r.contains x && nodupB r

def look (H : List AO) (o : Nat) : AO := H.getD o .hole
def setAt : List AO → Nat → AO → List AO
  | [], 0, x => [x]
  | [], n + 1, x => .hole :: setAt [] n x
  | _ :: r, 0, x => x :: r
  | y :: r, n + 1, x => y :: setAt r n x
def applyU : List (Nat × AO) → List AO → List AO
  | [], H => H
  | (o, x) :: u, H => applyU u (setAt H o x)
def setT : List AV → Nat → AV → List AV
  | [], _, _ => []
  | _ :: r, 0, x => x :: r
  | y :: r, n + 1, x => y :: setT r n x
def putT (t : List AV) : Option Tmp → AV → List AV
  | none, _ => t
  | some d, v => setT t d v
def kill : List Nat → List (Nat × AO)
  | [] => []
  | o :: r => (o, .dead) :: kill r

def ofVal : Value → AV
  | .bool b => .bool b
  | .int k n => .int k n
  | .string s => .str s
  | .slice none 0 0 => .zsl
  | .pointer none => .nilp
  | _ => .top
def opnd (tv : Nat → AV) : Operand → AV
  | .tmp i => tv i
  | .const v => ofVal v
  | .func f => .fn f []
  | .global g => .glb g

/-- A walk through a value's parts. -/
def mapA (f : AV → AV) : Nat → AV → AV
  | d + 1, .agg l => .agg (l.map (mapA f d))
  | d + 1, .tup l => .tup (l.map (mapA f d))
  | d + 1, .fn g l => .fn g (l.map (mapA f d))
  | 0, .agg _ => .top
  | 0, .tup _ => .top
  | 0, .fn _ _ => .top
  | _, x => f x
def allM (f : AV → Option AV) : List AV → Option (List AV)
  | [] => some []
  | x :: r => match f x, allM f r with
    | some y, some s => some (y :: s)
    | _, _ => none
/-- What a callee is shown of a value: our objects as they stand. -/
def snap (H : Nat → AO) : Nat → AV → Option AV
  | d + 1, .agg l => (allM (snap H d) l).map .agg
  | d + 1, .tup l => (allM (snap H d) l).map .tup
  | d + 1, .fn g l => (allM (snap H d) l).map (.fn g)
  | d + 1, .ref l => (allM (snap H d) l).map .ref
  | d + 1, .bptr o off => match H o with
    | .box cells => (allM (snap H d) (cells.drop off)).map .ref
    | _ => none
  | d + 1, .osl o ver => match H o with
    | .arr t l cur _ => if cur = ver then some (.sl t l) else none
    | _ => none
  | _, .eptr _ _ _ _ => none
  | _, .mth _ _ _ => none
  | _, .isl _ _ _ _ => none
  | _, .iptr _ _ _ _ _ => none
  | d + 1, .dec p h => some (.bool (@decide p h))
  | d + 1, .ndec p h => some (.bool (!@decide p h))
  | 0, _ => none
  | _ + 1, x => some x
/-- Which of our arrays a value leads to. -/
def idsA (H : Nat → AO) : Nat → AV → List Nat
  | d + 1, .agg l => l.flatMap (idsA H d)
  | d + 1, .tup l => l.flatMap (idsA H d)
  | d + 1, .fn _ l => l.flatMap (idsA H d)
  | d + 1, .ref l => l.flatMap (idsA H d)
  | d + 1, .bptr o off => match H o with
    | .box cells => (cells.drop off).flatMap (idsA H d)
    | _ => []
  | _ + 1, .osl o _ => [o]
  | _, _ => []
def depth : Nat := 6
def Ty.hasSl : Ty → Bool
  | .sl _ => true
  | .pr a b => a.hasSl || b.hasSl
  | _ => false
/-- How many slices. -/
def Ty.sls : Ty → Nat
  | .sl _ => 1
  | .pr a b => a.sls + b.sls
  | _ => 0

/-- The version of what is handed to us: of elements with slices, one at which no whole element is stored. -/
def ver0 (e : Ty) : Nat := if e.flat = true then 0 else 1
/-- The cells of a result that is ours from now on, and the new objects. -/
def impC (n : Nat) : (t : Ty) → t.D → List AV × List (Nat × AO)
  | .int k, x => ([.int k x], [])
  | .bool, x => ([.bool x], [])
  | .str, x => ([.str x], [])
  | .sl e, l => ([.osl n (ver0 e)], [(n, .arr e l (ver0 e) true)])
  | .pr a b, d => let x := impC n a d.1; let y := impC (n + a.sls) b d.2; (x.1 ++ y.1, x.2 ++ y.2)
def impT (own : Bool) (n : Nat) (t : Ty) (d : t.D) : AV × List (Nat × AO) :=
  if own = true then let x := impC n t d; (ofCells t.isPr x.1, x.2) else (enc t d, [])
def impL (own : Bool) (n : Nat) : (rs : List Ty) → DL rs → List AV × List (Nat × AO)
  | [], _ => ([], [])
  | [a], d => let x := impT own n a d; ([x.1], x.2)
  | a :: b :: r, d => let x := impT own n a d.1; let y := impL own (n + a.sls) (b :: r) d.2; (x.1 :: y.1, x.2 ++ y.2)
def resA : List AV → AV
  | [v] => v
  | l => .tup l
def impR (own : Bool) (n : Nat) (rs : List Ty) (d : DL rs) : AV × List (Nat × AO) :=
  let x := impL own n rs d
  (resA x.1, x.2)

/-! ### one operation -/
section
variable {α : Type}
def testC (c : AV) (x y : Option α) : Option α :=
  match c with
  | .bool b => if b = true then x else y
  | .dec p h => @ite _ p h x y
  | .ndec p h => @ite _ p h y x
  | _ => none
noncomputable def arithC (op : BinOp) (k : IntKind) (a b : Int) (kk : AV → Option α) : Option α :=
  match op with
  | .add => kk (.int k (wr k (a + b)))
  | .sub => kk (.int k (wr k (a - b)))
  | .mul => kk (.int k (wr k (a * b)))
  | .quo => if b = 0 then none else kk (.int k (wr k (a.tdiv b)))
  | .rem => if b = 0 then none else kk (.int k (a.tmod b))
  | .and => kk (.int k (Go.bits .and k a b))
  | .or => kk (.int k (Go.bits .or k a b))
  | .xor => kk (.int k (Go.bits .xor k a b))
  | .andNot => kk (.int k (Go.bits .andNot k a b))
  | .eql => kk (.dec (a = b) inferInstance)
  | .neq => kk (.ndec (a = b) inferInstance)
  | .lss => kk (.dec (a < b) inferInstance)
  | .leq => kk (.dec (a ≤ b) inferInstance)
  | .gtr => kk (.dec (a > b) inferInstance)
  | .geq => kk (.dec (a ≥ b) inferInstance)
  | _ => none
/-- The equality of cells that are numbers or bools. -/
def eqCells : List AV → List AV → Option Bool
  | [], [] => some true
  | .int k a :: r, .int k' b :: s => if k = k' then (eqCells r s).map fun e => (a == b) && e else none
  | _, _ => none
noncomputable def binC (op : BinOp) (x y : AV) (kk : AV → Option α) : Option α :=
  match x, y with
  | .int k a, .int k' b =>
    match op with
    | .shl => if b < 0 then none else kk (.int k (shl k a b))
    | .shr => if b < 0 then none else kk (.int k (shr k a b))
    | _ => if k = k' then arithC op k a b kk else none
  | .agg l, .agg m => match op, eqCells l m with
    | .eql, some e => kk (.bool e)
    | .neq, some e => kk (.bool (!e))
    | _, _ => none
  | _, _ => none
def binB (op : BinOp) (x y : AV) (kk : AV → Option α) : Option α :=
  match op, boolOf x, boolOf y with
  | .eql, some a, some b => kk (.bool (a == b))
  | .neq, some a, some b => kk (.bool (a != b))
  | _, _, _ => none
/-- Is it empty? -/
def emptyC (H : Nat → AO) (x : AV) (e n : Option α) : Option α :=
  match x with
  | .zsl => e
  | .sl t l => if l.isEmpty = true then e else n
  | .osl o ver => match H o with
    | .arr t l cur _ => if cur = ver then (if l.isEmpty = true then e else n) else none
    | _ => none
  | _ => none
def isNilO : Operand → Bool
  | .const (.slice none 0 0) => true
  | _ => false
/-- A slice is compared with nil: of an empty one it is not known. -/
def nilC (op : BinOp) (H : Nat → AO) (x : AV) (y : Operand) (k : AV → Option α) : Option α :=
  match op with
  | .eql => if isNilO y = true then emptyC H x (k .anyb) (k (.bool false)) else none
  | .neq => if isNilO y = true then emptyC H x (k .anyb) (k (.bool true)) else none
  | _ => none
def TK.isAgg : TK → Bool
  | .struct _ => true
  | .array _ _ => true
  | _ => false
/-- A value of a type at cells. -/
def takeT (i : TI) (l : List AV) : AV := ofCells i.k.isAgg (l.take i.size)
/-- Cells with others put in from a place on. -/
def putCells : List AV → Nat → List AV → List AV
  | cs, _, [] => cs
  | cs, n, v :: r => putCells (setT cs n v) (n + 1) r
/-- The parts laid at their fields. -/
def fillC (place : Nat → Option (Nat × Nat)) : List AV → List (Nat × AV) → Option (List AV)
  | cs, [] => some cs
  | cs, (i, v) :: r => match place i with
    | some (off, size) => match cellsO v with
      | some ys => if ys.length = size then (if off + size ≤ cs.length then fillC place (putCells cs off ys) r else none) else none
      | none => none
    | none => none
def nthF (fs : List (Nat × TypeId)) (i : Nat) : Option (Nat × TypeId) := fs[i]?
/-- The fields' places and sizes. -/
def places (T : Tb) : List (Nat × TypeId) → Option (List (Nat × Nat))
  | [] => some []
  | f :: r => match T.ty f.2, places T r with
    | some j, some s => some ((f.1, j.size) :: s)
    | _, _ => none
/-- The numbers of literal cells. -/
def intsOf (k : IntKind) : List AV → Option (List Int)
  | [] => some []
  | .int k' n :: r => if k' = k then (intsOf k r).map (n :: ·) else none
  | _ => none
def dataAll (t : Ty) : List AV → Option (List t.D)
  | [] => some []
  | v :: r => match (cellsO v).bind (toD t), dataAll t r with
    | some x, some s => some (x :: s)
    | _, _ => none
def dataAllX (H : Nat → AO) (t : Ty) : List AV → Option (List t.D × List Nat)
  | [] => some ([], [])
  | v :: r => match (cellsO v).bind (toX H t), dataAllX H t r with
    | some (x, i), some (s, j) => some (x :: s, i ++ j)
    | _, _ => none
/-- Parts 0, 1, 2 .. in order. -/
def partsIn : Nat → List (Nat × AV) → Option (List AV)
  | _, [] => some []
  | i, (j, v) :: r => if j = i then (partsIn (i + 1) r).map (v :: ·) else none
/-- An array of what is given: with what our objects hold, if it is all ours, else without. -/
def newArr (H : Nat → AO) (t : Ty) (vs : List AV) (nid : Nat) : Option (List (Nat × AO)) :=
  match dataAllX H t vs with
  | some (l, ids) => if nodupB ids = true then some (kill ids ++ [(nid, .arr t l 0 true)]) else none
  | none => match dataAll t vs with
    | some l => some [(nid, .arr t l 0 false)]
    | none => none

/-- What is read of a place: the cells from there on. -/
def cellsAt (H : Nat → AO) : AV → Option (List AV)
  | .bptr o off => match H o with
    | .box cells => some (cells.drop off)
    | _ => none
  | .eptr o ver i off => match H o with
    | .arr t l cur dp => if cur = ver then (if dp = true then (if t.flat = true then some ((toAVs t (l.getD i t.dflt)).drop off) else if Nat.blt 0 cur = true then some ((isAVs o ver i t 0 (l.getD i t.dflt)).drop off) else none) else some ((toAVs t (l.getD i t.dflt)).drop off)) else none
    | _ => none
  | .ref cells => some cells
  | _ => none

/-- A slice's elements, for an append's second operand: the kind, the elements, whether they are all ours, what dies of it. -/
inductive Src where
  | some (t : Ty) (l : List t.D) (own : Bool) (dies : List Nat)
  | empty
  | none
def srcOf (H : Nat → AO) : AV → Src
  | .zsl => .empty
  | .sl t l => .some t l false []
  | .osl o ver => match H o with
    | .arr t l cur dp => if cur = ver then (if t.flat = true then .some t l true [] else (if dp = true then .some t l true [o] else .some t l false [])) else .none
    | _ => .none
  | _ => .none

/-- May elements that are ours (or not) go into an array whose elements are its own (or not)? -/
def fitsIn (t : Ty) (own dp : Bool) : Bool := t.flat || (own == dp)
def appendC (T : Tb) (tv : Nat → AV) (H : Nat → AO) (nid : Nat) (st : TypeId) (s x : AV) (k : AV → List (Nat × AO) → Option α) : Option α :=
  match T.ty st with
  | some ⟨.slice e, _, _, _⟩ => match T.dt e with
    | some t => match s, srcOf H x with
      | .zsl, .some t' l' own dies => if h : t' = t then (if l'.length < lim then k (.osl nid 0) (kill dies ++ [(nid, .arr t (h ▸ l') 0 (own || t.flat))]) else none) else none
      | .osl o ver, .some t' l' own dies => match H o with
        | .arr t2 l cur dp => if cur = ver then (if h : t' = t2 then (if t2 = t then (if fitsIn t2 own dp = true then (if dies.contains o = true then none else (if l.length + l'.length < lim then k (.osl o (ver + 1)) (kill dies ++ [(o, .arr t2 (l ++ (h ▸ l')) (cur + 1) dp)]) else none)) else none) else none) else none) else none
        | _ => none
      | _, _ => none
    | none => none
  | _ => none

def lenC (H : Nat → AO) (x : AV) (k : AV → Option α) : Option α :=
  match x with
  | .sl _ l => k (.int .i64 (l.length : Int))
  | .zsl => k (.int .i64 0)
  | .osl o ver => match H o with
    | .arr _ l cur _ => if cur = ver then k (.int .i64 (l.length : Int)) else none
    | _ => none
  | .isl o ver i c => match H o with
    | .arr t l cur dp => if cur = ver then (if dp = true then (match slAt t c (l.getD i t.dflt) with
      | some (_, m) => k (.int .i64 (m.length : Int))
      | none => none) else none) else none
    | _ => none
  | _ => none
/-- 0 <= i < n, or nothing is told. -/
def inC (i : Int) (n : Int) (x : Option α) : Option α := if 0 ≤ i then (if i < n then x else none) else none
/-- An element of a package variable that is an array of numbers. -/
def glbC (T : Tb) (g n : Nat) (e : TypeId) (i : Int) (k : AV → List (Nat × AO) → Option α) : Option α :=
  match T.ty e, glTab g with
  | some ⟨.int kd, 1, _, _⟩, some (k', l) => if k' = kd then (if l.length = n then inC i (n : Int) (k (.ref [.int kd (rd l i)]) []) else none) else none
  | _, _ => none
/-- An element of a slice that stands in an element of ours. -/
def islC (H : Nat → AO) (size o ver i c : Nat) (j : Int) (k : AV → List (Nat × AO) → Option α) : Option α :=
  match H o with
  | .arr t l cur dp => if cur = ver then (if dp = true then (if size = 1 then (match slAt t c (l.getD i t.dflt) with
    | some (_, m) => inC j (m.length : Int) (k (.iptr o ver i c j.toNat) [])
    | none => none) else none) else none) else none
  | _ => none
/-- A number is stored there. -/
def iputC (H : Nat → AO) (o ver i c j : Nat) (ys : List AV) (k : AV → List (Nat × AO) → Option α) : Option α :=
  match H o with
  | .arr t l cur dp => if cur = ver then (if dp = true then (match slAt t c (l.getD i t.dflt), ys with
    | some (k1, m), [.int k2 y] => if k1 = k2 then k .top [(o, .arr t (l.set i (slSet t c (l.getD i t.dflt) j y)) cur dp)] else none
    | _, _ => none) else none) else none
  | _ => none
/-- A whole element with slices is stored: what our objects hold. -/
def wputC (H : Nat → AO) (p j : Nat) (d : Ty) (l : List d.D) (cur : Nat) (dp : Bool) (ys : List AV) (k : AV → List (Nat × AO) → Option α) : Option α :=
  if dp = true then (if cur = 0 then (match toX H d ys with
    | some (y, ids) => if nodupB ids = true then (if ids.contains p = true then none else k .top (kill ids ++ [(p, .arr d (l.set j y) cur dp)])) else none
    | none => none) else none) else none
/-- A flat field is stored. -/
def fldSet : (t : Ty) → Nat → t.D → AV → Option t.D
  | .int k, c, _, .int k' n => if c = 0 then (if k' = k then some n else none) else none
  | .bool, c, _, v => if c = 0 then boolOf v else none
  | .pr a b, c, x, v => if c < a.size then (match fldSet a c x.1 v with
    | some y => some (y, x.2)
    | none => none) else (match fldSet b (c - a.size) x.2 v with
    | some y => some (x.1, y)
    | none => none)
  | _, _, _, _ => none
/-- A flat field of an element is stored: what our objects hold. -/
def fputC (p j off : Nat) (d : Ty) (l : List d.D) (cur : Nat) (dp : Bool) (ys : List AV) (k : AV → List (Nat × AO) → Option α) : Option α :=
  if dp = true then (match ys with
    | [y] => (match fldSet d off (l.getD j d.dflt) y with
      | some z => k .top [(p, .arr d (l.set j z) cur dp)]
      | none => none)
    | _ => none) else none
/-- A bound of a slice. -/
def bound (tv : Nat → AV) (o : Option Operand) (d : Int) : Option Int :=
  match o with
  | none => some d
  | some x => match opnd tv x with
    | .int _ n => some n
    | _ => none

/-- Both are one temporary. -/
def sameTmp : Operand → Operand → Bool
  | .tmp i, .tmp j => i == j
  | _, _ => false
/-- Number of new objects that an operation may make. -/
def slsL : List Ty → Nat
  | [] => 0
  | a :: r => a.sls + slsL r
def newCnt (T : Tb) (fid : FuncId) (o : Oper) : Nat :=
  match o.op with
  | .alloc _ | .box _ _ | .makeSlice _ _ _ | .buildSlice _ _ _ => 1
  | .call c => match c.callee with
    | .value (.func g) => slsL (T.rs g)
    | .builtin .append => 1
    | .value _ => 8
    | _ => 0
  | _ => 0

def calleeOf (tv : Nat → AV) : Callee → Option (FuncId × List AV)
  | .value f => match opnd tv f with
    | .fn g caps => some (g, caps)
    | _ => none
  | _ => none
def ownsAt (T : Tb) (fid : FuncId) (g : FuncId) (dst : Option Tmp) : Bool :=
  match dst with
  | some d => T.own fid d && T.fresh g
  | none => false

/-- Its result shares nothing with what it is given. -/
def apartR (T : Tb) (g : FuncId) : Bool := T.fresh g || !(T.rs g).any Ty.hasSl
def pureC (T : Tb) (C : Ca T) (fid : FuncId) (H : Nat → AO) (nid : Nat) (dst : Option Tmp) (g : FuncId) (args : List AV) (k : AV → List (Nat × AO) → Option α) : Option α :=
  if (apartR T g || (args.flatMap (idsA H depth)).isEmpty) = true then
    match allM (snap H depth) args with
    | some as => (C.pure g as).bind fun d => let r := impR (ownsAt T fid g dst) nid (T.rs g) d; k r.1 r.2
    | none => none
  else none

/-- All of an array of ours but its end, with no room behind it. -/
def cutC (T : Tb) (tv : Nat → AV) (H : Nat → AO) (se : TypeId) (o ver : Nat) (lo hi mxo : Option Operand) (k : AV → List (Nat × AO) → Option α) : Option α :=
  match lo, hi, mxo with
  | none, some h, some m => match opnd tv h, opnd tv m with
    | .int _ b, .int _ c => match H o with
      | .arr d l cur dp => if cur = ver then (if d.flat = true then (if (T.ty se).map TI.size = some d.size then (if b = c then (if 0 ≤ b then (if b ≤ (l.length : Int) then k (.osl o (ver + 1)) [(o, .arr d (l.take b.toNat) (cur + 1) dp)] else none) else none) else none) else none) else none) else none
      | _ => none
    | _, _ => none
  | _, _, _ => none
/-- A part of an array of ours: the array is let go, nobody writes it from now on. -/
def letC (T : Tb) (tv : Nat → AV) (H : Nat → AO) (se : TypeId) (o ver : Nat) (lo hi : Option Operand) (k : AV → List (Nat × AO) → Option α) : Option α :=
  match H o with
  | .arr d l cur _ => if cur = ver then (if (T.ty se).map TI.size = some d.size then (match bound tv lo 0, bound tv hi (l.length : Int) with
    | some a, some b => if 0 ≤ a then (if a ≤ b then (if b ≤ (l.length : Int) then k (.sl d ((l.take b.toNat).drop a.toNat)) [(o, .dead)] else none) else none) else none
    | _, _ => none) else none) else none
  | _ => none
noncomputable def stepE (T : Tb) (C : Ca T) (fid : FuncId) (tv : Nat → AV) (H : Nat → AO) (nid : Nat) (o : Oper) (k : AV → List (Nat × AO) → Option α) : Option α :=
  match o.op with
  | .move x | .assign x => k (opnd tv x) []
  | .pick c a b => testC (opnd tv c) (k (opnd tv a) []) (k (opnd tv b) [])
  | .alloc t => match T.ty t with
    | some i => k (.bptr nid 0) [(nid, .box i.zero)]
    | none => none
  | .box _ x => match cellsO (opnd tv x) with
    | some cs => k (.bptr nid 0) [(nid, .box cs)]
    | none => none
  | .build t ps => match T.ty t with
    | some ⟨.struct fs, _, _, z⟩ => match places T fs with
      | some ps' => match fillC (fun i => ps'[i]?) z (ps.toList.map fun p => (p.1, opnd tv p.2)) with
        | some cs => k (.agg cs) []
        | none => none
      | none => none
    | some ⟨.array _ e, _, _, z⟩ => match T.ty e with
      | some j => match fillC (fun i => some (i * j.size, j.size)) z (ps.toList.map fun p => (p.1, opnd tv p.2)) with
        | some cs => k (.agg cs) []
        | none => none
      | none => none
    | _ => none
  | .buildSlice t len ps => match T.ty t with
    | some ⟨.slice e, _, _, _⟩ => if len = 0 then (match ps.toList, T.dt e with | [], some _ => k .zsl [] | _, _ => none) else match T.dt e, partsIn 0 (ps.toList.map fun p => (p.1, opnd tv p.2)) with
      | some d, some vs => if vs.length = len then (if len * d.size ≤ 16777216 then match newArr H d vs nid with
        | some u => k (.osl nid 0) u
        | none => none else none) else none
      | _, _ => none
    | _ => none
  | .load t a => match T.ty t, cellsAt H (opnd tv a) with
    | some i, some cs => if i.size ≤ cs.length then k (takeT i cs) [] else none
    | _, _ => none
  | .store t a x => match T.ty t, cellsO (opnd tv x) with
    | some i, some ys => if ys.length = i.size then match opnd tv a with
      | .bptr p off => match H p with
        | .box cells => if off + i.size ≤ cells.length then k .top [(p, .box (putCells cells off ys))] else none
        | _ => none
      | .eptr p ver j off => match H p with
        | .arr d l cur dp => if cur = ver then (if off = 0 then (if i.size = d.size then (if d.flat = true then (match toD d ys with
          | some y => k .top [(p, .arr d (l.set j y) cur dp)]
          | none => none) else wputC H p j d l cur dp ys k) else fputC p j off d l cur dp ys k) else fputC p j off d l cur dp ys k) else none
        | _ => none
      | .iptr p ver i c j => iputC H p ver i c j ys k
      | _ => none else none
    | _, _ => none
  | .nilCheck x => match opnd tv x with
    | .bptr p off => match H p with
      | .box _ => k (.bptr p off) []
      | _ => none
    | .ref cells => k (.ref cells) []
    | .fn f caps => k (.fn f caps) []
    | _ => none
  | .binOp op t x y _ => match opnd tv x, opnd tv y with
    | .int k1 a, .int k2 b => binC op (.int k1 a) (.int k2 b) fun v => k v []
    | .agg l, .agg m => match T.ty t with
      | some ⟨.struct fs, _, _, _⟩ => if (fs.map (·.1) == List.range fs.length) && fs.all (fun f => match T.ty f.2 with | some ⟨.int _, _, _, _⟩ => true | _ => false) && (l.length == fs.length) then binC op (.agg l) (.agg m) fun v => k v [] else none
      | _ => none
    | a, b => match T.ty t with
      | some ⟨.bool, _, _, _⟩ => binB op a b fun v => k v []
      | some ⟨.slice _, _, _, _⟩ => nilC op H a y fun v => k v []
      | _ => none
  | .unOp op _ x => match op, opnd tv x with
    | .not, .bool b => k (.bool (!b)) []
    | .not, .dec p h => k (.ndec p h) []
    | .not, .ndec p h => k (.dec p h) []
    | .neg, .int kd n => k (.int kd (wr kd (0 - n))) []
    | _, _ => none
  | .convert s t x => match T.ty s, T.ty t, opnd tv x with
    | some ⟨.int _, _, _, _⟩, some ⟨.int kd, _, _, _⟩, .int _ n => k (.int kd (wr kd n)) []
    | _, _, _ => none
  | .makeFunc (.func f) first caps => if first.size = 0 then k (.fn f (caps.toList.map (opnd tv))) [] else (match first.toList, caps.toList with
    | [x], [] => match opnd tv x with
      | .bptr p off => k (.mth f p off) []
      | _ => none
    | _, _ => none)
  | .makeSlice t a b => match T.ty t, opnd tv a, opnd tv b with
    | some ⟨.slice e, _, _, _⟩, .int .i64 n, .int .i64 _ => if sameTmp a b = true then match T.dt e with
      | some d => if 0 ≤ n then (if limB n.toNat = true then k (.osl nid 0) [(nid, .arr d (List.replicate n.toNat d.dflt) 0 true)] else none) else none
      | none => none else none
    | _, _, _ => none
  | .slice t x lo hi mxo => match T.ty t, opnd tv x with
    | some ⟨.slice se, _, _, _⟩, .sl e l => if (T.ty se).map TI.size = some e.size then match (if mxo.isSome && hi.isNone then none else bound tv lo 0), bound tv hi (l.length : Int), bound tv mxo (l.length : Int) with
      | some a, some b, some m => if 0 ≤ a then (if a ≤ b then (if b ≤ m then (if m ≤ (l.length : Int) then k (.sl e ((l.take b.toNat).drop a.toNat)) [] else none) else none) else none) else none
      | _, _, _ => none else none
    | some ⟨.slice se, _, _, _⟩, .osl o ver => match mxo with
      | some m => cutC T tv H se o ver lo hi (some m) k
      | none => letC T tv H se o ver lo hi k
    | _, _ => none
  | .fieldAddr t x f => match T.ty t with
    | some ⟨.struct fs, _, _, _⟩ => match nthF fs f with
      | some (off, ft) => match T.ty ft with
        | some j => if 0 < j.size then match opnd tv x with
          | .bptr p o2 => match H p with
            | .box _ => k (.bptr p (o2 + off)) []
            | _ => none
          | .eptr p ver i o2 => match H p with
            | .arr _ _ cur _ => if cur = ver then k (.eptr p ver i (o2 + off)) [] else none
            | _ => none
          | .ref cells => k (.ref (cells.drop off)) []
          | _ => none else none
        | none => none
      | none => none
    | _ => none
  | .field t x f => match T.ty t, opnd tv x with
    | some ⟨.struct fs, _, _, _⟩, .agg cells => match nthF fs f with
      | some (off, ft) => match T.ty ft with
        | some j => if off + j.size ≤ cells.length then k (takeT j (cells.drop off)) [] else none
        | none => none
      | none => none
    | _, _ => none
  | .indexAddr t x ix => match T.ty t, opnd tv ix with
    | some ⟨.slice e, _, _, _⟩, .int _ i => match T.ty e with
      | some j => match opnd tv x with
        | .sl d l => if j.size = d.size then inC i (l.length : Int) (k (.ref (toAVs d (l.getD i.toNat d.dflt))) []) else none
        | .osl o ver => match H o with
          | .arr d l cur _ => if cur = ver then (if j.size = d.size then inC i (l.length : Int) (k (.eptr o ver i.toNat 0) []) else none) else none
          | _ => none
        | .isl o ver m c => islC H j.size o ver m c i k
        | _ => none
      | none => none
    | some ⟨.array n e, _, _, _⟩, .int _ i => match opnd tv x with
      | .glb g => glbC T g n e i k
      | _ => none
    | _, _ => none
  | .index t x ix => match T.ty t, opnd tv x, opnd tv ix with
    | some ⟨.array n e, _, _, _⟩, .agg cells, .int _ i => match T.ty e with
      | some ⟨.int kd, 1, _, _⟩ => match intsOf kd cells with
        | some l => if l.length = n then inC i (n : Int) (k (.int kd (rd l i)) []) else none
        | none => none
      | _ => none
    | some ⟨.str, _, _, _⟩, .str s, .int _ i => inC i (s.size : Int) (k (.int .u8 (strAt s i)) [])
    | _, _, _ => none
  | .extract x i => match opnd tv x with
    | .tup l => match l[i]? with
      | some v => k v []
      | none => none
    | _ => none
  | .call c => match c.callee with
    | .builtin .len => match c.args.toList, c.argTypes.toList with
      | [x], [t] => match T.ty t with
        | some ⟨.slice _, _, _, _⟩ => lenC H (opnd tv x) fun v => k v []
        | _ => none
      | _, _ => none
    | .builtin .append => match c.args.toList, c.argTypes.toList with
      | [s, x], [t, t2] => match T.ty t2 with
        | some ⟨.slice _, _, _, _⟩ => appendC T tv H nid t (opnd tv s) (opnd tv x) k
        | _ => none
      | _, _ => none
    | .builtin .max => match c.args.toList.map (opnd tv) with
      | [.int k1 a, .int k2 b] => k (.int k1 (mx a b)) []
      | _ => none
    | .builtin .min => match c.args.toList.map (opnd tv) with
      | [.int k1 a, .int k2 b] => k (.int k1 (mn a b)) []
      | _ => none
    | .value f => match opnd tv f with
      | .fn g caps => if T.thr g = true then none else if newCnt T fid o < slsL (T.rs g) then none else pureC T C fid H nid o.dst g (c.args.toList.map (opnd tv) ++ caps) k
      | _ => none
    | _ => none
  | _ => none
end
end Go.Proofs.YthanbjnpfenniaaDoor.Fw

namespace Go.Proofs.YthanbjnpfenniaaDoor.Fw
open Go Go.RowKit
set_option linter.unusedVariables false

/-! ### letting go of arrays: they become slices that nobody writes -/
def frzA (H : Nat → AO) (ids : List Nat) : AV → AV
  | .osl o ver => if ids.contains o = true then (match H o with
    | .arr t l cur _ => if cur = ver then .sl t l else .top
    | _ => .top) else .osl o ver
  | .eptr o ver i off => if ids.contains o = true then .top else .eptr o ver i off
  | .isl o ver i c => if ids.contains o = true then .top else .isl o ver i c
  | .iptr o ver i c j => if ids.contains o = true then .top else .iptr o ver i c j
  | x => x
def frzO (H : Nat → AO) (ids : List Nat) : Nat → List AO → List AO
  | _, [] => []
  | i, x :: r => (match x with
    | .arr t l ver dp => if ids.contains i = true then .dead else .arr t l ver dp
    | .box cells => .box (cells.map (mapA (frzA H ids) depth))
    | x => x) :: frzO H ids (i + 1) r
def freeze (ids : List Nat) (σ : St) : St :=
  ⟨σ.t.map (mapA (frzA (look σ.H) ids) depth), frzO (look σ.H) ids 0 σ.H⟩
def tvOf (σ : St) (i : Nat) : AV := σ.t.getD i .top
/-- Ahead of a call whose result may share what it is given: our arrays that it is given are let go. -/
def preS (T : Tb) (o : Oper) (σ : St) : St :=
  match o.op with
  | .call c => match c.callee with
    | .value f => match opnd (tvOf σ) f with
      | .fn g caps => if T.thr g = true then σ else if apartR T g = true then σ else
          (match (c.args.toList.map (opnd (tvOf σ)) ++ caps).flatMap (idsA (look σ.H) depth) with
          | [] => σ
          | ids => freeze ids σ)
      | _ => σ
    | _ => σ
  | _ => σ

/-! ### a region in the order of its text -/
def dstOf (all : List Oper) (j : Nat) : Option Tmp := (all[j]?).bind (·.dst)
section
variable {α : Type}
/-- A call that works on our objects. -/
def thrC (T : Tb) (C : Ca T) (o : Oper) (σ : St) : Option (FuncId × List AV) :=
  match o.op with
  | .call c => match c.callee with
    | .value f => match opnd (tvOf σ) f with
      | .fn g caps => if T.thr g = true then some (g, c.args.toList.map (opnd (tvOf σ)) ++ caps) else none
      | .mth g p off => if T.thr g = true then some (g, .bptr p off :: c.args.toList.map (opnd (tvOf σ))) else none
      | _ => none
    | _ => none
  | _ => none
noncomputable def stepC (T : Tb) (C : Ca T) (fid : FuncId) (o : Oper) (σ : St) (k : St → Option α) : Option α :=
  match thrC T C o σ with
  | some (g, args) => C.thr g args σ.H fun v H' => k ⟨putT σ.t o.dst v, H'⟩
  | none =>
    let ρ := preS T o σ
    stepE T C fid (tvOf ρ) (look ρ.H) ρ.H.length o fun v u => k ⟨putT ρ.t o.dst v, applyU u ρ.H⟩
/-- A guard: the operation is wanted, or not; not, too, where the guard's own operation was not. -/
def testG (c : AV) (w : Bool) (x y : Bool → Option α) (z : Option α) : Option α :=
  match c with
  | .tup _ => z
  | _ => testC c (if w = true then x true else y true) (if w = true then y false else x false)
noncomputable def execOps (T : Tb) (C : Ca T) (fid : FuncId) (all : List Oper) : List Oper → St → (St → Option α) → Option α
  | [], σ, k => k σ
  | o :: r, σ, k => match o.guard with
    | none => stepC T C fid o σ fun ρ => execOps T C fid all r ρ k
    | some (j, w) => match dstOf all j with
      | some g => testG (tvOf σ g) w
          (fun b => stepC T C fid o ⟨setT σ.t g (.bool b), σ.H⟩ fun ρ => execOps T C fid all r ρ k)
          (fun b => execOps T C fid all r ⟨putT (setT σ.t g (.bool b)) o.dst (.tup []), σ.H⟩ k)
          (execOps T C fid all r ⟨putT σ.t o.dst (.tup []), σ.H⟩ k)
      | none => none

/-! ### a region of open order -/
inductive Tch where
  | none
  | one (o : Nat)
  | all
/-- What was read, written and looked at: the temporaries, the objects. 'mu': one that was there is changed; its own new numbers. -/
structure Rec where
  dst : Option Tmp
  reads : List Tmp
  wr : List Nat
  mu : Bool
  tc : Tch
  nid : Nat
  cnt : Nat
def tmpsOf : List Operand → List Tmp
  | [] => []
  | .tmp i :: r => i :: tmpsOf r
  | _ :: r => tmpsOf r
def tchV : AV → Tch
  | .bptr p _ => .one p
  | .eptr p _ _ _ => .one p
  | .osl p _ => .one p
  | .isl p _ _ _ => .one p
  | .iptr p _ _ _ _ => .one p
  | _ => .none
def tchOf (tv : Nat → AV) (o : Oper) : Tch :=
  match o.op with
  | .load _ a => tchV (opnd tv a)
  | .fieldAddr _ a _ => tchV (opnd tv a)
  | .indexAddr _ a _ => tchV (opnd tv a)
  | .nilCheck a => tchV (opnd tv a)
  | .slice _ a _ _ _ => tchV (opnd tv a)
  | .store _ _ _ | .call _ | .buildSlice _ _ _ => .all
  | _ => .none
def inR (nid cnt p : Nat) : Bool := Nat.ble nid p && Nat.blt p (nid + cnt)
def readsOf (o : Oper) (g : List Tmp) : List Tmp := g ++ tmpsOf o.op.operands.toList
/-- The temporaries that are read, and no others. -/
def tvM (reads : List Tmp) (tv : Nat → AV) (i : Nat) : AV := if reads.contains i = true then tv i else .top
/-- The numbers of what must have been done before. -/
def visIn (an : List Nat) (rs : List Rec) (p : Nat) : Bool := an.any fun i => match rs[i]? with
  | some r => inR r.nid r.cnt p
  | none => false
/-- The objects that it may look at, and no others. -/
def maskH (H : Nat → AO) (N0 nid cnt : Nat) (vis : Nat → Bool) (tc : Tch) (p : Nat) : AO :=
  if inR nid cnt p = true then .hole else match tc with
  | .none => .dead
  | .one o => if p = o then H p else .dead
  | .all => if p < N0 then H p else if vis p = true then H p else .dead
def keysOk (N0 nid cnt : Nat) (vis : Nat → Bool) (u : List (Nat × AO)) : Bool := u.all fun q => inR nid cnt q.1 || (Nat.blt q.1 N0 || vis q.1)
def muOf (nid cnt : Nat) (u : List (Nat × AO)) : Bool := !(u.all fun q => inR nid cnt q.1)
def disj (a b : List Nat) : Bool := a.all fun x => !b.contains x
def dstIn : Option Tmp → List Tmp → Bool
  | none, _ => false
  | some d, l => l.contains d
def sameDst : Option Tmp → Option Tmp → Bool
  | some a, some b => a == b
  | _, _ => false
def tchOk (tc : Tch) (wr : List Nat) (mu : Bool) : Bool :=
  match tc with
  | .none => true
  | .one o => !wr.contains o
  | .all => !mu
def indep (a b : Rec) : Bool :=
  !sameDst a.dst b.dst && !dstIn a.dst b.reads && !dstIn b.dst a.reads && disj a.wr b.wr && tchOk a.tc b.wr b.mu && tchOk b.tc a.wr a.mu
/-- What each operation waits for, at any remove. -/
def edgesOf (o : Oper) : List Nat := (o.after.toList.filter fun e => Region.binds .any e).map (·.on)
def ancs : List Oper → List (List Nat) → List (List Nat)
  | [], acc => acc
  | o :: r, acc => ancs r (acc ++ [edgesOf o ++ (edgesOf o).flatMap fun e => acc.getD e []])
def pairOk (an : List (List Nat)) (rs : List Rec) (i j : Nat) : Bool :=
  (an.getD j []).contains i || (match rs[i]?, rs[j]? with
    | some a, some b => indep a b
    | _, _ => false)
def allPairs (an : List (List Nat)) (rs : List Rec) (n : Nat) : Bool :=
  (List.range n).all fun j => (List.range j).all fun i => pairOk an rs i j
/-- All wait for what is told before them. -/
def backOk : List Oper → Nat → Bool
  | [], _ => true
  | o :: r, n => (edgesOf o).all (fun e => Nat.blt e n) && backOk r (n + 1)
noncomputable def drawStep (T : Tb) (C : Ca T) (fid : FuncId) (an : List (List Nat)) (N0 : Nat) (o : Oper) (g : List Tmp) (σ : St) (nid : Nat) (rs : List Rec) (k : St → Rec → Option α) : Option α :=
  let cnt := newCnt T fid o
  let tv := tvM (readsOf o g) (tvOf σ)
  let tc := tchOf tv o
  let vis := visIn (an.getD rs.length []) rs
  stepE T C fid tv (maskH (look σ.H) N0 nid cnt vis tc) nid o fun v u =>
    if keysOk N0 nid cnt vis u = true then k ⟨putT σ.t o.dst v, applyU u σ.H⟩ ⟨o.dst, readsOf o g, u.map (·.1), muOf nid cnt u, tc, nid, cnt⟩ else none
/-- What is known of guards by now. -/
def knOf : List (Tmp × Bool) → Tmp → Option Bool
  | [], _ => none
  | q :: r, g => match Nat.beq q.1 g with
    | true => some q.2
    | false => knOf r g
def knCut : Option Tmp → List (Tmp × Bool) → List (Tmp × Bool)
  | none, kn => kn
  | some _, [] => []
  | some d, q :: r => match Nat.beq q.1 d with
    | true => knCut (some d) r
    | false => q :: knCut (some d) r
noncomputable def execDraw (T : Tb) (C : Ca T) (fid : FuncId) (all : List Oper) (an : List (List Nat)) (N0 : Nat) : List Oper → St → Nat → List Rec → List (Tmp × Bool) → (St → Option α) → Option α
  | [], σ, _, rs, _, k => if (allPairs an rs all.length && backOk all 0) = true then k σ else none
  | o :: r, σ, nid, rs, kn, k => match o.guard with
    | none => drawStep T C fid an N0 o [] σ nid rs fun ρ rc => execDraw T C fid all an N0 r ρ (nid + newCnt T fid o) (rs ++ [rc]) (knCut o.dst kn) k
    | some (j, w) => match dstOf all j with
      | some g => match knOf kn g with
        | some b => match (b == w) with
          | true => drawStep T C fid an N0 o [g] σ nid rs fun ρ rc => execDraw T C fid all an N0 r ρ (nid + newCnt T fid o) (rs ++ [rc]) (knCut o.dst kn) k
          | false => execDraw T C fid all an N0 r ⟨putT σ.t o.dst (.tup []), σ.H⟩ (nid + newCnt T fid o) (rs ++ [⟨o.dst, [g], [], false, .none, nid, newCnt T fid o⟩]) (knCut o.dst kn) k
        | none => testG (tvOf σ g) w
          (fun b => drawStep T C fid an N0 o [g] σ nid rs fun ρ rc => execDraw T C fid all an N0 r ρ (nid + newCnt T fid o) (rs ++ [rc]) (knCut o.dst ((g, b) :: kn)) k)
          (fun b => execDraw T C fid all an N0 r ⟨putT σ.t o.dst (.tup []), σ.H⟩ (nid + newCnt T fid o) (rs ++ [⟨o.dst, [g], [], false, .none, nid, newCnt T fid o⟩]) (knCut o.dst ((g, b) :: kn)) k)
          (execDraw T C fid all an N0 r ⟨putT σ.t o.dst (.tup []), σ.H⟩ (nid + newCnt T fid o) (rs ++ [⟨o.dst, [g], [], false, .none, nid, newCnt T fid o⟩]) (knCut o.dst kn) k)
      | none => none

/-! ### code -/
inductive Ex where
  | normal
  | exit (id : Nat)
  | ret
def firstReg : Code → Nat
  | .region id _ _ => id
  | .seq a _ => firstReg a
  | .block _ c => firstReg c
  | .loop c => firstReg c
  | _ => 0
/-- No object of ours in it. -/
def plainA : Nat → AV → Bool
  | d + 1, .agg l => l.all (plainA d)
  | d + 1, .tup l => l.all (plainA d)
  | d + 1, .fn _ l => l.all (plainA d)
  | d + 1, .ref l => l.all (plainA d)
  | 0, .agg _ => false
  | 0, .tup _ => false
  | 0, .fn _ _ => false
  | 0, .ref _ => false
  | _, .osl _ _ => false
  | _, .bptr _ _ => false
  | _, .mth _ _ _ => false
  | _, .eptr _ _ _ _ => false
  | _, .isl _ _ _ _ => false
  | _, .iptr _ _ _ _ _ => false
  | _, _ => true
def verOf (r0 o v : Nat) : Nat := if r0 ≤ o then 0 else v
def trimA (r0 : Nat) (H : Nat → AO) (h0 : Nat) : AV → AV
  | .osl o ver => if o < h0 then (match H o with
    | .arr _ _ cur _ => if cur = ver then .osl o (verOf r0 o ver) else .top
    | _ => .top) else .top
  | .bptr o off => if o < h0 then .bptr o off else .top
  | .mth f o off => if o < h0 then .mth f o off else .top
  | .eptr _ _ _ _ => .top
  | .isl o ver i c => if o < h0 then (if o < r0 then (match H o with
    | .arr _ _ cur _ => if cur = ver then .isl o ver i c else .top
    | _ => .top) else .top) else .top
  | .iptr _ _ _ _ _ => .top
  | .ref cells => if cells.all (plainA depth) = true then .ref cells else .top
  | .dec p h => .bool (@decide p h)
  | .ndec p h => .bool (!@decide p h)
  | x => x
def trimT (f : AV → AV) (keep : List Tmp) : Nat → List AV → List AV
  | _, [] => []
  | i, x :: r => (if keep.contains i = true then f x else .top) :: trimT f keep (i + 1) r
def trimO (r0 : Nat) (f : AV → AV) : Nat → Nat → List AO → List AO
  | _, 0, _ => []
  | _, _, [] => []
  | i, n + 1, x :: r => (match x with
    | .arr t l ver dp => .arr t l (verOf r0 i ver) dp
    | .box cells => .box (cells.map f)
    | x => x) :: trimO r0 f (i + 1) n r
/-- At a loop's head: what is not kept is forgotten; the versions of its own objects (from r0 on) are told anew. -/
def trim (r0 : Nat) (keep : List Tmp) (h0 : Nat) (σ : St) : St :=
  ⟨trimT (mapA (trimA r0 (look σ.H) h0) depth) keep 0 σ.t, trimO r0 (mapA (trimA r0 (look σ.H) h0) depth) 0 h0 σ.H⟩
/-- A mark: the empty slice is to be a slice that nobody writes, not an object. -/
def softTy : Ty → Option Ty
  | .pr (.pr .bool .bool) e => some e
  | _ => none
/-- A mark: the empty slice is to be an object whose elements' slices are not its own. -/
def objT : Ty → Ty
  | .pr (.pr .bool .str) e => e
  | t => t
def objB : Ty → Bool
  | .pr (.pr .bool .str) _ => false
  | _ => true
/-- A mark: the object is to be let go. -/
def letTy : Ty → Bool
  | .pr (.pr .str .bool) _ => true
  | _ => false
/-- A mark: the empty slices in a struct of ours are to be slices that nobody writes, or objects. -/
def boxTy : Ty → Option (Bool × Ty)
  | .pr (.pr .str .str) e => some (false, e)
  | .pr (.pr .str (.sl .str)) e => some (true, e)
  | _ => none
def repl (y : AV) : AV → AV
  | .zsl => y
  | x => x
def boxesO (o : Nat) (y : AV) (H : List AO) : List AO :=
  match look H o with
  | .box cells => H.set o (.box (cells.map (repl y)))
  | _ => H
/-- Empty slices become objects, or lists. -/
def promote : List (Tmp × Ty) → St → St
  | [], σ => σ
  | (i, t) :: r, σ => promote r (match tvOf σ i with
    | .zsl => (match softTy t with
      | some e => ⟨setT σ.t i (.sl e []), σ.H⟩
      | none => ⟨setT σ.t i (.osl σ.H.length 0), σ.H ++ [.arr (objT t) [] 0 (objB t)]⟩)
    | .osl o _ => if letTy t = true then freeze [o] σ else σ
    | .bptr o _ => (match boxTy t with
      | some (false, e) => ⟨σ.t, boxesO o (.sl e []) σ.H⟩
      | some (true, e) => ⟨σ.t, boxesO o (.osl σ.H.length 0) (σ.H ++ [.arr e [] 0 true])⟩
      | none => σ)
    | _ => σ)
def loopIt (body : St → (Ex → St → Option α) → Option α) (nm : St → St) (k : Ex → St → Option α) : Nat → St → Option α
  | 0, _ => none
  | n + 1, σ => body σ fun e ρ => match e with
    | .normal => loopIt body nm k n (nm ρ)
    | e => k e ρ
/-- Two ways that come to the same. -/
noncomputable def both (x y : Option α) : Option α := @ite _ (x = y) (Classical.propDecidable _) x none
noncomputable def testK (c : AV) (x y : Option α) : Option α :=
  match c with
  | .anyb => both x y
  | c => testC c x y
noncomputable def exec (T : Tb) (C : Ca T) (fid : FuncId) (r0 n : Nat) : Code → St → (Ex → St → Option α) → Option α
  | .skip, σ, k => k .normal σ
  | .region _ ops false, σ, k => execOps T C fid ops.toList ops.toList σ fun ρ => k .normal ρ
  | .region _ ops true, σ, k => execDraw T C fid ops.toList (ancs ops.toList []) σ.H.length ops.toList σ σ.H.length [] [] fun ρ => k .normal ρ
  | .seq a b, σ, k => exec T C fid r0 n a σ fun e ρ => match e with
    | .normal => exec T C fid r0 n b ρ k
    | e => k e ρ
  | .cond c a b, σ, k => testK (opnd (tvOf σ) c) (exec T C fid r0 n a σ k) (exec T C fid r0 n b σ k)
  | .block id c, σ, k => exec T C fid r0 n c σ fun e ρ => match e with
    | .exit j => if j = id then k .normal ρ else k (.exit j) ρ
    | e => k e ρ
  | .loop c, σ, k =>
    let kp := T.keep fid (firstReg c)
    let σ0 := promote kp.2 σ
    loopIt (exec T C fid r0 n c) (trim r0 kp.1 σ0.H.length) k n (trim r0 kp.1 σ0.H.length σ0)
  | .exit id, σ, k => k (.exit id) σ
  | .ret, σ, k => k .ret σ
  | _, _, _ => none
end

/-! ### results and calls -/
def isAggA : AV → Bool
  | .agg _ => true
  | _ => false
/-- A result: whether it is made of cells, and its cells. -/
def resCells (T : Tb) (σ : St) : ResultVar → Option (Bool × List AV)
  | .tmp t => match cellsO (tvOf σ t) with
    | some l => some (isAggA (tvOf σ t), l)
    | none => none
  | .cell a t => match T.ty t, cellsAt (look σ.H) (tvOf σ a) with
    | some i, some cs => if i.size ≤ cs.length then some (i.k.isAgg, cs.take i.size) else none
    | _, _ => none
def expD (H : Nat → AO) : (t : Ty) → List AV → Option t.D
  | .sl e, [.osl o ver] => match H o with
    | .arr e' l cur _ => if cur = ver then (if h : e' = e then some (h ▸ l) else none) else none
    | _ => none
  | .pr a b, vs => match expD H a (vs.take a.size), expD H b (vs.drop a.size) with
    | some x, some y => some (x, y)
    | _, _ => none
  | t, vs => toD t vs
def shapeOk (t : Ty) (v : Bool × List AV) : Bool := (v.1 == t.isPr) && Nat.beq v.2.length t.size
def expL (H : Nat → AO) : (rs : List Ty) → List (Bool × List AV) → Option (DL rs)
  | [], [] => some ()
  | [a], [v] => if shapeOk a v = true then expD H a v.2 else none
  | a :: b :: r, v :: w => if shapeOk a v = true then (match expD H a v.2, expL H (b :: r) w with
    | some x, some y => some (x, y)
    | _, _ => none) else none
  | _, _ => none
def expXL (H : Nat → AO) : (rs : List Ty) → List (Bool × List AV) → Option (DL rs × List Nat)
  | [], [] => some ((), [])
  | [a], [v] => if shapeOk a v = true then toX H a v.2 else none
  | a :: b :: r, v :: w => if shapeOk a v = true then (match toX H a v.2, expXL H (b :: r) w with
    | some (x, i), some (y, j) => some ((x, y), i ++ j)
    | _, _ => none) else none
  | _, _ => none
def allR {β γ : Type} (f : β → Option γ) : List β → Option (List γ)
  | [] => some []
  | x :: r => match f x, allR f r with
    | some y, some s => some (y :: s)
    | _, _ => none
/-- What a function answers, out of its end. -/
def finish (T : Tb) (f : FuncId) (fn : Func) (e : Ex) (σ : St) : Option (DL (T.rs f)) :=
  match e with
  | .exit _ => none
  | _ => match allR (resCells T σ) fn.results.toList with
    | some vs => if T.fresh f = true then (match expXL (look σ.H) (T.rs f) vs with
        | some (d, ids) => if nodupB ids = true then some d else none
        | none => none) else expL (look σ.H) (T.rs f) vs
    | none => none
/-- The same of one that works on its caller's objects. -/
def finishT (T : Tb) (fn : Func) (e : Ex) (σ : St) : Option (AV × List AO) :=
  match e with
  | .exit _ => none
  | _ => match allR (resCells T σ) fn.results.toList with
    | some vs => some (resA (vs.map fun p => ofCells p.1 p.2), σ.H)
    | none => none
def st0 (fn : Func) (args : List AV) (H : List AO) : St := ⟨args ++ List.replicate (fn.ntmps - args.length) .top, H⟩
/-- The functions, to a depth. 'orc': what is known of functions that are not interpreted. -/
noncomputable def run (T : Tb) (orc : (f : FuncId) → List AV → Option (DL (T.rs f))) : Nat → Ca T
  | 0 => ⟨fun _ _ => none, fun _ _ _ _ => none⟩
  | n + 1 => ⟨fun f args => match T.fn f with
      | some fn => match fn.body with
        | some c => exec T (run T orc n) f 0 n c (st0 fn args []) (finish T f fn)
        | none => none
      | none => orc f args,
    fun f args H k => if T.thr f = true then (match T.fn f with
      | some fn => match fn.body with
        | some c => exec T (run T orc n) f H.length n c (st0 fn args H) (fun e σ => (finishT T fn e σ).bind fun x => k x.1 x.2)
        | none => none
      | none => none) else none⟩
end Go.Proofs.YthanbjnpfenniaaDoor.Fw

namespace Go.Proofs.YthanbjnpfenniaaDoor.Fw
open Go Go.RowKit
set_option linter.unusedVariables false

/-- Which block an object lies in, which blocks its elements own, which blocks nobody writes (slices' and places'), the world. -/
structure Cx where
  H : Nat → AO
  blk : Nat → Nat
  own : Nat → List Nat
  F : Nat → Prop
  G : Nat → Prop
  w : World

/-! ### plain data in a world -/
/-- Data that lie in cells; their slices in blocks that nobody writes. -/
def RelD (F : Nat → Prop) (w : World) : (t : Ty) → t.D → List Value → Prop
  | .int k, n, vs => vs = [.int k n]
  | .bool, b, vs => vs = [.bool b]
  | .str, s, vs => vs = [.string s]
  | .sl e, l, vs => ∃ A c, vs = [.slice A l.length c] ∧ l.length ≤ c ∧ (l = [] ∨ ∃ b o, A = some ⟨b, o, none⟩ ∧ F b ∧
      ∀ i x, l[i]? = some x → ∃ us, RelD F w e x us ∧ ∀ j u, us[j]? = some u → w.cell? ⟨b, o + i * e.size + j, none⟩ = some u)
  | .pr a b, d, vs => ∃ va vb, vs = va ++ vb ∧ RelD F w a d.1 va ∧ RelD F w b d.2 vb
/-- Data that lie in cells; their slices in blocks of their own, which are told. -/
def RelX (w : World) : (t : Ty) → t.D → List Value → List Nat → Prop
  | .int k, n, vs, S => vs = [.int k n] ∧ S = []
  | .bool, b, vs, S => vs = [.bool b] ∧ S = []
  | .str, s, vs, S => vs = [.string s] ∧ S = []
  | .sl e, l, vs, S => (l = [] ∧ S = [] ∧ ∃ A, vs = [.slice A 0 0]) ∨
      (l ≠ [] ∧ ∃ (b c : Nat) (cs : Array Value) (tid : TypeId) (ss : List (List Nat)), vs = [.slice (some ⟨b, 0, none⟩) l.length c] ∧ l.length ≤ c ∧ w.heap[b]? = some (.cells cs tid (0, 0)) ∧ c * e.size ≤ cs.size ∧ S = b :: ss.flatten ∧ ss.length = l.length ∧
        ∀ i x, l[i]? = some x → ∃ us, RelX w e x us (ss.getD i []) ∧ ∀ j u, us[j]? = some u → cs[i * e.size + j]? = some u)
  | .pr a b, d, vs, S => ∃ va vb Sa Sb, vs = va ++ vb ∧ S = Sa ++ Sb ∧ RelX w a d.1 va Sa ∧ RelX w b d.2 vb Sb

theorem RelD.len {F : Nat → Prop} {w : World} : ∀ {t : Ty} {d : t.D} {vs : List Value}, RelD F w t d vs → vs.length = t.size
  | .int _, _, _, h => by simp only [RelD] at h; subst h; rfl
  | .bool, _, _, h => by simp only [RelD] at h; subst h; rfl
  | .str, _, _, h => by simp only [RelD] at h; subst h; rfl
  | .sl _, _, _, h => by simp only [RelD] at h; obtain ⟨A, c, rfl, _⟩ := h; rfl
  | .pr a b, _, _, h => by
    simp only [RelD] at h; obtain ⟨va, vb, rfl, h1, h2⟩ := h
    simp [Ty.size, RelD.len h1, RelD.len h2]
theorem RelX.len {w : World} : ∀ {t : Ty} {d : t.D} {vs : List Value} {S : List Nat}, RelX w t d vs S → vs.length = t.size
  | .int _, _, _, _, h => by simp only [RelX] at h; obtain ⟨rfl, _⟩ := h; rfl
  | .bool, _, _, _, h => by simp only [RelX] at h; obtain ⟨rfl, _⟩ := h; rfl
  | .str, _, _, _, h => by simp only [RelX] at h; obtain ⟨rfl, _⟩ := h; rfl
  | .sl _, _, _, _, h => by
    simp only [RelX] at h
    rcases h with ⟨_, _, A, rfl⟩ | ⟨_, b, c, cs, tid, ss, rfl, _⟩ <;> rfl
  | .pr a b, _, _, _, h => by
    simp only [RelX] at h; obtain ⟨va, vb, Sa, Sb, rfl, rfl, h1, h2⟩ := h
    simp [Ty.size, RelX.len h1, RelX.len h2]

theorem cell_of_heap {w w' : World} {b : Nat} (h : w'.heap[b]? = w.heap[b]?) (o : Nat) : w'.cell? ⟨b, o, none⟩ = w.cell? ⟨b, o, none⟩ := by
  simp [World.cell?, h]
theorem RelD.mono {F F' : Nat → Prop} {w w' : World} (hF : ∀ b, F b → F' b) (hw : ∀ b, F b → w'.heap[b]? = w.heap[b]?) :
    ∀ {t : Ty} {d : t.D} {vs : List Value}, RelD F w t d vs → RelD F' w' t d vs
  | .int _, _, _, h => by simpa only [RelD] using h
  | .bool, _, _, h => by simpa only [RelD] using h
  | .str, _, _, h => by simpa only [RelD] using h
  | .sl _, _, _, h => by
    simp only [RelD] at h ⊢
    obtain ⟨A, c, rfl, hc, h⟩ := h
    refine ⟨A, c, rfl, hc, ?_⟩
    rcases h with h | ⟨b, o, hA, hb, h⟩
    · exact .inl h
    · refine .inr ⟨b, o, hA, hF b hb, fun i x hx => ?_⟩
      obtain ⟨us, h1, h2⟩ := h i x hx
      exact ⟨us, RelD.mono hF hw h1, fun j u hu => (cell_of_heap (hw b hb) _).trans (h2 j u hu)⟩
  | .pr _ _, _, _, h => by
    simp only [RelD] at h ⊢
    obtain ⟨va, vb, rfl, h1, h2⟩ := h
    exact ⟨va, vb, rfl, RelD.mono hF hw h1, RelD.mono hF hw h2⟩
theorem RelX.mono {w w' : World} : ∀ {t : Ty} {d : t.D} {vs : List Value} {S : List Nat}, (∀ b ∈ S, w'.heap[b]? = w.heap[b]?) → RelX w t d vs S → RelX w' t d vs S
  | .int _, _, _, _, _, h => by simpa only [RelX] using h
  | .bool, _, _, _, _, h => by simpa only [RelX] using h
  | .str, _, _, _, _, h => by simpa only [RelX] using h
  | .sl _, _, _, _, hw, h => by
    simp only [RelX] at h ⊢
    rcases h with h | ⟨hl, b, c, cs, tid, ss, rfl, hc, hb, hcs, rfl, hss, h⟩
    · exact .inl h
    · refine .inr ⟨hl, b, c, cs, tid, ss, rfl, hc, (hw b (by simp)).trans hb, hcs, rfl, hss, fun i x hx => ?_⟩
      obtain ⟨us, h1, h2⟩ := h i x hx
      refine ⟨us, RelX.mono (fun b' hb' => hw b' ?_) h1, h2⟩
      have hi : i < ss.length := by rw [hss]; exact (List.getElem?_eq_some_iff.1 hx).1
      refine List.mem_cons_of_mem _ (List.mem_flatten.2 ⟨ss.getD i [], ?_, hb'⟩)
      rw [List.getD_eq_getElem?_getD, List.getElem?_eq_getElem hi]
      exact List.getElem_mem hi
  | .pr _ _, _, _, _, hw, h => by
    simp only [RelX] at h ⊢
    obtain ⟨va, vb, Sa, Sb, rfl, rfl, h1, h2⟩ := h
    exact ⟨va, vb, Sa, Sb, rfl, rfl, RelX.mono (fun b hb => hw b (List.mem_append.2 (.inl hb))) h1, RelX.mono (fun b hb => hw b (List.mem_append.2 (.inr hb))) h2⟩
theorem cell_of_cells {w : World} {b : Nat} {cs : Array Value} {tid : TypeId} {fz : Nat × Nat} (h : w.heap[b]? = some (.cells cs tid fz)) (o : Nat) : w.cell? ⟨b, o, none⟩ = cs[o]? := by
  simp [World.cell?, h]
theorem getD_mem_flatten {ss : List (List Nat)} {i : Nat} {b : Nat} (h : b ∈ ss.getD i []) : b ∈ ss.flatten := by
  rw [List.getD_eq_getElem?_getD] at h
  cases hi : ss[i]? with
  | none => rw [hi] at h; simp at h
  | some s => rw [hi] at h; exact List.mem_flatten.2 ⟨s, List.mem_of_getElem? hi, h⟩
/-- What owns its blocks can be shown as what nobody writes. -/
theorem RelX.toD {w : World} {F : Nat → Prop} : ∀ {t : Ty} {d : t.D} {vs : List Value} {S : List Nat}, (∀ b ∈ S, F b) → RelX w t d vs S → RelD F w t d vs
  | .int _, _, _, _, _, h => by simp only [RelX] at h; simpa only [RelD] using h.1
  | .bool, _, _, _, _, h => by simp only [RelX] at h; simpa only [RelD] using h.1
  | .str, _, _, _, _, h => by simp only [RelX] at h; simpa only [RelD] using h.1
  | .sl _, _, _, _, hF, h => by
    simp only [RelX] at h
    simp only [RelD]
    rcases h with ⟨rfl, _, A, rfl⟩ | ⟨hl, b, c, cs, tid, ss, rfl, hc, hb, hcs, rfl, hss, h⟩
    · exact ⟨A, 0, rfl, Nat.le_refl _, .inl rfl⟩
    · refine ⟨_, c, rfl, hc, .inr ⟨b, 0, rfl, hF b (by simp), fun i x hx => ?_⟩⟩
      obtain ⟨us, h1, h2⟩ := h i x hx
      refine ⟨us, RelX.toD (fun b' hb' => hF b' (List.mem_cons_of_mem _ (getD_mem_flatten hb'))) h1, fun j u hu => ?_⟩
      rw [cell_of_cells hb, Nat.zero_add]; exact h2 j u hu
  | .pr _ _, _, _, _, hF, h => by
    simp only [RelX] at h
    simp only [RelD]
    obtain ⟨va, vb, Sa, Sb, rfl, rfl, h1, h2⟩ := h
    exact ⟨va, vb, rfl, RelX.toD (fun b hb => hF b (List.mem_append.2 (.inl hb))) h1, RelX.toD (fun b hb => hF b (List.mem_append.2 (.inr hb))) h2⟩
/-- Data without slices own nothing. -/
theorem RelX.flat {w : World} : ∀ {t : Ty} {d : t.D} {vs : List Value} {S : List Nat}, t.flat = true → RelX w t d vs S → S = []
  | .int _, _, _, _, _, h => by simp only [RelX] at h; exact h.2
  | .bool, _, _, _, _, h => by simp only [RelX] at h; exact h.2
  | .str, _, _, _, _, h => by simp only [RelX] at h; exact h.2
  | .sl _, _, _, _, hf, _ => by simp [Ty.flat] at hf
  | .pr _ _, _, _, _, hf, h => by
    simp only [RelX] at h
    simp only [Ty.flat, Bool.and_eq_true] at hf
    obtain ⟨va, vb, Sa, Sb, rfl, rfl, h1, h2⟩ := h
    rw [RelX.flat hf.1 h1, RelX.flat hf.2 h2]; rfl
theorem RelD.flat {F : Nat → Prop} {w : World} (w' : World) : ∀ {t : Ty} {d : t.D} {vs : List Value}, t.flat = true → RelD F w t d vs → RelX w' t d vs []
  | .int _, _, _, _, h => by simp only [RelD] at h; simp only [RelX]; exact ⟨h, trivial⟩
  | .bool, _, _, _, h => by simp only [RelD] at h; simp only [RelX]; exact ⟨h, trivial⟩
  | .str, _, _, _, h => by simp only [RelD] at h; simp only [RelX]; exact ⟨h, trivial⟩
  | .sl _, _, _, hf, _ => by simp [Ty.flat] at hf
  | .pr _ _, _, _, hf, h => by
    simp only [RelD] at h
    simp only [Ty.flat, Bool.and_eq_true] at hf
    obtain ⟨va, vb, rfl, h1, h2⟩ := h
    simp only [RelX]
    exact ⟨va, vb, [], [], rfl, rfl, RelD.flat w' hf.1 h1, RelD.flat w' hf.2 h2⟩

/-! ### values -/
def OwnHdr (C : Cx) (o esz n : Nat) (v : Value) : Prop :=
  (n = 0 ∧ ∃ A, v = .slice A 0 0) ∨ (n ≠ 0 ∧ ∃ (c : Nat) (cs : Array Value) (tid : TypeId), v = .slice (some ⟨C.blk o, 0, none⟩) n c ∧ n ≤ c ∧ C.w.heap[C.blk o]? = some (.cells cs tid (0, 0)) ∧ c * esz ≤ cs.size)
def OslOk (C : Cx) (o ver : Nat) (v : Value) : Prop :=
  (∃ A n c, v = .slice A n c) ∧ match C.H o with
  | .arr t l cur _ => ver < cur ∨ (ver = cur ∧ OwnHdr C o t.size l.length v)
  | .dead => True
  | _ => False
def BptrOk (C : Cx) (o off : Nat) (v : Value) : Prop :=
  (∃ p, v = .pointer p) ∧ match C.H o with
  | .box _ => v = .pointer (some ⟨C.blk o, off, none⟩)
  | .dead => True
  | _ => False
def EptrOk (C : Cx) (o ver i off : Nat) (v : Value) : Prop :=
  (∃ p, v = .pointer p) ∧ match C.H o with
  | .arr t l cur _ => ver < cur ∨ (ver = cur ∧ i < l.length ∧ v = .pointer (some ⟨C.blk o, i * t.size + off, none⟩))
  | .dead => True
  | _ => False
/-- The header of a slice that stands in cell c of element i of object o. -/
def IslOk (C : Cx) (o ver i c : Nat) (v : Value) : Prop :=
  (∃ A n k, v = .slice A n k) ∧ match C.H o with
  | .arr t l cur _ => ver < cur ∨ (ver = cur ∧ 0 < ver ∧ t.flat = false ∧ i < l.length ∧ C.w.cell? ⟨C.blk o, i * t.size + c, none⟩ = some v)
  | .dead => True
  | _ => False
def IptrOk (C : Cx) (o ver i c j : Nat) (v : Value) : Prop :=
  (∃ p, v = .pointer p) ∧ match C.H o with
  | .arr t l cur _ => ver < cur ∨ (ver = cur ∧ 0 < ver ∧ t.flat = false ∧ i < l.length ∧ ∃ b n k, C.w.cell? ⟨C.blk o, i * t.size + c, none⟩ = some (.slice (some ⟨b, 0, none⟩) n k) ∧ j < n ∧ v = .pointer (some ⟨b, j, none⟩))
  | .dead => True
  | _ => False
mutual
def RelA (C : Cx) : AV → Value → Prop
  | .int k n, v => v = .int k n
  | .bool b, v => v = .bool b
  | .dec p h, v => v = .bool (@decide p h)
  | .ndec p h, v => v = .bool (!@decide p h)
  | .anyb, v => ∃ b, v = .bool b
  | .str s, v => v = .string s
  | .sl t l, v => RelD C.F C.w (.sl t) l [v]
  | .zsl, v => ∃ A, v = .slice A 0 0
  | .osl o ver, v => OslOk C o ver v
  | .bptr o off, v => BptrOk C o off v
  | .eptr o ver i off, v => EptrOk C o ver i off v
  | .nilp, v => v = .pointer none
  | .ref cells, v => ∃ b off, v = .pointer (some ⟨b, off, none⟩) ∧ (C.F b ∨ C.G b) ∧ RelR C b cells off
  | .agg cells, v => ∃ vs, v = .agg vs.toArray ∧ (∀ u ∈ vs, u.oneCell' = true) ∧ RelL C cells vs
  | .tup cells, v => ∃ vs, v = .tuple vs.toArray ∧ RelL C cells vs
  | .fn f caps, v => ∃ vs, v = .func (.func f) #[] vs.toArray ∧ RelL C caps vs
  | .mth f o off, v => ∃ p, v = .func (.func f) #[p] #[] ∧ BptrOk C o off p
  | .glb g, v => v = .pointer (some ⟨g, 0, none⟩)
  | .isl o ver i c, v => IslOk C o ver i c v
  | .iptr o ver i c j, v => IptrOk C o ver i c j v
  | .top, _ => True
/-- Lists of values. -/
def RelL (C : Cx) : List AV → List Value → Prop
  | [], vs => vs = []
  | x :: r, vs => ∃ v vr, vs = v :: vr ∧ RelA C x v ∧ RelL C r vr
/-- What stands at a place and behind it. -/
def RelR (C : Cx) (b : Nat) : List AV → Nat → Prop
  | [], _ => True
  | x :: r, off => (∃ u, C.w.cell? ⟨b, off, none⟩ = some u ∧ u.oneCell' = true ∧ RelA C x u) ∧ RelR C b r (off + 1)
end
theorem RelL.len {C : Cx} : ∀ {xs : List AV} {vs : List Value}, RelL C xs vs → xs.length = vs.length
  | [], _, h => by simp only [RelL] at h; subst h; rfl
  | _ :: r, _, h => by
    simp only [RelL] at h
    obtain ⟨v, vr, rfl, _, h⟩ := h
    simp [RelL.len h]
theorem RelL.get {C : Cx} : ∀ {xs : List AV} {vs : List Value} {j : Nat} {x : AV}, RelL C xs vs → xs[j]? = some x → ∃ u, vs[j]? = some u ∧ RelA C x u
  | [], _, _, _, _, hj => by simp at hj
  | _ :: r, _, 0, _, h, hj => by
    simp only [RelL] at h
    obtain ⟨v, vr, rfl, h1, h⟩ := h
    simp at hj; subst hj
    exact ⟨v, rfl, h1⟩
  | _ :: r, _, j + 1, _, h, hj => by
    simp only [RelL] at h
    obtain ⟨v, vr, rfl, h1, h⟩ := h
    have := RelL.get (xs := r) (j := j) h (by simpa using hj)
    simpa using this
theorem RelL.mk {C : Cx} : ∀ {xs : List AV} {vs : List Value}, xs.length = vs.length → (∀ (j : Nat) x u, xs[j]? = some x → vs[j]? = some u → RelA C x u) → RelL C xs vs
  | [], [], _, _ => by simp [RelL]
  | x :: r, v :: s, hl, h => by
    simp only [RelL]
    exact ⟨v, s, rfl, h 0 x v rfl rfl, RelL.mk (by simpa using hl) fun j x u h1 h2 => h (j + 1) x u (by simpa using h1) (by simpa using h2)⟩
theorem RelL.append {C : Cx} : ∀ {xs : List AV} {vs : List Value} {ys : List AV} {us : List Value}, RelL C xs vs → RelL C ys us → RelL C (xs ++ ys) (vs ++ us)
  | [], _, _, _, h, k => by simp only [RelL] at h; subst h; simpa using k
  | x :: r, _, _, _, h, k => by
    simp only [RelL] at h
    obtain ⟨v, vr, rfl, h1, h⟩ := h
    simp only [List.cons_append, RelL]
    exact ⟨v, _, rfl, h1, RelL.append h k⟩
theorem RelL.drop {C : Cx} : ∀ {n : Nat} {xs : List AV} {vs : List Value}, RelL C xs vs → RelL C (xs.drop n) (vs.drop n)
  | 0, _, _, h => by simpa using h
  | n + 1, [], _, h => by simp only [RelL] at h; subst h; simp [RelL]
  | n + 1, x :: r, _, h => by
    simp only [RelL] at h
    obtain ⟨v, vr, rfl, h1, h⟩ := h
    simpa using RelL.drop h
theorem RelL.take {C : Cx} : ∀ {n : Nat} {xs : List AV} {vs : List Value}, RelL C xs vs → RelL C (xs.take n) (vs.take n)
  | 0, _, _, h => by simp [RelL]
  | n + 1, [], _, h => by simp only [RelL] at h; subst h; simp [RelL]
  | n + 1, x :: r, _, h => by
    simp only [RelL] at h
    obtain ⟨v, vr, rfl, h1, h⟩ := h
    simp only [List.take_succ_cons, RelL]
    exact ⟨v, _, rfl, h1, RelL.take h⟩
theorem RelR.get {C : Cx} {b : Nat} : ∀ {cells : List AV} {off j : Nat} {x : AV}, RelR C b cells off → cells[j]? = some x → ∃ u, C.w.cell? ⟨b, off + j, none⟩ = some u ∧ u.oneCell' = true ∧ RelA C x u
  | [], _, _, _, _, hj => by simp at hj
  | _ :: r, off, 0, _, h, hj => by
    simp only [RelR] at h
    simp at hj; subst hj
    exact h.1
  | _ :: r, off, j + 1, _, h, hj => by
    simp only [RelR] at h
    have := RelR.get h.2 (j := j) (by simpa using hj)
    rwa [show off + 1 + j = off + (j + 1) by omega] at this
theorem RelR.mk {C : Cx} {b : Nat} : ∀ {cells : List AV} {off : Nat}, (∀ (j : Nat) x, cells[j]? = some x → ∃ u, C.w.cell? ⟨b, off + j, none⟩ = some u ∧ u.oneCell' = true ∧ RelA C x u) → RelR C b cells off
  | [], _, _ => by simp [RelR]
  | x :: r, off, h => by
    simp only [RelR]
    refine ⟨h 0 x rfl, RelR.mk fun j y hj => ?_⟩
    have := h (j + 1) y (by simpa using hj)
    rwa [show off + (j + 1) = off + 1 + j by omega] at this
theorem RelR.drop {C : Cx} {b : Nat} : ∀ {n : Nat} {cells : List AV} {off : Nat}, RelR C b cells off → RelR C b (cells.drop n) (off + n)
  | 0, _, _, h => by simpa using h
  | n + 1, [], _, _ => by simp [RelR]
  | n + 1, x :: r, off, h => by
    simp only [RelR] at h
    have := RelR.drop (n := n) h.2
    rwa [show off + 1 + n = off + (n + 1) by omega] at this

/-! ### objects -/
/-- The elements of an array, in its block's cells. -/
def ElemsOk (C : Cx) (o : Nat) (t : Ty) (l : List t.D) (dp : Bool) (cs : Array Value) : Prop :=
  if dp = true then ∃ ss : List (List Nat), C.own o = ss.flatten ∧ ss.length = l.length ∧ ∀ i x, l[i]? = some x → ∃ us, RelX C.w t x us (ss.getD i []) ∧ ∀ j u, us[j]? = some u → cs[i * t.size + j]? = some u
  else C.own o = [] ∧ ∀ i x, l[i]? = some x → ∃ us, RelD C.F C.w t x us ∧ ∀ j u, us[j]? = some u → cs[i * t.size + j]? = some u
def ArrOk (C : Cx) (o : Nat) (t : Ty) (l : List t.D) (dp : Bool) : Prop :=
  (l = [] ∧ C.own o = []) ∨ (l ≠ [] ∧ ∃ (cs : Array Value) (tid : TypeId), C.w.heap[C.blk o]? = some (.cells cs tid (0, 0)) ∧ ElemsOk C o t l dp cs)
def ObjOk (C : Cx) (o : Nat) : AO → Prop
  | .box cells => ∃ (cs : Array Value) (tid : TypeId), C.w.heap[C.blk o]? = some (.cells cs tid (0, 0)) ∧ (∀ u ∈ cs.toList, u.oneCell' = true) ∧ RelL C cells cs.toList
  | .arr t l _ dp => ArrOk C o t l dp
  | _ => True
def blks (C : Cx) (o : Nat) : List Nat :=
  match C.H o with
  | .box _ => [C.blk o]
  | .arr _ l _ _ => if l.isEmpty = true then [] else C.blk o :: C.own o
  | _ => []
/-- The package variables hold what is told, and nobody writes them. -/
def GlOk (F : Nat → Prop) (w : World) : Prop := ∀ g k l, glTab g = some (k, l) → F g ∧ ∀ (i : Nat) x, l[i]? = some x → w.cell? ⟨g, i, none⟩ = some (.int k x)
theorem GlOk.mono {F F' : Nat → Prop} {w w' : World} (h : GlOk F w) (hF : ∀ b, F b → F' b) (hw : ∀ b, F b → w'.heap[b]? = w.heap[b]?) : GlOk F' w' := fun g k l hg => by
  obtain ⟨h1, h2⟩ := h g k l hg
  exact ⟨hF g h1, fun i x hx => (cell_of_heap (hw g h1) _).trans (h2 i x hx)⟩
/-- All is well: the objects lie as told, apart from each other and from what nobody writes, from 'base' on. -/
structure Good (base : Nat) (C : Cx) : Prop where
  ob : ∀ o, ObjOk C o (C.H o)
  low : ∀ o b, b ∈ blks C o → base ≤ b ∧ b < C.w.heap.size ∧ ¬ C.F b ∧ ¬ C.G b
  nd : ∀ o, (blks C o).Nodup
  dj : ∀ o p b, o ≠ p → b ∈ blks C o → b ∉ blks C p
  fz : ∀ b, C.F b → b < C.w.heap.size
  gz : ∀ b, C.G b → b < C.w.heap.size
  gl : GlOk C.F C.w

/-- The slices' headers in a block stay. -/
def SlKeep (w w' : World) (b : Nat) : Prop := ∀ (q : Nat) (A : Option Addr) (n k : Nat), w.cell? ⟨b, q, none⟩ = some (.slice A n k) → w'.cell? ⟨b, q, none⟩ = some (.slice A n k)
theorem SlKeep.of_heap {w w' : World} {b : Nat} (h : w'.heap[b]? = w.heap[b]?) : SlKeep w w' b := fun q _ _ _ hc => (cell_of_heap h q).trans hc
theorem SlKeep.trans {w w' w2 : World} {b : Nat} (h : SlKeep w w' b) (h2 : SlKeep w' w2 b) : SlKeep w w2 b := fun q A n k hc => h2 q A n k (h q A n k hc)
/-! ### going on -/
def ObjExt (C C' : Cx) (o : Nat) : Prop :=
  match C.H o, C'.H o with
  | .hole, _ => True
  | .dead, .dead => True
  | .box _, .box _ => C'.blk o = C.blk o
  | .box _, .dead => True
  | .arr t l ver _, .arr t' l' ver' _ => ver < ver' ∨ (ver = ver' ∧ t'.size = t.size ∧ l'.length = l.length ∧ (l ≠ [] → C'.blk o = C.blk o ∧
      (∀ cs tid, C.w.heap[C.blk o]? = some (.cells cs tid (0, 0)) → ∃ cs', C'.w.heap[C.blk o]? = some (.cells cs' tid (0, 0)) ∧ cs'.size = cs.size) ∧
      (0 < ver → t.flat = false → t'.flat = false ∧ SlKeep C.w C'.w (C.blk o))))
  | .arr _ _ _ _, .dead => True
  | _, _ => False
structure Ext (C C' : Cx) : Prop where
  F : ∀ b, C.F b → C'.F b
  G : ∀ b, C.G b → C'.G b
  heap : ∀ b, C.F b ∨ C.G b → C'.w.heap[b]? = C.w.heap[b]?
  obj : ∀ o, ObjExt C C' o

/-- Package variables stay. -/
theorem Good.glx {base : Nat} {C C' : Cx} (hg : Good base C) (hx : Ext C C') : GlOk C'.F C'.w := hg.gl.mono hx.F fun b hb => hx.heap b (.inl hb)
theorem OwnHdr.mono {C C' : Cx} {o e e' n n' : Nat} {v : Value} (he : e' = e) (hn : n' = n)
    (h : n ≠ 0 → C'.blk o = C.blk o ∧ ∀ cs tid, C.w.heap[C.blk o]? = some (.cells cs tid (0, 0)) → ∃ cs', C'.w.heap[C.blk o]? = some (.cells cs' tid (0, 0)) ∧ cs'.size = cs.size)
    (ho : OwnHdr C o e n v) : OwnHdr C' o e' n' v := by
  subst he hn
  rcases ho with ho | ⟨h0, c, cs, tid, rfl, hc, hb, hs⟩
  · exact .inl ho
  · obtain ⟨h1, h2⟩ := h h0
    obtain ⟨cs', h3, h4⟩ := h2 cs tid hb
    exact .inr ⟨h0, c, cs', tid, by rw [h1], hc, by rw [h1]; exact h3, by omega⟩
theorem OslOk.mono {C C' : Cx} (hx : Ext C C') {o ver : Nat} {v : Value} (h : OslOk C o ver v) : OslOk C' o ver v := by
  have hb := hx.obj o
  simp only [OslOk, ObjExt] at *
  refine ⟨h.1, ?_⟩
  replace h := h.2
  cases h1 : C.H o with
  | hole => rw [h1] at h; exact h.elim
  | box cells => rw [h1] at h; exact h.elim
  | dead =>
    rw [h1] at hb
    cases h2 : C'.H o <;> rw [h2] at hb <;> simp_all
  | arr t l cur dp =>
    rw [h1] at hb h
    cases h2 : C'.H o with
    | hole => rw [h2] at hb; exact hb.elim
    | box cells => rw [h2] at hb; exact hb.elim
    | dead => trivial
    | arr t' l' cur' dp' =>
      rw [h2] at hb
      simp only at h hb ⊢
      rcases hb with hb | ⟨h3, h4, h5, h6⟩
      · rcases h with h | ⟨rfl, _⟩
        · exact .inl (by omega)
        · exact .inl hb
      · rcases h with h | ⟨rfl, h⟩
        · exact .inl (by omega)
        · exact .inr ⟨h3, h.mono h4 h5 (fun hn => by obtain ⟨k1, k2, _⟩ := h6 (by intro e; subst e; exact hn rfl); exact ⟨k1, k2⟩)⟩
theorem BptrOk.mono {C C' : Cx} (hx : Ext C C') {o off : Nat} {v : Value} (h : BptrOk C o off v) : BptrOk C' o off v := by
  have hb := hx.obj o
  simp only [BptrOk, ObjExt] at *
  refine ⟨h.1, ?_⟩
  replace h := h.2
  cases h1 : C.H o with
  | hole => rw [h1] at h; exact h.elim
  | arr => rw [h1] at h; exact h.elim
  | dead =>
    rw [h1] at hb
    cases h2 : C'.H o <;> rw [h2] at hb <;> simp_all
  | box cells =>
    rw [h1] at hb h
    cases h2 : C'.H o <;> rw [h2] at hb <;> simp_all
theorem EptrOk.mono {C C' : Cx} (hx : Ext C C') {o ver i off : Nat} {v : Value} (h : EptrOk C o ver i off v) : EptrOk C' o ver i off v := by
  have hb := hx.obj o
  simp only [EptrOk, ObjExt] at *
  refine ⟨h.1, ?_⟩
  replace h := h.2
  cases h1 : C.H o with
  | hole => rw [h1] at h; exact h.elim
  | box cells => rw [h1] at h; exact h.elim
  | dead =>
    rw [h1] at hb
    cases h2 : C'.H o <;> rw [h2] at hb <;> simp_all
  | arr t l cur dp =>
    rw [h1] at hb h
    cases h2 : C'.H o with
    | hole => rw [h2] at hb; exact hb.elim
    | box cells => rw [h2] at hb; exact hb.elim
    | dead => trivial
    | arr t' l' cur' dp' =>
      rw [h2] at hb
      simp only at h hb ⊢
      rcases hb with hb | ⟨h3, h4, h5, h6⟩
      · rcases h with h | ⟨rfl, _⟩
        · exact .inl (by omega)
        · exact .inl hb
      · rcases h with h | ⟨rfl, hi, h⟩
        · exact .inl (by omega)
        · have hl : l ≠ [] := by intro e; subst e; simp at hi
          exact .inr ⟨h3, by omega, by rw [h, (h6 hl).1, h4]⟩
theorem IslOk.mono {C C' : Cx} (hx : Ext C C') {o ver i c : Nat} {v : Value} (h : IslOk C o ver i c v) : IslOk C' o ver i c v := by
  have hb := hx.obj o
  simp only [IslOk, ObjExt] at *
  refine ⟨h.1, ?_⟩
  have hv := h.1
  replace h := h.2
  cases h1 : C.H o with
  | hole => rw [h1] at h; exact h.elim
  | box cells => rw [h1] at h; exact h.elim
  | dead =>
    rw [h1] at hb
    cases h2 : C'.H o <;> rw [h2] at hb <;> simp_all
  | arr t l cur dp =>
    rw [h1] at hb h
    cases h2 : C'.H o with
    | hole => rw [h2] at hb; exact hb.elim
    | box cells => rw [h2] at hb; exact hb.elim
    | dead => trivial
    | arr t' l' cur' dp' =>
      rw [h2] at hb
      simp only at h hb ⊢
      rcases hb with hb | ⟨h3, h4, h5, h6⟩
      · rcases h with h | ⟨rfl, _⟩
        · exact .inl (by omega)
        · exact .inl hb
      · rcases h with h | ⟨rfl, hp, hf, hi, h⟩
        · exact .inl (by omega)
        · have hl : l ≠ [] := by intro e; subst e; simp at hi
          obtain ⟨k1, _, k3⟩ := h6 hl
          obtain ⟨k4, k5⟩ := k3 hp hf
          obtain ⟨A, n, k, rfl⟩ := hv
          exact .inr ⟨h3, hp, k4, by omega, by rw [k1, h4]; exact k5 _ _ _ _ h⟩
theorem IptrOk.mono {C C' : Cx} (hx : Ext C C') {o ver i c j : Nat} {v : Value} (h : IptrOk C o ver i c j v) : IptrOk C' o ver i c j v := by
  have hb := hx.obj o
  simp only [IptrOk, ObjExt] at *
  refine ⟨h.1, ?_⟩
  replace h := h.2
  cases h1 : C.H o with
  | hole => rw [h1] at h; exact h.elim
  | box cells => rw [h1] at h; exact h.elim
  | dead =>
    rw [h1] at hb
    cases h2 : C'.H o <;> rw [h2] at hb <;> simp_all
  | arr t l cur dp =>
    rw [h1] at hb h
    cases h2 : C'.H o with
    | hole => rw [h2] at hb; exact hb.elim
    | box cells => rw [h2] at hb; exact hb.elim
    | dead => trivial
    | arr t' l' cur' dp' =>
      rw [h2] at hb
      simp only at h hb ⊢
      rcases hb with hb | ⟨h3, h4, h5, h6⟩
      · rcases h with h | ⟨rfl, _⟩
        · exact .inl (by omega)
        · exact .inl hb
      · rcases h with h | ⟨rfl, hp, hf, hi, b, n, k, h, hj, hv⟩
        · exact .inl (by omega)
        · have hl : l ≠ [] := by intro e; subst e; simp at hi
          obtain ⟨k1, _, k3⟩ := h6 hl
          obtain ⟨k4, k5⟩ := k3 hp hf
          exact .inr ⟨h3, hp, k4, by omega, b, n, k, by rw [k1, h4]; exact k5 _ _ _ _ h, hj, hv⟩
mutual
theorem RelA.mono {C C' : Cx} (hx : Ext C C') : ∀ {x : AV} {v : Value}, RelA C x v → RelA C' x v
  | .int _ _, _, h => by simpa only [RelA] using h
  | .bool _, _, h => by simpa only [RelA] using h
  | .dec _ _, _, h => by simpa only [RelA] using h
  | .ndec _ _, _, h => by simpa only [RelA] using h
  | .anyb, _, h => by simpa only [RelA] using h
  | .str _, _, h => by simpa only [RelA] using h
  | .sl _ _, _, h => by simp only [RelA] at h ⊢; exact h.mono hx.F fun b hb => hx.heap b (.inl hb)
  | .zsl, _, h => by simpa only [RelA] using h
  | .osl _ _, _, h => by simp only [RelA] at h ⊢; exact h.mono hx
  | .bptr _ _, _, h => by simp only [RelA] at h ⊢; exact h.mono hx
  | .eptr _ _ _ _, _, h => by simp only [RelA] at h ⊢; exact h.mono hx
  | .nilp, _, h => by simpa only [RelA] using h
  | .ref cells, _, h => by
    simp only [RelA] at h ⊢
    obtain ⟨b, off, rfl, hb, h⟩ := h
    exact ⟨b, off, rfl, hb.imp (hx.F _) (hx.G _), RelR.mono hx hb h⟩
  | .agg cells, _, h => by
    simp only [RelA] at h ⊢
    obtain ⟨vs, rfl, h1, h⟩ := h
    exact ⟨vs, rfl, h1, RelL.mono hx h⟩
  | .tup cells, _, h => by
    simp only [RelA] at h ⊢
    obtain ⟨vs, rfl, h⟩ := h
    exact ⟨vs, rfl, RelL.mono hx h⟩
  | .mth f o off, _, h => by
    simp only [RelA] at h ⊢
    obtain ⟨p, h1, h2⟩ := h
    exact ⟨p, h1, h2.mono hx⟩
  | .glb _, _, h => by simpa only [RelA] using h
  | .isl _ _ _ _, _, h => by simp only [RelA] at h ⊢; exact h.mono hx
  | .iptr _ _ _ _ _, _, h => by simp only [RelA] at h ⊢; exact h.mono hx
  | .fn f caps, _, h => by
    simp only [RelA] at h ⊢
    obtain ⟨vs, rfl, h⟩ := h
    exact ⟨vs, rfl, RelL.mono hx h⟩
  | .top, _, _ => by simp only [RelA]
theorem RelL.mono {C C' : Cx} (hx : Ext C C') : ∀ {xs : List AV} {vs : List Value}, RelL C xs vs → RelL C' xs vs
  | [], _, h => by simpa only [RelL] using h
  | x :: r, _, h => by
    simp only [RelL] at h ⊢
    obtain ⟨v, vr, rfl, h1, h⟩ := h
    exact ⟨v, vr, rfl, RelA.mono hx h1, RelL.mono hx h⟩
theorem RelR.mono {C C' : Cx} (hx : Ext C C') {b : Nat} (hb : C.F b ∨ C.G b) : ∀ {cells : List AV} {off : Nat}, RelR C b cells off → RelR C' b cells off
  | [], _, _ => by simp only [RelR]
  | x :: r, off, h => by
    simp only [RelR] at h ⊢
    obtain ⟨⟨u, h1, h2, h3⟩, h⟩ := h
    exact ⟨⟨u, (cell_of_heap (hx.heap _ hb) _).trans h1, h2, RelA.mono hx h3⟩, RelR.mono hx hb h⟩
end
end Go.Proofs.YthanbjnpfenniaaDoor.Fw

namespace Go.Proofs.YthanbjnpfenniaaDoor.Fw
open Go Go.RowKit
set_option linter.unusedVariables false

def upd {β : Type} (f : Nat → β) (o : Nat) (x : β) : Nat → β := fun p => if p = o then x else f p
@[simp] theorem upd_same {β : Type} (f : Nat → β) (o : Nat) (x : β) : upd f o x o = x := by simp [upd]
theorem upd_ne {β : Type} (f : Nat → β) {o p : Nat} (x : β) (h : p ≠ o) : upd f o x p = f p := by simp [upd, h]

theorem ObjExt.same {C C' : Cx} {o : Nat} (hH : C'.H o = C.H o) (hb : C'.blk o = C.blk o) (hw : ∀ b ∈ blks C o, C'.w.heap[b]? = C.w.heap[b]?) : ObjExt C C' o := by
  simp only [ObjExt, hH]
  cases h : C.H o with
  | hole => trivial
  | dead => trivial
  | box cells => exact hb
  | arr t l ver dp =>
    have key : l ≠ [] → C'.w.heap[C.blk o]? = C.w.heap[C.blk o]? := fun hl => hw _ (by simp only [blks, h]; rw [if_neg (by simpa using hl)]; simp)
    exact .inr ⟨rfl, rfl, rfl, fun hl => ⟨hb, fun cs tid hc => ⟨cs, by rw [key hl]; exact hc, rfl⟩, fun _ hf => ⟨hf, .of_heap (key hl)⟩⟩⟩
theorem blks_same {C C' : Cx} {o : Nat} (hH : C'.H o = C.H o) (hb : C'.blk o = C.blk o) (ho : C'.own o = C.own o) : blks C' o = blks C o := by
  simp only [blks, hH, hb, ho]
theorem ElemsOk.mono {C C' : Cx} {o : Nat} {t : Ty} {l : List t.D} {dp : Bool} {cs : Array Value} (hx : Ext C C') (ho : C'.own o = C.own o) (hw : ∀ b ∈ C.own o, C'.w.heap[b]? = C.w.heap[b]?)
    (h : ElemsOk C o t l dp cs) : ElemsOk C' o t l dp cs := by
  unfold ElemsOk at h ⊢
  split at h
  · rename_i hd
    rw [if_pos hd]
    obtain ⟨ss, h1, h2, h3⟩ := h
    refine ⟨ss, by rw [ho, h1], h2, fun i x hi => ?_⟩
    obtain ⟨us, h4, h5⟩ := h3 i x hi
    exact ⟨us, h4.mono fun b hb => hw b (by rw [h1]; exact getD_mem_flatten hb), h5⟩
  · rename_i hd
    rw [if_neg hd]
    refine ⟨by rw [ho, h.1], fun i x hi => ?_⟩
    obtain ⟨us, h4, h5⟩ := h.2 i x hi
    exact ⟨us, h4.mono hx.F (fun b hb => hx.heap b (.inl hb)), h5⟩
theorem ObjOk.same {C C' : Cx} {o : Nat} {x : AO} (hx : Ext C C') (hH : C.H o = x) (hb : C'.blk o = C.blk o) (ho : C'.own o = C.own o) (hw : ∀ b ∈ blks C o, C'.w.heap[b]? = C.w.heap[b]?)
    (h : ObjOk C o x) : ObjOk C' o x := by
  cases x with
  | hole => trivial
  | dead => trivial
  | box cells =>
    simp only [ObjOk] at h ⊢
    obtain ⟨cs, tid, h1, h0, h2⟩ := h
    exact ⟨cs, tid, by rw [hb, hw _ (by simp [blks, hH])]; exact h1, h0, RelL.mono hx h2⟩
  | arr t l ver dp =>
    simp only [ObjOk, ArrOk] at h ⊢
    rcases h with h | ⟨hl, cs, tid, h1, h2⟩
    · exact .inl ⟨h.1, by rw [ho]; exact h.2⟩
    · have hm : ∀ b, b = C.blk o ∨ b ∈ C.own o → b ∈ blks C o := by
        intro b hb'
        simp only [blks, hH]
        rw [if_neg (by simpa using hl)]
        simpa using hb'
      exact .inr ⟨hl, cs, tid, by rw [hb, hw _ (hm _ (.inl rfl))]; exact h1, h2.mono hx ho fun b hb' => hw b (hm b (.inr hb'))⟩

/-- One object is made or changed, all others lie as they lay. -/
theorem Good.one {base : Nat} {C C' : Cx} (n : Nat) (hg : Good base C) (hx : Ext C C')
    (hH : ∀ o, o ≠ n → C'.H o = C.H o) (hb : ∀ o, o ≠ n → C'.blk o = C.blk o) (ho : ∀ o, o ≠ n → C'.own o = C.own o)
    (hw : ∀ o, o ≠ n → ∀ b ∈ blks C o, C'.w.heap[b]? = C.w.heap[b]?) (hF : ∀ b, C'.F b → C.F b) (hG : ∀ b, C'.G b → C.G b) (hs : C.w.heap.size ≤ C'.w.heap.size)
    (hn : ObjOk C' n (C'.H n)) (hl : ∀ b ∈ blks C' n, base ≤ b ∧ b < C'.w.heap.size ∧ ¬ C.F b ∧ ¬ C.G b) (hd : (blks C' n).Nodup) (ha : ∀ o, o ≠ n → ∀ b ∈ blks C' n, b ∉ blks C o) : Good base C' where
  ob o := by
    by_cases h : o = n
    · subst h; exact hn
    · rw [hH o h]; exact (hg.ob o).same hx rfl (hb o h) (ho o h) (hw o h)
  low o b hb' := by
    by_cases h : o = n
    · subst h
      obtain ⟨h1, h2, h3, h4⟩ := hl b hb'
      exact ⟨h1, h2, fun k => h3 (hF b k), fun k => h4 (hG b k)⟩
    · rw [blks_same (hH o h) (hb o h) (ho o h)] at hb'
      obtain ⟨h1, h2, h3, h4⟩ := hg.low o b hb'
      exact ⟨h1, by omega, fun k => h3 (hF b k), fun k => h4 (hG b k)⟩
  nd o := by
    by_cases h : o = n
    · subst h; exact hd
    · rw [blks_same (hH o h) (hb o h) (ho o h)]; exact hg.nd o
  dj o p b hop hb' hb2 := by
    by_cases h : o = n
    · subst h
      have hp : p ≠ o := fun e => hop e.symm
      rw [blks_same (hH p hp) (hb p hp) (ho p hp)] at hb2
      exact ha p hp b hb' hb2
    · rw [blks_same (hH o h) (hb o h) (ho o h)] at hb'
      by_cases h' : p = n
      · subst h'; exact ha o h b hb2 hb'
      · rw [blks_same (hH p h') (hb p h') (ho p h')] at hb2
        exact hg.dj o p b hop hb' hb2
  fz b k := by have := hg.fz b (hF b k); omega
  gz b k := by have := hg.gz b (hG b k); omega
  gl := hg.glx hx

/-- A new object in new blocks. -/
def Cx.new (C : Cx) (n b : Nat) (S : List Nat) (x : AO) (w : World) : Cx := { C with H := upd C.H n x, blk := upd C.blk n b, own := upd C.own n S, w := w }
theorem Ext.new {base : Nat} {C : Cx} (hg : Good base C) {n b : Nat} {S : List Nat} {x : AO} {w : World} (hn : C.H n = .hole) (hw : ∀ k, k < C.w.heap.size → w.heap[k]? = C.w.heap[k]?) : Ext C (C.new n b S x w) where
  F _ h := h
  G _ h := h
  heap k h := hw k (h.elim (hg.fz k) (hg.gz k))
  obj o := by
    by_cases h : o = n
    · subst h; simp only [ObjExt, hn]
    · exact ObjExt.same (by simp [Cx.new, upd_ne _ _ h]) (by simp [Cx.new, upd_ne _ _ h]) fun k hk => hw k (hg.low o k hk).2.1
theorem Good.new {base : Nat} {C : Cx} (hg : Good base C) {n b : Nat} {S : List Nat} {x : AO} {w : World} (hn : C.H n = .hole) (hw : ∀ k, k < C.w.heap.size → w.heap[k]? = C.w.heap[k]?) (hs : C.w.heap.size ≤ w.heap.size) (hbase : base ≤ C.w.heap.size)
    (ho : ObjOk (C.new n b S x w) n x) (hl : ∀ k ∈ blks (C.new n b S x w) n, C.w.heap.size ≤ k ∧ k < w.heap.size) (hd : (blks (C.new n b S x w) n).Nodup) : Good base (C.new n b S x w) := by
  refine hg.one n (Ext.new hg hn hw) (fun o h => by simp [Cx.new, upd_ne _ _ h]) (fun o h => by simp [Cx.new, upd_ne _ _ h]) (fun o h => by simp [Cx.new, upd_ne _ _ h]) (fun o h k hk => hw k (hg.low o k hk).2.1) (fun _ h => h) (fun _ h => h) hs (by simpa [Cx.new] using ho) (fun k hk => ?_) hd (fun o h k hk hk2 => ?_)
  · obtain ⟨h1, h2⟩ := hl k hk
    exact ⟨by omega, h2, fun h => by have := hg.fz k h; omega, fun h => by have := hg.gz k h; omega⟩
  · obtain ⟨h1, h2⟩ := hl k hk
    have := (hg.low o k hk2).2.1
    omega

/-- Objects are let go. -/
def Cx.drop (C : Cx) (ids : List Nat) : Cx := { C with H := fun o => if ids.contains o = true then (match C.H o with | .hole => .hole | _ => .dead) else C.H o }
theorem blks_drop {C : Cx} {ids : List Nat} {o : Nat} : blks (C.drop ids) o = if ids.contains o = true then [] else blks C o := by
  simp only [blks, Cx.drop]
  by_cases h : ids.contains o = true
  · rw [if_pos h, if_pos h]
    cases C.H o <;> rfl
  · rw [if_neg h, if_neg h]
theorem Ext.drop (C : Cx) (ids : List Nat) : Ext C (C.drop ids) where
  F _ h := h
  G _ h := h
  heap _ _ := rfl
  obj o := by
    by_cases h : ids.contains o = true
    · simp only [ObjExt, Cx.drop, if_pos h]
      cases C.H o <;> trivial
    · exact ObjExt.same (by simp only [Cx.drop, if_neg h]) rfl fun _ _ => rfl
theorem Good.drop {base : Nat} {C : Cx} (hg : Good base C) (ids : List Nat) : Good base (C.drop ids) where
  ob o := by
    by_cases h : ids.contains o = true
    · simp only [Cx.drop, if_pos h]
      cases C.H o <;> trivial
    · have : (C.drop ids).H o = C.H o := by simp only [Cx.drop, if_neg h]
      rw [this]
      exact (hg.ob o).same (Ext.drop C ids) rfl rfl rfl fun _ _ => rfl
  low o b hb := by
    rw [blks_drop] at hb
    split at hb
    · cases hb
    · exact hg.low o b hb
  nd o := by
    rw [blks_drop]
    split
    · exact List.nodup_nil
    · exact hg.nd o
  dj o p b hop hb hb2 := by
    rw [blks_drop] at hb hb2
    split at hb
    · cases hb
    · split at hb2
      · cases hb2
      · exact hg.dj o p b hop hb hb2
  fz := hg.fz
  gz := hg.gz
  gl := hg.gl

/-- The blocks of objects that are let go are given to all. -/
def Cx.give (C : Cx) (ids : List Nat) : Cx := { C.drop ids with F := fun b => C.F b ∨ ∃ o ∈ ids, b ∈ blks C o }
theorem Ext.give {base : Nat} {C : Cx} (hg : Good base C) (ids : List Nat) : Ext C (C.give ids) where
  F _ h := .inl h
  G _ h := h
  heap _ _ := rfl
  obj o := (Ext.drop C ids).obj o
theorem Good.give {base : Nat} {C : Cx} (hg : Good base C) (ids : List Nat) : Good base (C.give ids) where
  ob o := by
    by_cases h : ids.contains o = true
    · show ObjOk (C.give ids) o ((C.drop ids).H o)
      simp only [Cx.drop, if_pos h]
      cases C.H o <;> trivial
    · have : (C.give ids).H o = C.H o := by simp only [Cx.give, Cx.drop, if_neg h]
      rw [this]
      exact (hg.ob o).same (Ext.give hg ids) rfl rfl rfl fun _ _ => rfl
  low o b hb := by
    have hb' : b ∈ blks (C.drop ids) o := hb
    rw [blks_drop] at hb'
    split at hb'
    · cases hb'
    · rename_i h
      obtain ⟨h1, h2, h3, h4⟩ := hg.low o b hb'
      refine ⟨h1, h2, ?_, h4⟩
      rintro (h5 | ⟨p, hp, hpb⟩)
      · exact h3 h5
      · have hop : o ≠ p := by rintro rfl; exact h (by simpa using hp)
        exact hg.dj o p b hop hb' hpb
  nd o := (hg.drop ids).nd o
  dj := (hg.drop ids).dj
  fz b h := by
    rcases h with h | ⟨p, _, hpb⟩
    · exact hg.fz b h
    · exact (hg.low p b hpb).2.1
  gz := hg.gz
  gl := hg.glx (Ext.give hg ids)
theorem Ext.trans {base : Nat} {A B C : Cx} (h : Ext A B) (k : Ext B C) : Ext A C where
  F b hb := k.F b (h.F b hb)
  G b hb := k.G b (h.G b hb)
  heap b hb := (k.heap b (hb.imp (h.F b) (h.G b))).trans (h.heap b hb)
  obj o := by
    have h1 := h.obj o
    have h2 := k.obj o
    simp only [ObjExt] at *
    cases ha : A.H o with
    | hole => trivial
    | dead =>
      rw [ha] at h1
      cases hb : B.H o <;> rw [hb] at h1 h2 <;> first | exact h1.elim | skip
      cases hc : C.H o <;> rw [hc] at h2 <;> first | exact h2.elim | trivial
    | box cells =>
      rw [ha] at h1
      cases hb : B.H o <;> rw [hb] at h1 h2 <;> first | exact h1.elim | skip
      · cases hc : C.H o <;> rw [hc] at h2 <;> first | exact h2.elim | trivial
      · cases hc : C.H o <;> rw [hc] at h2 <;> first | exact h2.elim | trivial | exact h2.trans h1
    | arr t l ver dp =>
      rw [ha] at h1
      cases hb : B.H o <;> rw [hb] at h1 h2 <;> first | exact h1.elim | skip
      · cases hc : C.H o <;> rw [hc] at h2 <;> first | exact h2.elim | trivial
      · rename_i t2 l2 ver2 dp2
        cases hc : C.H o <;> rw [hc] at h2 <;> first | exact h2.elim | trivial | skip
        rename_i t3 l3 ver3 dp3
        simp only at h1 h2 ⊢
        rcases h1 with h1 | ⟨a1, a2, a3, a4⟩
        · rcases h2 with h2 | ⟨b1, b2, b3, b4⟩
          · exact .inl (by omega)
          · exact .inl (by omega)
        · rcases h2 with h2 | ⟨b1, b2, b3, b4⟩
          · exact .inl (by omega)
          · refine .inr ⟨by omega, by omega, by omega, fun hl => ?_⟩
            have hl2 : l2 ≠ [] := by intro e; subst e; exact hl (List.eq_nil_of_length_eq_zero (by simpa using a3.symm))
            obtain ⟨c1, c2, c3⟩ := a4 hl
            obtain ⟨d1, d2, d3⟩ := b4 hl2
            refine ⟨d1.trans c1, fun cs tid hcs => ?_, fun hp hf => ?_⟩
            · obtain ⟨cs2, e1, e2⟩ := c2 cs tid hcs
              rw [← c1] at e1 ⊢
              obtain ⟨cs3, e3, e4⟩ := d2 cs2 tid e1
              exact ⟨cs3, e3, e4.trans e2⟩
            · obtain ⟨f1, f2⟩ := c3 hp hf
              obtain ⟨f3, f4⟩ := d3 (by omega) f1
              rw [c1] at f4
              exact ⟨f3, f2.trans f4⟩
theorem Ext.refl (C : Cx) : Ext C C where
  F _ h := h
  G _ h := h
  heap _ _ := rfl
  obj o := ObjExt.same rfl rfl fun _ _ => rfl
/-- The world alone goes on: no block that was there is touched. -/
theorem Ext.world {base : Nat} {C : Cx} (hg : Good base C) {w : World} (hw : ∀ k, k < C.w.heap.size → w.heap[k]? = C.w.heap[k]?) : Ext C { C with w := w } where
  F _ h := h
  G _ h := h
  heap k h := hw k (h.elim (hg.fz k) (hg.gz k))
  obj o := ObjExt.same rfl rfl fun k hk => hw k (hg.low o k hk).2.1
theorem Good.world {base : Nat} {C : Cx} (hg : Good base C) {w : World} (hw : ∀ k, k < C.w.heap.size → w.heap[k]? = C.w.heap[k]?) (hs : C.w.heap.size ≤ w.heap.size) : Good base { C with w := w } where
  ob o := (hg.ob o).same (Ext.world hg hw) rfl rfl rfl fun k hk => hw k (hg.low o k hk).2.1
  low o b hb := by obtain ⟨h1, h2, h3⟩ := hg.low o b hb; exact ⟨h1, by show b < w.heap.size; omega, h3⟩
  nd := hg.nd
  dj := hg.dj
  fz b h := by have := hg.fz b h; show b < w.heap.size; omega
  gz b h := by have := hg.gz b h; show b < w.heap.size; omega
  gl := hg.glx (Ext.world hg hw)
end Go.Proofs.YthanbjnpfenniaaDoor.Fw

namespace Go.Proofs.YthanbjnpfenniaaDoor.Fw
open Go Go.RowKit
set_option linter.unusedVariables false

/-! ### what is asked of the tables -/
def zeroOk : List AV → List Value → Bool
  | [], [] => true
  | .int k n :: r, .int k' n' :: s => decide (k = k') && decide (n = n') && zeroOk r s
  | .bool b :: r, .bool b' :: s => decide (b = b') && zeroOk r s
  | .str b :: r, .string b' :: s => decide (b.data.toList = []) && decide (b'.data.toList = []) && zeroOk r s
  | .zsl :: r, .slice none 0 0 :: s => zeroOk r s
  | .nilp :: r, .pointer none :: s => zeroOk r s
  | .top :: r, v :: s => v.oneCell' && zeroOk r s
  | _, _ => false
def dfltOk : (t : Ty) → List Value → Bool
  | .int k, [.int k' n] => decide (k = k') && decide (n = 0)
  | .bool, [.bool b] => !b
  | .str, [.string b] => decide (b.data.toList = [])
  | .sl _, [.slice none 0 0] => true
  | .pr a b, vs => dfltOk a (vs.take a.size) && dfltOk b (vs.drop a.size)
  | _, _ => false
def undOk (P : Program) (t : TypeId) : TK → Prop
  | .int k => P.underlying t = some (.int k)
  | .bool => P.underlying t = some .bool
  | .slice e => P.underlying t = some (.slice e)
  | .struct l => ∃ fs, P.underlying t = some (.struct fs) ∧ fs.toList.map (fun f => (f.offset, f.type)) = l ∧ (∀ f ∈ fs.toList, (f.name == "_") = false) ∧ P.stoodInHeld t = false
  | .array n e => P.underlying t = some (.array n e)
  | .str => P.underlying t = some .string
  | .other => ∃ d, P.underlying t = some d ∧ (match d with | .struct _ | .array _ _ => true | _ => false) = false
structure TiOk (P : Program) (t : TypeId) (i : TI) : Prop where
  info : ∃ q z, P.info? t = some q ∧ q.size = i.size ∧ q.bytes = i.bytes ∧ q.zero = some z ∧ zeroOk i.zero z.cells.toList = true ∧ z.cells.size = i.size
  und : undOk P t i.k
  one : i.k.isAgg = false → i.size = 1
structure TbOk (P : Program) (T : Tb) : Prop where
  fn : ∀ f x, T.fn f = some x → P.funcs[f]? = some x ∧ (x.name == "runtime.NumGoroutine") = false ∧ x.body.isNone = false
  ty : ∀ t i, T.ty t = some i → TiOk P t i
  dt : ∀ t d, T.dt t = some d → ∃ i q z, T.ty t = some i ∧ i.size = d.size ∧ i.bytes ≤ 128 ∧ i.k.isAgg = d.isPr ∧ P.info? t = some q ∧ q.size = d.size ∧ q.bytes = i.bytes ∧ q.zero = some z ∧ dfltOk d z.cells.toList = true
  mixed : P.follows .mixedOrders = true

theorem Ty.size_pos : ∀ t : Ty, 0 < t.size
  | .int _ => by show 0 < 1; decide
  | .bool => by decide
  | .str => by decide
  | .sl _ => by show 0 < 1; decide
  | .pr a b => by show 0 < a.size + b.size; have := Ty.size_pos a; omega
theorem bytes_nil {b : ByteArray} (h : b.data.toList = []) : b = ⟨#[]⟩ := by
  cases b with
  | mk d => simp only at h; rw [show d = #[] from Array.toList_eq_nil_iff.1 h]
theorem zero_rel (C : Cx) : ∀ {l : List AV} {vs : List Value}, zeroOk l vs = true → RelL C l vs ∧ ∀ u ∈ vs, u.oneCell' = true := by
  intro l
  induction l with
  | nil => intro vs h; cases vs <;> simp_all [zeroOk, RelL]
  | cons x r ih =>
    intro vs h
    cases vs with
    | nil => cases x <;> simp [zeroOk] at h
    | cons v s =>
      have key : zeroOk r s = true → RelA C x v → v.oneCell' = true → RelL C (x :: r) (v :: s) ∧ ∀ u ∈ v :: s, u.oneCell' = true := by
        intro h1 h2 h3
        obtain ⟨h4, h5⟩ := ih h1
        refine ⟨by simp only [RelL]; exact ⟨v, s, rfl, h2, h4⟩, fun u hu => ?_⟩
        rcases List.mem_cons.1 hu with rfl | hu
        · exact h3
        · exact h5 u hu
      cases x <;> try (simp [zeroOk] at h; done)
      case top =>
        have h' : (v.oneCell' && zeroOk r s) = true := by simpa only [zeroOk] using h
        rw [Bool.and_eq_true] at h'
        exact key h'.2 (by simp [RelA]) h'.1
      all_goals cases v <;> try (simp [zeroOk] at h; done)
      all_goals first
        | (simp only [zeroOk, Bool.and_eq_true, decide_eq_true_eq] at h
           obtain ⟨⟨rfl, rfl⟩, h⟩ := h
           exact key h (by simp [RelA]) rfl)
        | (simp only [zeroOk, Bool.and_eq_true, decide_eq_true_eq] at h
           obtain ⟨⟨h1, h2⟩, h⟩ := h
           exact key h (by simp only [RelA]; rw [bytes_nil h1, bytes_nil h2]) rfl)
        | (simp only [zeroOk, Bool.and_eq_true, decide_eq_true_eq] at h
           obtain ⟨rfl, h⟩ := h
           exact key h (by simp [RelA]) rfl)
        | (rename_i A n c
           cases A <;> cases n <;> cases c <;> try (simp [zeroOk] at h; done)
           exact key (by simpa [zeroOk] using h) (by simp only [RelA]; exact ⟨_, rfl⟩) rfl)
        | (rename_i A
           cases A <;> try (simp [zeroOk] at h; done)
           exact key (by simpa [zeroOk] using h) (by simp [RelA]) rfl)
theorem dflt_rel (w : World) : ∀ {t : Ty} {vs : List Value}, dfltOk t vs = true → RelX w t t.dflt vs []
  | .int k, vs, h => by
    match vs, h with
    | [.int k' n], h => simp [dfltOk] at h; obtain ⟨rfl, rfl⟩ := h; simp [RelX, Ty.dflt]
  | .bool, vs, h => by
    match vs, h with
    | [.bool b], h => simp [dfltOk] at h; subst h; simp [RelX, Ty.dflt]
  | .str, vs, h => by
    match vs, h with
    | [.string b], h => simp only [dfltOk, decide_eq_true_eq] at h; simp [RelX, Ty.dflt, bytes_nil h]
  | .sl e, vs, h => by
    match vs, h with
    | [.slice none 0 0], _ => simp only [RelX, Ty.dflt]; exact .inl ⟨trivial, trivial, none, rfl⟩
  | .pr a b, vs, h => by
    simp only [dfltOk, Bool.and_eq_true] at h
    simp only [RelX, Ty.dflt]
    exact ⟨_, _, [], [], (List.take_append_drop a.size vs).symm, rfl, dflt_rel w h.1, dflt_rel w h.2⟩

/-! ### going on behind an operation -/
structure To (base : Nat) (C C' : Cx) : Prop where
  ext : Ext C C'
  size : C.w.heap.size ≤ C'.w.heap.size
  bel : Below base C.w C'.w
  fnew : ∀ b, C'.F b → C.F b ∨ base ≤ b
  gsame : ∀ b, C'.G b → C.G b
theorem To.refl (base : Nat) (C : Cx) : To base C C := ⟨Ext.refl C, Nat.le_refl _, Below.refl _ _, fun _ h => .inl h, fun _ h => h⟩
theorem To.trans {base : Nat} {A B C : Cx} (h : To base A B) (k : To base B C) : To base A C :=
  ⟨Ext.trans (base := base) h.ext k.ext, Nat.le_trans h.size k.size, h.bel.trans k.bel, fun b hb => (k.fnew b hb).elim (h.fnew b) .inr, fun b hb => h.gsame b (k.gsame b hb)⟩
def updU : List (Nat × AO) → (Nat → AO) → Nat → AO
  | [], H => H
  | (o, x) :: u, H => updU u (upd H o x)
/-- What is to be shown behind an operation that told v and u. -/
def Kont (base : Nat) (C : Cx) (a : Act) (dst : Option Tmp) (next : Act → World → Prop) (v : AV) (u : List (Nat × AO)) : Prop :=
  ∀ C' val, Good base C' → To base C C' → C'.H = updU u C.H → RelA C' v val → next (a.put dst val) C'.w

theorem ofVal_rel (C : Cx) (v : Value) : RelA C (ofVal v) v := by
  unfold ofVal
  split <;> simp [RelA]
/-- The temporaries are as told. -/
def Tmps (C : Cx) (tv : Nat → AV) (a : Act) : Prop := ∀ i, RelA C (tv i) (a.tmps.getD i undef)
theorem opnd_rel {C : Cx} {tv : Nat → AV} {a : Act} (ht : Tmps C tv a) (x : Operand) : RelA C (opnd tv x) (a.eval x) := by
  cases x with
  | tmp i => exact ht i
  | const v => exact ofVal_rel C v
  | func f => simp only [opnd, Act.eval, RelA]; exact ⟨[], rfl, by simp [RelL]⟩
  | global g => simp [opnd, RelA, Act.eval]
theorem opnds_rel {C : Cx} {tv : Nat → AV} {a : Act} (ht : Tmps C tv a) : ∀ xs : List Operand, RelL C (xs.map (opnd tv)) (xs.map a.eval)
  | [] => by simp [RelL]
  | x :: r => by simp only [List.map_cons, RelL]; exact ⟨_, _, rfl, opnd_rel ht x, opnds_rel ht r⟩
theorem wp_value {P : Program} {o : Oper} {a : Act} {w w' : World} {v : Value} {next : Act → World → Prop} {Q : Exit → Act → World → Prop}
    (h : (execOp a.eval o).run P w = .ok (.value v) w') (hk : next (a.put o.dst v) w') : o.wp P a w next Q := by
  unfold Oper.wp; rw [h]; exact hk
theorem wp_skipped {P : Program} {o : Oper} {a : Act} {w w' : World} {next : Act → World → Prop} {Q : Exit → Act → World → Prop}
    (h : (execOp a.eval o).run P w = .ok .skip w') (hk : next (a.put o.dst undef) w') : o.wp P a w next Q := by
  unfold Oper.wp; rw [h]; exact hk
theorem wrap_wr (k : IntKind) (n : Int) : k.wrap n = wr k n := (wr_eq k n).symm

theorem testC_some {C : Cx} {α : Type} {c : AV} {v : Value} {x y : Option α} {r : α} (hr : RelA C c v) (h : testC c x y = some r) : ∃ b, v = .bool b ∧ (if b = true then x else y) = some r := by
  unfold testC at h
  split at h
  · simp only [RelA] at hr; exact ⟨_, hr, h⟩
  · rename_i p hp
    simp only [RelA] at hr
    refine ⟨_, hr, ?_⟩
    by_cases hc : p
    · rw [if_pos (decide_eq_true hc)]; rwa [if_pos hc] at h
    · rw [if_neg (by simpa using hc)]; rwa [if_neg hc] at h
  · rename_i p hp
    simp only [RelA] at hr
    refine ⟨_, hr, ?_⟩
    by_cases hc : p
    · rw [if_neg (by simpa using hc)]; rwa [if_pos hc] at h
    · rw [if_pos (by simpa using hc)]; rwa [if_neg hc] at h
  · cases h
theorem testK_some {C : Cx} {α : Type} {c : AV} {v : Value} {x y : Option α} {r : α} (hr : RelA C c v) (h : testK c x y = some r) : ∃ b, v = .bool b ∧ (if b = true then x else y) = some r := by
  unfold testK at h
  split at h
  · simp only [RelA] at hr
    obtain ⟨b, rfl⟩ := hr
    unfold both at h
    split at h
    · rename_i e
      refine ⟨b, rfl, ?_⟩
      cases b
      · rw [if_neg (by simp), ← e]; exact h
      · rw [if_pos rfl]; exact h
    · cases h
  · exact testC_some hr h
theorem boolOf_rel {C : Cx} {x : AV} {v : Value} {b : Bool} (hr : RelA C x v) (h : boolOf x = some b) : v = .bool b := by
  unfold boolOf at h
  split at h
  · cases h; simpa only [RelA] using hr
  · cases h; simpa only [RelA] using hr
  · cases h; simpa only [RelA] using hr
  · cases h

/-! ### numbers -/
theorem int_beq (a b : Int) : (a == b) = decide (a = b) := by
  by_cases h : a = b <;> simp [h]
section
variable {P : Program} {α : Type}
theorem run_arith {op : BinOp} {k : IntKind} {a b : Int} {kk : AV → Option α} {r : α} (h : arithC op k a b kk = some r) (w : World) (C : Cx)
    (hop : op ≠ .shl) (hop2 : op ≠ .shr) (t : TypeId) :
    ∃ x v, kk x = some r ∧ RelA C x v ∧ (binOp op t (.int k a) (.int k b)).run P w = .ok v w := by
  cases op <;> simp only [arithC] at h <;> try (cases h; done)
  all_goals first
    | (exact absurd rfl hop)
    | (exact absurd rfl hop2)
    | (refine ⟨_, _, h, by simp only [RelA]; rfl, ?_⟩; simp [binOp, Op.intArith, wrap_wr]; done)
    | (split at h
       · cases h
       · rename_i hb
         refine ⟨_, _, h, by simp only [RelA]; rfl, ?_⟩
         simp [binOp, Op.intDiv, wrap_wr, hb])
    | (refine ⟨_, _, h, by simp only [RelA]; rfl, ?_⟩; simp [binOp, intBits_and, intBits_or, intBits_xor, intBits_andNot]; done)
    | (refine ⟨_, _, h, by simp only [RelA]; rfl, ?_⟩
       simp [binOp, Op.intCmp, bne, int_beq])
theorem run_bin {op : BinOp} {k k' : IntKind} {a b : Int} {kk : AV → Option α} {r : α} (h : binC op (.int k a) (.int k' b) kk = some r) (w : World) (C : Cx) (t : TypeId) :
    ∃ x v, kk x = some r ∧ RelA C x v ∧ (binOp op t (.int k a) (.int k' b)).run P w = .ok v w := by
  by_cases h1 : op = .shl
  · subst h1
    simp only [binC] at h
    split at h
    · cases h
    · rename_i hb
      refine ⟨_, _, h, by simp only [RelA]; rfl, ?_⟩
      simp [binOp, Op.shift, hb, shl, wrap_wr]
  · by_cases h2 : op = .shr
    · subst h2
      simp only [binC] at h
      split at h
      · cases h
      · rename_i hb
        refine ⟨_, _, h, by simp only [RelA]; rfl, ?_⟩
        have hp : (0 : Int) ≤ 2 ^ min b.toNat k.bits := Int.pow_nonneg (by decide)
        simp [binOp, Op.shift, hb, shr, Int.fdiv_eq_ediv_of_nonneg _ hp]
    · have h' : (if k = k' then arithC op k a b kk else none) = some r := by
        cases op <;> first | exact h | exact absurd rfl h1 | exact absurd rfl h2
      split at h'
      · rename_i e
        subst e
        exact run_arith h' w C h1 h2 t
      · cases h'
end
end Go.Proofs.YthanbjnpfenniaaDoor.Fw

namespace Go.Proofs.YthanbjnpfenniaaDoor.Fw
open Go Go.RowKit
set_option linter.unusedVariables false

/-! ### cells -/
theorem cellsO_rel {C : Cx} {x : AV} {v : Value} {l : List AV} (hr : RelA C x v) (h : cellsO x = some l) : RelL C l v.cells.toList ∧ ∀ u ∈ v.cells.toList, u.oneCell' = true := by
  have one : ∀ {y : AV} {u : Value}, RelA C y u → u.oneCell' = true → RelL C [y] u.cells.toList ∧ ∀ z ∈ u.cells.toList, z.oneCell' = true := by
    intro y u h1 h2
    have hc : u.cells = #[u] := by cases u <;> first | rfl | simp [Value.oneCell'] at h2
    rw [hc]
    exact ⟨by simp only [RelL]; exact ⟨u, [], rfl, h1, by simp⟩, by simpa using h2⟩
  cases x <;> simp only [cellsO, Option.some.injEq] at h <;> try (cases h; done)
  case agg cells =>
    subst h
    simp only [RelA] at hr
    obtain ⟨vs, rfl, h1, h2⟩ := hr
    simpa [Value.cells] using And.intro h2 h1
  all_goals subst h
  case int => exact one hr (by simp only [RelA] at hr; subst hr; rfl)
  case bool => exact one hr (by simp only [RelA] at hr; subst hr; rfl)
  case dec => exact one hr (by simp only [RelA] at hr; subst hr; rfl)
  case ndec => exact one hr (by simp only [RelA] at hr; subst hr; rfl)
  case anyb => exact one hr (by simp only [RelA] at hr; obtain ⟨b, rfl⟩ := hr; rfl)
  case str => exact one hr (by simp only [RelA] at hr; subst hr; rfl)
  case sl => exact one hr (by simp only [RelA, RelD] at hr; obtain ⟨A, c, h, _⟩ := hr; cases h; rfl)
  case zsl => exact one hr (by simp only [RelA] at hr; obtain ⟨A, rfl⟩ := hr; rfl)
  case osl => exact one hr (by simp only [RelA, OslOk] at hr; obtain ⟨⟨A, n, c, rfl⟩, _⟩ := hr; rfl)
  case bptr => exact one hr (by simp only [RelA, BptrOk] at hr; obtain ⟨⟨p, rfl⟩, _⟩ := hr; rfl)
  case eptr => exact one hr (by simp only [RelA, EptrOk] at hr; obtain ⟨⟨p, rfl⟩, _⟩ := hr; rfl)
  case nilp => exact one hr (by simp only [RelA] at hr; subst hr; rfl)
  case ref => exact one hr (by simp only [RelA] at hr; obtain ⟨b, off, rfl, _⟩ := hr; rfl)
  case mth => exact one hr (by simp only [RelA] at hr; obtain ⟨p, rfl, _⟩ := hr; rfl)
  case glb => exact one hr (by simp only [RelA] at hr; subst hr; rfl)
  case isl => exact one hr (by simp only [RelA, IslOk] at hr; obtain ⟨⟨A, n, c, rfl⟩, _⟩ := hr; rfl)
  case iptr => exact one hr (by simp only [RelA, IptrOk] at hr; obtain ⟨⟨p, rfl⟩, _⟩ := hr; rfl)
  case fn => exact one hr (by simp only [RelA] at hr; obtain ⟨vs, rfl, _⟩ := hr; rfl)
theorem toAVs_len : ∀ (t : Ty) (d : t.D), (toAVs t d).length = t.size
  | .int _, _ => rfl
  | .bool, _ => rfl
  | .str, _ => rfl
  | .sl _, _ => rfl
  | .pr a b, d => by simp [toAVs, Ty.size, toAVs_len a, toAVs_len b]
theorem RelD.toAVs {C : Cx} : ∀ {t : Ty} {d : t.D} {vs : List Value}, RelD C.F C.w t d vs → RelL C (toAVs t d) vs ∧ ∀ u ∈ vs, u.oneCell' = true
  | .int _, _, _, h => by simp only [RelD] at h; subst h; simp [Fw.toAVs, RelL, RelA, Value.oneCell']
  | .bool, _, _, h => by simp only [RelD] at h; subst h; simp [Fw.toAVs, RelL, RelA, Value.oneCell']
  | .str, _, _, h => by simp only [RelD] at h; subst h; simp [Fw.toAVs, RelL, RelA, Value.oneCell']
  | .sl _, _, vs, h => by
    have h' := h
    simp only [RelD] at h
    obtain ⟨A, c, rfl, _⟩ := h
    simp only [Fw.toAVs, RelL, RelA]
    exact ⟨⟨_, _, rfl, h', rfl⟩, by simp [Value.oneCell']⟩
  | .pr _ _, _, _, h => by
    simp only [RelD] at h
    obtain ⟨va, vb, rfl, h1, h2⟩ := h
    obtain ⟨a1, a2⟩ := RelD.toAVs h1
    obtain ⟨b1, b2⟩ := RelD.toAVs h2
    simp only [Fw.toAVs]
    exact ⟨a1.append b1, fun u hu => (List.mem_append.1 hu).elim (a2 u) (b2 u)⟩
theorem RelX.onecell {w : World} : ∀ {t : Ty} {d : t.D} {vs : List Value} {S : List Nat}, RelX w t d vs S → ∀ u ∈ vs, u.oneCell' = true
  | .int _, _, _, _, h => by simp only [RelX] at h; obtain ⟨rfl, _⟩ := h; simp [Value.oneCell']
  | .bool, _, _, _, h => by simp only [RelX] at h; obtain ⟨rfl, _⟩ := h; simp [Value.oneCell']
  | .str, _, _, _, h => by simp only [RelX] at h; obtain ⟨rfl, _⟩ := h; simp [Value.oneCell']
  | .sl _, _, _, _, h => by
    simp only [RelX] at h
    rcases h with ⟨_, _, A, rfl⟩ | ⟨_, b, c, cs, tid, ss, rfl, _⟩ <;> simp [Value.oneCell']
  | .pr _ _, _, _, _, h => by
    simp only [RelX] at h
    obtain ⟨va, vb, Sa, Sb, rfl, rfl, h1, h2⟩ := h
    exact fun u hu => (List.mem_append.1 hu).elim (RelX.onecell h1 u) (RelX.onecell h2 u)
theorem RelD.onecell {F : Nat → Prop} {w : World} : ∀ {t : Ty} {d : t.D} {vs : List Value}, RelD F w t d vs → ∀ u ∈ vs, u.oneCell' = true
  | .int _, _, _, h => by simp only [RelD] at h; subst h; simp [Value.oneCell']
  | .bool, _, _, h => by simp only [RelD] at h; subst h; simp [Value.oneCell']
  | .str, _, _, h => by simp only [RelD] at h; subst h; simp [Value.oneCell']
  | .sl _, _, _, h => by simp only [RelD] at h; obtain ⟨A, c, rfl, _⟩ := h; simp [Value.oneCell']
  | .pr _ _, _, _, h => by
    simp only [RelD] at h
    obtain ⟨va, vb, rfl, h1, h2⟩ := h
    exact fun u hu => (List.mem_append.1 hu).elim (RelD.onecell h1 u) (RelD.onecell h2 u)
theorem RelL.one {C : Cx} {x : AV} {vs : List Value} (h : RelL C [x] vs) : ∃ v, vs = [v] ∧ RelA C x v := by
  simp only [RelL] at h
  obtain ⟨v, vr, rfl, h1, rfl⟩ := h
  exact ⟨v, rfl, h1⟩
theorem toD_rel {C : Cx} : ∀ {t : Ty} {l : List AV} {vs : List Value} {d : t.D}, toD t l = some d → RelL C l vs → RelD C.F C.w t d vs
  | .int k, l, vs, d, h, hr => by
    rcases l with _ | ⟨x, _ | ⟨y, r⟩⟩
    · simp [toD] at h
    · cases x <;> try (simp [toD] at h; done)
      rename_i k' n
      simp only [toD] at h
      split at h
      · rename_i e; subst e; cases h
        obtain ⟨v, rfl, hv⟩ := hr.one
        simp only [RelA] at hv
        simp [RelD, hv]
      · cases h
    · cases x <;> simp [toD] at h
  | .bool, l, vs, d, h, hr => by
    rcases l with _ | ⟨x, _ | ⟨y, r⟩⟩
    · simp [toD] at h
    · simp only [toD] at h
      obtain ⟨v, rfl, hv⟩ := hr.one
      simp [RelD, boolOf_rel hv h]
    · simp [toD] at h
  | .str, l, vs, d, h, hr => by
    rcases l with _ | ⟨x, _ | ⟨y, r⟩⟩
    · simp [toD] at h
    · cases x <;> try (simp [toD] at h; done)
      simp only [toD] at h
      cases h
      obtain ⟨v, rfl, hv⟩ := hr.one
      simp only [RelA] at hv
      simp [RelD, hv]
    · cases x <;> simp [toD] at h
  | .sl e, l, vs, d, h, hr => by
    rcases l with _ | ⟨x, _ | ⟨y, r⟩⟩
    · simp [toD] at h
    · cases x <;> try (simp [toD] at h; done)
      · rename_i e' l'
        simp only [toD] at h
        split at h
        · rename_i he; subst he; cases h
          obtain ⟨v, rfl, hv⟩ := hr.one
          simpa only [RelA] using hv
        · cases h
      · simp only [toD] at h
        cases h
        obtain ⟨v, rfl, hv⟩ := hr.one
        simp only [RelA] at hv
        obtain ⟨A, rfl⟩ := hv
        simp only [RelD]
        exact ⟨A, 0, rfl, Nat.le_refl _, .inl trivial⟩
    · cases x <;> simp [toD] at h
  | .pr a b, l, vs, d, h, hr => by
    simp only [toD] at h
    split at h
    · rename_i x y hx hy
      cases h
      simp only [RelD]
      exact ⟨_, _, (List.take_append_drop a.size vs).symm, toD_rel hx hr.take, toD_rel hy hr.drop⟩
    · cases h

/-- What an array that is ours holds, as data that own their blocks. -/
theorem arr_X {base : Nat} {C : Cx} (hg : Good base C) {o : Nat} {t : Ty} {l : List t.D} {ver : Nat} {v : Value} (hH : C.H o = .arr t l ver true) (hv : OslOk C o ver v) : RelX C.w (.sl t) l [v] (blks C o) := by
  have hb := hg.ob o
  simp only [OslOk, hH] at hv
  obtain ⟨_, hv | ⟨_, hv⟩⟩ := hv
  · omega
  rw [hH] at hb
  simp only [ObjOk, ArrOk] at hb
  simp only [RelX, blks, hH]
  by_cases hl : l = []
  · subst hl
    refine .inl ⟨rfl, by simp, ?_⟩
    rcases hv with ⟨_, A, rfl⟩ | ⟨h0, _⟩
    · exact ⟨A, rfl⟩
    · simp at h0
  · have hne : ¬ (l.isEmpty = true) := by simpa using hl
    rcases hb with hb | ⟨_, cs, tid, hc, he⟩
    · exact absurd hb.1 hl
    · rcases hv with ⟨h0, _⟩ | ⟨_, c, cs', tid', rfl, h1, h2, h3⟩
      · exact absurd (List.eq_nil_of_length_eq_zero h0) hl
      · rw [hc] at h2
        cases h2
        unfold ElemsOk at he
        rw [if_pos rfl] at he
        obtain ⟨ss, h4, h5, h6⟩ := he
        exact .inr ⟨hl, C.blk o, c, cs, tid, ss, rfl, h1, hc, h3, by rw [if_neg hne, h4], h5, h6⟩
/-- .. and of any array: as data that nobody else may write while we look on. -/
theorem arr_D {base : Nat} {C : Cx} (hg : Good base C) {o : Nat} {t : Ty} {l : List t.D} {ver : Nat} {dp : Bool} {v : Value} (hH : C.H o = .arr t l ver dp) (hv : OslOk C o ver v) {F : Nat → Prop} (hF : ∀ b, C.F b → F b) (hB : ∀ b ∈ blks C o, F b) : RelD F C.w (.sl t) l [v] := by
  cases dp with
  | true => exact (arr_X hg hH hv).toD hB
  | false =>
    have hb := hg.ob o
    simp only [OslOk, hH] at hv
    obtain ⟨_, hv | ⟨_, hv⟩⟩ := hv
    · omega
    rw [hH] at hb
    simp only [ObjOk, ArrOk] at hb
    simp only [RelD]
    by_cases hl : l = []
    · subst hl
      rcases hv with ⟨_, A, rfl⟩ | ⟨h0, _⟩
      · exact ⟨A, 0, rfl, Nat.le_refl _, .inl rfl⟩
      · simp at h0
    · have hne : ¬ (l.isEmpty = true) := by simpa using hl
      rcases hb with hb | ⟨_, cs, tid, hc, he⟩
      · exact absurd hb.1 hl
      · rcases hv with ⟨h0, _⟩ | ⟨_, c, cs', tid', rfl, h1, h2, h3⟩
        · exact absurd (List.eq_nil_of_length_eq_zero h0) hl
        · rw [hc] at h2
          cases h2
          unfold ElemsOk at he
          rw [if_neg (by simp)] at he
          refine ⟨_, c, rfl, h1, .inr ⟨C.blk o, 0, rfl, hB _ (by simp only [blks, hH]; rw [if_neg hne]; simp), fun i x hx => ?_⟩⟩
          obtain ⟨us, h4, h5⟩ := he.2 i x hx
          exact ⟨us, h4.mono hF (fun _ _ => rfl), fun j u hu => by rw [cell_of_cells hc, Nat.zero_add]; exact h5 j u hu⟩
theorem toX_rel {base : Nat} {C : Cx} (hg : Good base C) : ∀ {t : Ty} {l : List AV} {vs : List Value} {d : t.D} {ids : List Nat}, toX C.H t l = some (d, ids) → RelL C l vs → RelX C.w t d vs (ids.flatMap (blks C)) ∧ ∀ o ∈ ids, ∃ t l ver dp, C.H o = .arr t l ver dp
  | .int k, l, vs, d, ids, h, hr => by
    rcases l with _ | ⟨x, _ | ⟨y, r⟩⟩
    · simp [toX] at h
    · cases x <;> try (simp [toX] at h; done)
      rename_i k' n
      simp only [toX] at h
      split at h
      · rename_i e; subst e; cases h
        obtain ⟨v, rfl, hv⟩ := hr.one
        simp only [RelA] at hv
        simp [RelX, hv]
      · cases h
    · cases x <;> simp [toX] at h
  | .bool, l, vs, d, ids, h, hr => by
    rcases l with _ | ⟨x, _ | ⟨y, r⟩⟩
    · simp [toX] at h
    · simp only [toX, Option.map_eq_some_iff] at h
      obtain ⟨b, hb, h⟩ := h
      cases h
      obtain ⟨v, rfl, hv⟩ := hr.one
      simp [RelX, boolOf_rel hv hb]
    · simp [toX] at h
  | .str, l, vs, d, ids, h, hr => by
    rcases l with _ | ⟨x, _ | ⟨y, r⟩⟩
    · simp [toX] at h
    · cases x <;> try (simp [toX] at h; done)
      simp only [toX] at h
      cases h
      obtain ⟨v, rfl, hv⟩ := hr.one
      simp only [RelA] at hv
      simp [RelX, hv]
    · cases x <;> simp [toX] at h
  | .sl e, l, vs, d, ids, h, hr => by
    rcases l with _ | ⟨x, _ | ⟨y, r⟩⟩
    · simp [toX] at h
    · cases x <;> try (simp [toX] at h; done)
      · simp only [toX] at h
        cases h
        obtain ⟨v, rfl, hv⟩ := hr.one
        simp only [RelA] at hv
        obtain ⟨A, rfl⟩ := hv
        simp only [RelX]
        exact ⟨.inl ⟨trivial, rfl, A, rfl⟩, by simp⟩
      · rename_i o ver
        simp only [toX] at h
        cases hH : C.H o <;> rw [hH] at h <;> try (simp at h; done)
        rename_i e' l' cur dp
        simp only at h
        split at h <;> try (cases h; done)
        rename_i hd; subst hd
        split at h <;> try (cases h; done)
        rename_i hv'; subst hv'
        split at h <;> try (cases h; done)
        rename_i he; subst he
        cases h
        obtain ⟨v, rfl, hv⟩ := hr.one
        simp only [RelA] at hv
        refine ⟨by simpa using arr_X hg hH hv, ?_⟩
        intro p hp
        simp at hp
        subst hp
        exact ⟨_, _, _, _, hH⟩
    · cases x <;> simp [toX] at h
  | .pr a b, l, vs, d, ids, h, hr => by
    simp only [toX] at h
    split at h
    · rename_i x i y j hx hy
      cases h
      obtain ⟨a1, a2⟩ := toX_rel hg hx hr.take
      obtain ⟨b1, b2⟩ := toX_rel hg hy hr.drop
      simp only [RelX]
      refine ⟨⟨_, _, _, _, (List.take_append_drop a.size vs).symm, by rw [List.flatMap_append], a1, b1⟩, fun o ho => ?_⟩
      rcases List.mem_append.1 ho with h | h
      · exact a2 o h
      · exact b2 o h
    · cases h
end Go.Proofs.YthanbjnpfenniaaDoor.Fw

namespace Go.Proofs.YthanbjnpfenniaaDoor.Fw
open Go Go.RowKit
set_option linter.unusedVariables false

theorem heap_alloc (w : World) (o : Obj) (k : Nat) (h : k < w.heap.size) : (w.alloc o).heap[k]? = w.heap[k]? := Below.heap_alloc w o k h
theorem heap_alloc_new (w : World) (o : Obj) : (w.alloc o).heap[w.heap.size]? = some o := by show (w.heap.push o)[w.heap.size]? = _; simp
theorem heap_alloc_size (w : World) (o : Obj) : (w.alloc o).heap.size = w.heap.size + 1 := by show (w.heap.push o).size = _; simp
theorem To.alloc {base : Nat} {C : Cx} (hg : Good base C) (hb : base ≤ C.w.heap.size) {n b : Nat} {S : List Nat} {x : AO} (hn : C.H n = .hole) (o : Obj) : To base C (C.new n b S x (C.w.alloc o)) where
  ext := Ext.new hg hn fun k hk => heap_alloc _ _ k hk
  size := by show C.w.heap.size ≤ (C.w.alloc o).heap.size; rw [heap_alloc_size]; omega
  bel := (Below.refl base C.w).alloc hb o
  fnew _ h := .inl h
  gsame _ h := h

/-- A new variable. -/
theorem kont_box {base : Nat} {C : Cx} {a : Act} {dst : Option Tmp} {next : Act → World → Prop} (hg : Good base C) (hb : base ≤ C.w.heap.size) {n : Nat} (hn : C.H n = .hole) {cells : List AV} {cs : Array Value} {tid : TypeId}
    (hr : RelL C cells cs.toList) (h1 : ∀ u ∈ cs.toList, u.oneCell' = true) (hk : Kont base C a dst next (.bptr n 0) [(n, .box cells)]) :
    next (a.put dst (.pointer (some ⟨C.w.heap.size, 0, none⟩))) (C.w.alloc (.cells cs tid)) := by
  have hx := To.alloc (b := C.w.heap.size) (S := []) (x := .box cells) hg hb hn (.cells cs tid)
  refine hk (C.new n C.w.heap.size [] (.box cells) (C.w.alloc (.cells cs tid))) _ (Good.new hg hn (fun k hk => heap_alloc _ _ k hk) hx.size hb ?_ ?_ ?_) hx rfl ?_
  · simp only [ObjOk]
    refine ⟨cs, tid, ?_, h1, RelL.mono hx.ext hr⟩
    show (C.w.alloc _).heap[upd C.blk n C.w.heap.size n]? = _
    rw [upd_same, heap_alloc_new]
  · intro k hk
    simp only [blks, Cx.new, upd_same, List.mem_singleton] at hk
    subst hk
    exact ⟨Nat.le_refl _, by rw [heap_alloc_size]; omega⟩
  · simp [blks, Cx.new]
  · simp only [RelA, BptrOk, Cx.new, upd_same]
    exact ⟨⟨_, rfl⟩, trivial⟩
/-- Blocks that are free to be owned. -/
def Free (base : Nat) (C : Cx) (S : List Nat) : Prop := S.Nodup ∧ ∀ b ∈ S, base ≤ b ∧ b < C.w.heap.size ∧ ¬ C.F b ∧ ¬ C.G b ∧ ∀ o, b ∉ blks C o
theorem Free.nil (base : Nat) (C : Cx) : Free base C [] := ⟨List.nodup_nil, fun _ h => by cases h⟩
/-- The elements of a new array: 'own': the blocks that they own. -/
def ElemsIn (C : Cx) (t : Ty) (l : List t.D) (dp : Bool) (S : List Nat) (cs : Array Value) : Prop :=
  if dp = true then ∃ ss : List (List Nat), S = ss.flatten ∧ ss.length = l.length ∧ ∀ i x, l[i]? = some x → ∃ us, RelX C.w t x us (ss.getD i []) ∧ ∀ j u, us[j]? = some u → cs[i * t.size + j]? = some u
  else S = [] ∧ ∀ i x, l[i]? = some x → ∃ us, RelD C.F C.w t x us ∧ ∀ j u, us[j]? = some u → cs[i * t.size + j]? = some u
theorem ElemsIn.new {C C' : Cx} {o : Nat} {t : Ty} {l : List t.D} {dp : Bool} {S : List Nat} {cs : Array Value} (h : ElemsIn C t l dp S cs) (ho : C'.own o = S) (hF : ∀ b, C.F b → C'.F b) (hw : ∀ b, b ∈ S ∨ C.F b → C'.w.heap[b]? = C.w.heap[b]?) : ElemsOk C' o t l dp cs := by
  unfold ElemsIn at h
  unfold ElemsOk
  split at h
  · rename_i hd
    rw [if_pos hd]
    obtain ⟨ss, h1, h2, h3⟩ := h
    refine ⟨ss, by rw [ho, h1], h2, fun i x hi => ?_⟩
    obtain ⟨us, h4, h5⟩ := h3 i x hi
    exact ⟨us, h4.mono fun b hb => hw b (.inl (by rw [h1]; exact getD_mem_flatten hb)), h5⟩
  · rename_i hd
    rw [if_neg hd]
    refine ⟨by rw [ho, h.1], fun i x hi => ?_⟩
    obtain ⟨us, h4, h5⟩ := h.2 i x hi
    exact ⟨us, h4.mono hF fun b hb => hw b (.inr hb), h5⟩
/-- A new array in a new block. -/
theorem Good.arr {base : Nat} {C : Cx} (hg : Good base C) (hb : base ≤ C.w.heap.size) {n : Nat} (hn : C.H n = .hole) {t : Ty} {l : List t.D} {ver : Nat} {dp : Bool} {S : List Nat} {cs : Array Value} {tid : TypeId} {w : World}
    (hl : l ≠ []) (hS : Free base C S) (he : ElemsIn C t l dp S cs) (hw : ∀ k, k < C.w.heap.size → w.heap[k]? = C.w.heap[k]?) (hs : w.heap.size = C.w.heap.size + 1) (hc : w.heap[C.w.heap.size]? = some (.cells cs tid (0, 0))) :
    Good base (C.new n C.w.heap.size S (.arr t l ver dp) w) := by
  have hne : ¬ (l.isEmpty = true) := by simpa using hl
  have hbl : blks (C.new n C.w.heap.size S (.arr t l ver dp) w) n = C.w.heap.size :: S := by simp only [blks, Cx.new, upd_same, if_neg hne]
  refine hg.one n (Ext.new hg hn hw) (fun o h => by simp [Cx.new, upd_ne _ _ h]) (fun o h => by simp [Cx.new, upd_ne _ _ h]) (fun o h => by simp [Cx.new, upd_ne _ _ h]) (fun o h k hk => hw k (hg.low o k hk).2.1) (fun _ h => h) (fun _ h => h) (by show C.w.heap.size ≤ w.heap.size; omega) ?_ ?_ ?_ ?_
  · show ObjOk _ n (upd C.H n (.arr t l ver dp) n)
    rw [upd_same]
    simp only [ObjOk, ArrOk]
    refine .inr ⟨hl, cs, tid, ?_, he.new (by simp [Cx.new]) (fun _ h => h) fun b hb => hw b (hb.elim (fun h => (hS.2 b h).2.1) (hg.fz b))⟩
    show w.heap[upd C.blk n C.w.heap.size n]? = _
    rw [upd_same]; exact hc
  · intro b hb'
    rw [hbl] at hb'
    show base ≤ b ∧ b < w.heap.size ∧ _
    rcases List.mem_cons.1 hb' with rfl | h
    · exact ⟨hb, by omega, fun h => by have := hg.fz _ h; omega, fun h => by have := hg.gz _ h; omega⟩
    · obtain ⟨h1, h2, h3, h4, _⟩ := hS.2 b h
      exact ⟨h1, by omega, h3, h4⟩
  · rw [hbl]
    exact List.nodup_cons.2 ⟨fun h => by have := (hS.2 _ h).2.1; omega, hS.1⟩
  · intro o ho b hb' hb2
    rw [hbl] at hb'
    rcases List.mem_cons.1 hb' with rfl | h
    · have := (hg.low o _ hb2).2.1; omega
    · exact (hS.2 b h).2.2.2.2 o hb2
theorem Good.arr_nil {base : Nat} {C : Cx} (hg : Good base C) {n b : Nat} (hn : C.H n = .hole) {t : Ty} {ver : Nat} {dp : Bool} {w : World} (hw : ∀ k, k < C.w.heap.size → w.heap[k]? = C.w.heap[k]?) (hs : C.w.heap.size ≤ w.heap.size) :
    Good base (C.new n b [] (.arr t [] ver dp) w) := by
  have hbl : blks (C.new n b [] (.arr t [] ver dp) w) n = [] := by simp [blks, Cx.new]
  refine hg.one n (Ext.new hg hn hw) (fun o h => by simp [Cx.new, upd_ne _ _ h]) (fun o h => by simp [Cx.new, upd_ne _ _ h]) (fun o h => by simp [Cx.new, upd_ne _ _ h]) (fun o h k hk => hw k (hg.low o k hk).2.1) (fun _ h => h) (fun _ h => h) hs ?_ ?_ ?_ ?_
  · show ObjOk _ n (upd C.H n (.arr t [] ver dp) n)
    rw [upd_same]
    simp only [ObjOk, ArrOk]
    exact .inl ⟨trivial, by simp [Cx.new]⟩
  · rw [hbl]; intro b h; cases h
  · rw [hbl]; exact List.nodup_nil
  · rw [hbl]; intro o _ b h; cases h
theorem osl_new {C C' : Cx} {n b : Nat} {S : List Nat} {t : Ty} {l : List t.D} {ver : Nat} {dp : Bool} {w : World} (hC : C' = C.new n b S (.arr t l ver dp) w) {c : Nat} {cs : Array Value} {tid : TypeId} (hl : l ≠ []) (h1 : l.length ≤ c) (hc : w.heap[b]? = some (.cells cs tid (0, 0))) (hs : c * t.size ≤ cs.size) :
    RelA C' (.osl n ver) (.slice (some ⟨b, 0, none⟩) l.length c) := by
  subst hC
  simp only [RelA, OslOk, Cx.new, upd_same]
  refine ⟨⟨_, _, _, rfl⟩, .inr ⟨trivial, .inr ⟨fun h => hl (List.eq_nil_of_length_eq_zero h), c, cs, tid, ?_, h1, ?_, hs⟩⟩⟩
  · show _ = Value.slice (some ⟨upd C.blk n b n, 0, none⟩) _ _; rw [upd_same]
  · show w.heap[upd C.blk n b n]? = _; rw [upd_same]; exact hc
theorem osl_nil {C C' : Cx} {n b : Nat} {S : List Nat} {t : Ty} {ver : Nat} {dp : Bool} {w : World} (hC : C' = C.new n b S (.arr t [] ver dp) w) (A : Option Addr) : RelA C' (.osl n ver) (.slice A 0 0) := by
  subst hC
  simp only [RelA, OslOk, Cx.new, upd_same]
  exact ⟨⟨_, _, _, rfl⟩, .inr ⟨trivial, .inl ⟨rfl, A, rfl⟩⟩⟩

/-! ### letting go, told as a list of changes -/
theorem updU_append (u v : List (Nat × AO)) (H : Nat → AO) : updU (u ++ v) H = updU v (updU u H) := by
  induction u generalizing H with
  | nil => rfl
  | cons p r ih => obtain ⟨o, x⟩ := p; simp only [List.cons_append, updU]; exact ih _
theorem updU_kill (H : Nat → AO) : ∀ (ids : List Nat), (∀ o ∈ ids, H o ≠ .hole) → updU (kill ids) H = fun o => if ids.contains o = true then (match H o with | .hole => .hole | _ => .dead) else H o := by
  intro ids
  induction ids generalizing H with
  | nil => intro _; funext o; simp [kill, updU]
  | cons p r ih =>
    intro h
    simp only [kill, updU]
    rw [ih (upd H p .dead)]
    · funext o
      by_cases hop : o = p
      · subst hop
        simp only [upd_same, List.contains_cons, beq_self_eq_true, Bool.true_or, if_true]
        have := h o (by simp)
        cases ho : H o <;> first | exact absurd ho this | (split <;> rfl)
      · simp only [upd_ne _ _ hop, List.contains_cons]
        have : (o == p) = false := by simpa using hop
        simp only [this, Bool.false_or]
    · intro o ho
      by_cases hop : o = p
      · subst hop; rw [upd_same]; simp
      · rw [upd_ne _ _ hop]; exact h o (List.mem_cons_of_mem _ ho)
theorem drop_H {C : Cx} {ids : List Nat} (h : ∀ o ∈ ids, C.H o ≠ .hole) : (C.drop ids).H = updU (kill ids) C.H := by
  rw [updU_kill _ _ h]; rfl
theorem To.drop (base : Nat) (C : Cx) (ids : List Nat) : To base C (C.drop ids) := ⟨Ext.drop C ids, Nat.le_refl _, Below.refl _ _, fun _ h => .inl h, fun _ h => h⟩
theorem nodupB_nodup : ∀ {l : List Nat}, nodupB l = true → l.Nodup
  | [], _ => List.nodup_nil
  | x :: r, h => by
    simp only [nodupB, Bool.and_eq_true] at h
    exact List.nodup_cons.2 ⟨by simpa using h.1, nodupB_nodup h.2⟩
/-- What objects that are let go owned is free. -/
theorem Free.drop {base : Nat} {C : Cx} (hg : Good base C) {ids : List Nat} (hn : ids.Nodup) : Free base (C.drop ids) (ids.flatMap (blks C)) := by
  refine ⟨?_, fun b hb => ?_⟩
  · induction ids with
    | nil => simp
    | cons o r ih =>
      rw [List.nodup_cons] at hn
      rw [List.flatMap_cons, List.nodup_append]
      refine ⟨hg.nd o, ih hn.2, fun b hb c hc e => ?_⟩
      subst e
      obtain ⟨p, hp, hpb⟩ := List.mem_flatMap.1 hc
      have hop : o ≠ p := by rintro rfl; exact hn.1 hp
      exact hg.dj o p b hop hb hpb
  · obtain ⟨p, hp, hpb⟩ := List.mem_flatMap.1 hb
    obtain ⟨h1, h2, h3, h4⟩ := hg.low p b hpb
    refine ⟨h1, h2, h3, h4, fun o ho => ?_⟩
    rw [blks_drop] at ho
    split at ho
    · cases ho
    · rename_i hc
      have hop : p ≠ o := by rintro rfl; exact hc (by simpa using hp)
      exact hg.dj p o b hop hpb ho

/-! ### arrays of what is given -/
/-- The cells of values, one behind the other. -/
def cellsL (vs : List Value) : List Value := vs.flatMap fun v => v.cells.toList
theorem dataAll_rel {C : Cx} {t : Ty} : ∀ {vs : List AV} {us : List Value} {l : List t.D}, dataAll t vs = some l → RelL C vs us → l.length = vs.length ∧ (∀ v ∈ us, v.cells.size = t.size) ∧ (∀ u ∈ cellsL us, u.oneCell' = true) ∧
    ∀ i x, l[i]? = some x → ∃ zs, RelD C.F C.w t x zs ∧ ∀ j u, zs[j]? = some u → (cellsL us)[i * t.size + j]? = some u
  | [], us, l, h, hr => by
    simp only [dataAll, Option.some.injEq] at h; subst h
    simp only [RelL] at hr; subst hr
    simp [cellsL]
  | x :: r, us, l, h, hr => by
    simp only [dataAll] at h
    split at h
    · rename_i y s hy hs
      cases h
      simp only [RelL] at hr
      obtain ⟨v, vr, rfl, hv, hr⟩ := hr
      obtain ⟨cs, hc, hy⟩ := Option.bind_eq_some_iff.1 hy
      obtain ⟨k1, k2⟩ := cellsO_rel hv hc
      have hD := toD_rel hy k1
      have hlen := hD.len
      obtain ⟨a1, a2, a3, a4⟩ := dataAll_rel hs hr
      refine ⟨by simp [a1], ?_, ?_, ?_⟩
      · intro u hu
        rcases List.mem_cons.1 hu with rfl | hu
        · simpa using hlen
        · exact a2 u hu
      · intro u hu
        simp only [cellsL, List.flatMap_cons, List.mem_append] at hu
        rcases hu with hu | hu
        · exact k2 u hu
        · exact a3 u hu
      · intro i z hz
        cases i with
        | zero =>
          simp at hz; subst hz
          refine ⟨_, hD, fun j u hj => ?_⟩
          simp only [cellsL, List.flatMap_cons, Nat.zero_mul, Nat.zero_add]
          rw [List.getElem?_append_left (by have := (List.getElem?_eq_some_iff.1 hj).1; exact this)]
          exact hj
        | succ i =>
          obtain ⟨zs, b1, b2⟩ := a4 i z (by simpa using hz)
          refine ⟨zs, b1, fun j u hj => ?_⟩
          simp only [cellsL, List.flatMap_cons]
          rw [List.getElem?_append_right (by rw [hlen, Nat.add_mul]; omega), hlen, show (i + 1) * t.size + j - t.size = i * t.size + j by rw [Nat.add_mul]; omega]
          exact b2 j u hj
    · cases h
theorem dataAllX_rel {base : Nat} {C : Cx} (hg : Good base C) {t : Ty} : ∀ {vs : List AV} {us : List Value} {l : List t.D} {ids : List Nat}, dataAllX C.H t vs = some (l, ids) → RelL C vs us → l.length = vs.length ∧ (∀ v ∈ us, v.cells.size = t.size) ∧ (∀ u ∈ cellsL us, u.oneCell' = true) ∧
    (∀ o ∈ ids, ∃ t l ver dp, C.H o = .arr t l ver dp) ∧
    ∃ ss : List (List Nat), ids.flatMap (blks C) = ss.flatten ∧ ss.length = l.length ∧ ∀ i x, l[i]? = some x → ∃ zs, RelX C.w t x zs (ss.getD i []) ∧ ∀ j u, zs[j]? = some u → (cellsL us)[i * t.size + j]? = some u
  | [], us, l, ids, h, hr => by
    simp only [dataAllX, Option.some.injEq, Prod.mk.injEq] at h; obtain ⟨rfl, rfl⟩ := h
    simp only [RelL] at hr; subst hr
    simp [cellsL]
  | x :: r, us, l, ids, h, hr => by
    simp only [dataAllX] at h
    split at h
    · rename_i y i0 s j0 hy hs
      cases h
      simp only [RelL] at hr
      obtain ⟨v, vr, rfl, hv, hr⟩ := hr
      obtain ⟨cs, hc, hy⟩ := Option.bind_eq_some_iff.1 hy
      obtain ⟨k1, k2⟩ := cellsO_rel hv hc
      obtain ⟨hX, hX2⟩ := toX_rel hg hy k1
      have hlen := hX.len
      obtain ⟨a1, a2, a3, a4, ss, a5, a6, a7⟩ := dataAllX_rel hg hs hr
      refine ⟨by simp [a1], ?_, ?_, ?_, i0.flatMap (blks C) :: ss, ?_, by simp [a6], ?_⟩
      · intro u hu
        rcases List.mem_cons.1 hu with rfl | hu
        · simpa using hlen
        · exact a2 u hu
      · intro u hu
        simp only [cellsL, List.flatMap_cons, List.mem_append] at hu
        rcases hu with hu | hu
        · exact k2 u hu
        · exact a3 u hu
      · intro o ho
        rcases List.mem_append.1 ho with h | h
        · exact hX2 o h
        · exact a4 o h
      · rw [List.flatMap_append, a5]; rfl
      · intro i z hz
        cases i with
        | zero =>
          simp at hz; subst hz
          refine ⟨_, hX, fun j u hj => ?_⟩
          simp only [cellsL, List.flatMap_cons, Nat.zero_mul, Nat.zero_add]
          rw [List.getElem?_append_left (by have := (List.getElem?_eq_some_iff.1 hj).1; exact this)]
          exact hj
        | succ i =>
          obtain ⟨zs, b1, b2⟩ := a7 i z (by simpa using hz)
          refine ⟨zs, b1, fun j u hj => ?_⟩
          simp only [cellsL, List.flatMap_cons]
          rw [List.getElem?_append_right (by rw [hlen, Nat.add_mul]; omega), hlen, show (i + 1) * t.size + j - t.size = i * t.size + j by rw [Nat.add_mul]; omega]
          exact b2 j u hj
    · cases h
end Go.Proofs.YthanbjnpfenniaaDoor.Fw

namespace Go.Proofs.YthanbjnpfenniaaDoor.Fw
open Go Go.RowKit
set_option linter.unusedVariables false
set_option linter.unusedSimpArgs false

section
variable {P : Program}
theorem run_isAgg_ti {t : TypeId} {i : TI} (h : TiOk P t i) (w : World) : (isAgg t).run P w = .ok i.k.isAgg w := by
  have hu := h.und
  cases hk : i.k with
  | int k => rw [hk] at hu; simp [isAgg, run_underlying hu, TK.isAgg]
  | bool => rw [hk] at hu; simp [isAgg, run_underlying hu, TK.isAgg]
  | slice e => rw [hk] at hu; simp [isAgg, run_underlying hu, TK.isAgg]
  | struct l => rw [hk] at hu; obtain ⟨fs, hu, _⟩ := hu; simp [isAgg, run_underlying hu, TK.isAgg]
  | array n e => rw [hk] at hu; simp [isAgg, run_underlying hu, TK.isAgg]
  | str => rw [hk] at hu; simp [isAgg, run_underlying hu, TK.isAgg]
  | other => rw [hk] at hu; obtain ⟨d, hu, hd⟩ := hu; cases d <;> first | (simp at hd; done) | simp [isAgg, run_underlying hu, TK.isAgg]
theorem run_sizeOf_ti {t : TypeId} {i : TI} (h : TiOk P t i) (w : World) : (sizeOf t).run P w = .ok i.size w := by
  obtain ⟨q, z, h1, h2, h3, h4, h5, h6⟩ := h.info
  simp [sizeOf, typeInfo, h1, h2]
theorem run_zero_ti {t : TypeId} {i : TI} (h : TiOk P t i) (w : World) : ∃ z, (zeroValue t).run P w = .ok z w ∧ zeroOk i.zero z.cells.toList = true ∧ z.cells.size = i.size := by
  obtain ⟨q, z, h1, h2, h3, h4, h5, h6⟩ := h.info
  exact ⟨z, by simp [zeroValue, typeInfo, h1, h4], h5, h6⟩
theorem addr_add (b o n : Nat) : Addr.add ⟨b, o, none⟩ n = ⟨b, o + n, none⟩ := Addr.add_lit b o n
/-- What a variable of a type holds. -/
theorem run_load_ti {t : TypeId} {i : TI} (h : TiOk P t i) {w : World} {b off : Nat} {vs : List Value} (hl : vs.length = i.size) (hc : ∀ j u, vs[j]? = some u → w.cell? ⟨b, off + j, none⟩ = some u) :
    (loadVar t ⟨b, off, none⟩).run P w = .ok (if i.k.isAgg = true then .agg vs.toArray else vs.headD undef) w := by
  have h1 : (loadCells ⟨b, off, none⟩ vs.length).run P w = .ok vs.toArray w := run_loadCells_list (P := P) w _ vs (fun j v hv => by rw [addr_add]; exact hc j v hv)
  rw [hl] at h1
  by_cases hk : i.k.isAgg = true
  · simp [loadVar, run_isAgg_ti h, hk, run_sizeOf_ti h, h1]
  · have h2 := h.one (by simpa using hk)
    have h3 : vs.length = 1 := by omega
    obtain ⟨v, rfl⟩ : ∃ v, vs = [v] := by
      match vs, h3 with
      | [v], _ => exact ⟨v, rfl⟩
    have h4 := hc 0 v rfl
    simp only [Nat.add_zero] at h4
    have h5 : i.k.isAgg = false := by simpa using hk
    simp [loadVar, run_isAgg_ti h, h5, h4]
theorem takeT_rel {C : Cx} {i : TI} {l : List AV} {vs : List Value} (h1 : i.k.isAgg = false → i.size = 1) (hs : i.size ≤ l.length) (hr : RelL C l vs) (ho : ∀ u ∈ vs, u.oneCell' = true) :
    RelA C (takeT i l) (if i.k.isAgg = true then .agg (vs.take i.size).toArray else (vs.take i.size).headD undef) := by
  have hr' := hr.take (n := i.size)
  unfold takeT ofCells
  by_cases hk : i.k.isAgg = true
  · rw [if_pos hk, if_pos hk]
    simp only [RelA]
    exact ⟨_, rfl, fun u hu => ho u (List.mem_of_mem_take hu), hr'⟩
  · rw [if_neg hk, if_neg hk]
    have h2 := h1 (by simpa using hk)
    rw [h2] at hr' ⊢
    cases l with
    | nil => simp at hs; omega
    | cons x r =>
      simp only [RelL] at hr
      obtain ⟨v, vr, rfl, hv, _⟩ := hr
      simpa using hv
/-- An element's cells, its slices told as parts of the object. -/
theorem isAVs_rel {C : Cx} {o cur i : Nat} {T : Ty} {l : List T.D} {dp : Bool} (hH : C.H o = .arr T l cur dp) (hp : 0 < cur) (hf : T.flat = false) (hi : i < l.length) :
    ∀ {t : Ty} {x : t.D} {us : List Value} {S : List Nat} {c : Nat}, RelX C.w t x us S → (∀ (j : Nat) u, us[j]? = some u → C.w.cell? ⟨C.blk o, i * T.size + (c + j), none⟩ = some u) → RelL C (isAVs o cur i t c x) us
  | .int _, _, _, _, _, h, _ => by simp only [RelX] at h; obtain ⟨rfl, _⟩ := h; simp [isAVs, RelL, RelA]
  | .bool, _, _, _, _, h, _ => by simp only [RelX] at h; obtain ⟨rfl, _⟩ := h; simp [isAVs, RelL, RelA]
  | .str, _, _, _, _, h, _ => by simp only [RelX] at h; obtain ⟨rfl, _⟩ := h; simp [isAVs, RelL, RelA]
  | .sl _, x, us, S, c, h, hc => by
    obtain ⟨A, n, k, rfl⟩ : ∃ A n k, us = [.slice A n k] := by
      simp only [RelX] at h
      rcases h with ⟨_, _, A, rfl⟩ | ⟨_, b, c, cs, tid, ss, rfl, _⟩
      · exact ⟨_, _, _, rfl⟩
      · exact ⟨_, _, _, rfl⟩
    simp only [isAVs, RelL, RelA, IslOk, hH]
    exact ⟨_, _, rfl, ⟨⟨_, _, _, rfl⟩, .inr ⟨trivial, hp, hf, hi, hc 0 _ rfl⟩⟩, rfl⟩
  | .pr a b, x, us, S, c, h, hc => by
    simp only [RelX] at h
    obtain ⟨va, vb, Sa, Sb, rfl, rfl, h1, h2⟩ := h
    simp only [isAVs]
    refine (isAVs_rel hH hp hf hi h1 fun j u hj => hc j u ?_).append (isAVs_rel hH hp hf hi h2 fun j u hj => ?_)
    · rw [List.getElem?_append_left (List.getElem?_eq_some_iff.1 hj).1]; exact hj
    · have := hc (a.size + j) u (by rw [List.getElem?_append_right (by rw [h1.len]; omega), h1.len]; rw [show a.size + j - a.size = j by omega]; exact hj)
      rwa [show c + (a.size + j) = c + a.size + j by omega] at this
/-- What is read of a place: the cells from there on. -/
theorem cellsAt_rel {base : Nat} {C : Cx} (hg : Good base C) {x : AV} {v : Value} {cs : List AV} (hr : RelA C x v) (h : cellsAt C.H x = some cs) :
    ∃ b off vs, v = .pointer (some ⟨b, off, none⟩) ∧ RelL C cs vs ∧ (∀ u ∈ vs, u.oneCell' = true) ∧ ∀ j u, vs[j]? = some u → C.w.cell? ⟨b, off + j, none⟩ = some u := by
  cases x <;> simp only [cellsAt] at h <;> try (cases h; done)
  case bptr o off =>
    simp only [RelA, BptrOk] at hr
    cases hH : C.H o <;> rw [hH] at h hr <;> simp only at h hr <;> try (cases h; done)
    rename_i cells
    cases h
    obtain ⟨_, rfl⟩ := hr
    have hb := hg.ob o
    rw [hH] at hb
    simp only [ObjOk] at hb
    obtain ⟨cs, tid, h1, h2, h3⟩ := hb
    refine ⟨_, off, cs.toList.drop off, rfl, h3.drop, fun u hu => h2 u (List.mem_of_mem_drop hu), fun j u hj => ?_⟩
    rw [cell_of_cells h1]
    rw [List.getElem?_drop] at hj
    simpa using hj
  case eptr o ver i off =>
    simp only [RelA, EptrOk] at hr
    cases hH : C.H o <;> rw [hH] at h hr <;> simp only at h hr <;> try (cases h; done)
    rename_i t l cur dp
    split at h <;> try (cases h; done)
    rename_i hv
    subst hv
    obtain ⟨_, hr | ⟨_, hi, rfl⟩⟩ := hr
    · omega
    have hl : l ≠ [] := by intro e; subst e; simp at hi
    have hb := hg.ob o
    rw [hH] at hb
    simp only [ObjOk, ArrOk] at hb
    rcases hb with hb | ⟨_, cs', tid, h1, h2⟩
    · exact absurd hb.1 hl
    have hx : l[i]? = some (l.getD i t.dflt) := by
      rw [List.getD_eq_getElem?_getD, List.getElem?_eq_getElem hi]; rfl
    have key : ∃ us cs1, cs = cs1.drop off ∧ RelL C cs1 us ∧ (∀ u ∈ us, u.oneCell' = true) ∧ ∀ j u, us[j]? = some u → cs'[i * t.size + j]? = some u := by
      unfold ElemsOk at h2
      split at h2
      · rename_i hd
        obtain ⟨ss, a1, a2, a3⟩ := h2
        rw [if_pos hd] at h
        obtain ⟨us, b1, b2⟩ := a3 i _ hx
        split at h
        · rename_i hf
          have := b1.flat hf
          rw [this] at b1
          cases h
          obtain ⟨m1, m2⟩ := (b1.toD (F := C.F) (fun b hb => by cases hb)).toAVs (C := C)
          exact ⟨us, _, rfl, m1, m2, b2⟩
        · rename_i hf
          split at h <;> try (cases h; done)
          rename_i hp
          cases h
          exact ⟨us, _, rfl, isAVs_rel hH (Nat.le_of_ble_eq_true hp) (by simpa using hf) hi b1 (fun j u hj => by rw [cell_of_cells h1, Nat.zero_add]; exact b2 j u hj), b1.onecell, b2⟩
      · rename_i hd
        rw [if_neg hd] at h
        cases h
        obtain ⟨us, b1, b2⟩ := h2.2 i _ hx
        obtain ⟨m1, m2⟩ := b1.toAVs
        exact ⟨us, _, rfl, m1, m2, b2⟩
    obtain ⟨us, cs1, rfl, m1, m2, k2⟩ := key
    refine ⟨_, i * t.size + off, us.drop off, rfl, m1.drop, fun u hu => m2 u (List.mem_of_mem_drop hu), fun j u hj => ?_⟩
    rw [cell_of_cells h1]
    rw [List.getElem?_drop] at hj
    have := k2 _ _ hj
    rwa [show i * t.size + (off + j) = i * t.size + off + j by omega] at this
  case ref cells =>
    simp only [RelA] at hr
    obtain ⟨b, off, rfl, _, hr⟩ := hr
    cases h
    have hall : ∀ (j : Nat) (hj : j < cs.length), ∃ u, C.w.cell? ⟨b, off + j, none⟩ = some u ∧ u.oneCell' = true ∧ RelA C cs[j] u := fun j hj => hr.get (List.getElem?_eq_getElem hj)
    refine ⟨b, off, (List.range cs.length).map fun j => (C.w.cell? ⟨b, off + j, none⟩).getD undef, rfl, ?_, ?_, ?_⟩
    · refine RelL.mk (by simp) fun j x u h1 h2 => ?_
      have hj : j < cs.length := (List.getElem?_eq_some_iff.1 h1).1
      obtain ⟨u', a1, a2, a3⟩ := hall j hj
      rw [List.getElem?_map, List.getElem?_range hj] at h2
      simp only [Option.map_some, Option.some.injEq, a1, Option.getD_some] at h2
      subst h2
      rw [List.getElem?_eq_getElem hj] at h1
      cases h1
      exact a3
    · intro u hu
      obtain ⟨j, hj, rfl⟩ := List.mem_map.1 hu
      obtain ⟨u', a1, a2, a3⟩ := hall j (List.mem_range.1 hj)
      rw [a1]; exact a2
    · intro j u hj
      have hj' : j < cs.length := by
        have := (List.getElem?_eq_some_iff.1 hj).1
        simpa using this
      rw [List.getElem?_map, List.getElem?_range hj'] at hj
      obtain ⟨u', a1, a2, a3⟩ := hall j hj'
      simp only [Option.map_some, Option.some.injEq, a1, Option.getD_some] at hj
      rw [a1, hj]
end

section
variable {P : Program} {T : Tb} {α : Type} {base : Nat} {C : Cx} {a : Act} {tv : Nat → AV} {nid : Nat} {next : Act → World → Prop} {Q : Exit → Act → World → Prop} {r : α} {k : AV → List (Nat × AO) → Option α}
variable {dst : Option Tmp} {type : TypeId} {pos : String} {after : Array Edge} {guard : Option (Nat × Bool)}

/-- Nothing is made or changed. -/
theorem Kont.pure {v : AV} {val : Value} (hg : Good base C) (hk : Kont base C a dst next v []) (h : RelA C v val) : next (a.put dst val) C.w := hk C val hg (To.refl base C) rfl h

theorem so_move (hg : Good base C) (ht : Tmps C tv a) (hk : ∀ v u, k v u = some r → Kont base C a dst next v u) {x : Operand} (h : k (opnd tv x) [] = some r) (op : Op) (ho : op = .move x ∨ op = .assign x) :
    (Oper.mk dst op type pos after guard).wp P a C.w next Q :=
  wp_value (v := a.eval x) (by rcases ho with rfl | rfl <;> simp [execOp]) ((hk _ _ h).pure hg (opnd_rel ht x))
theorem so_pick (hg : Good base C) (ht : Tmps C tv a) (hk : ∀ v u, k v u = some r → Kont base C a dst next v u) {c x y : Operand} (h : testC (opnd tv c) (k (opnd tv x) []) (k (opnd tv y) []) = some r) :
    (Oper.mk dst (.pick c x y) type pos after guard).wp P a C.w next Q := by
  obtain ⟨b, hb, h⟩ := testC_some (opnd_rel ht c) h
  refine wp_value (w' := C.w) (v := if b = true then a.eval x else a.eval y) (by cases b <;> simp [execOp, hb, asBool]) ?_
  cases b with
  | true => rw [if_pos rfl] at h ⊢; exact (hk _ _ h).pure hg (opnd_rel ht x)
  | false => rw [if_neg (by simp)] at h ⊢; exact (hk _ _ h).pure hg (opnd_rel ht y)
theorem so_alloc (hT : TbOk P T) (hg : Good base C) (hb : base ≤ C.w.heap.size) (hn : C.H nid = .hole) (hk : ∀ v u, k v u = some r → Kont base C a dst next v u) {t : TypeId}
    (h : (match T.ty t with | some i => k (.bptr nid 0) [(nid, .box i.zero)] | none => none) = some r) : (Oper.mk dst (.alloc t) type pos after guard).wp P a C.w next Q := by
  split at h
  · rename_i i hi
    obtain ⟨z, h1, h2, h3⟩ := run_zero_ti (hT.ty t i hi) C.w
    obtain ⟨h4, h5⟩ := zero_rel C h2
    exact wp_value (w' := C.w.alloc (.cells z.cells t)) (by simp [execOp, Instr.alloc, h1, newVar, newRow]) (kont_box hg hb hn h4 h5 (hk _ _ h))
  · cases h
theorem so_box (hg : Good base C) (hb : base ≤ C.w.heap.size) (hn : C.H nid = .hole) (ht : Tmps C tv a) (hk : ∀ v u, k v u = some r → Kont base C a dst next v u) {t : TypeId} {x : Operand}
    (h : (match cellsO (opnd tv x) with | some cs => k (.bptr nid 0) [(nid, .box cs)] | none => none) = some r) : (Oper.mk dst (.box t x) type pos after guard).wp P a C.w next Q := by
  split at h
  · rename_i cs hc
    obtain ⟨h4, h5⟩ := cellsO_rel (opnd_rel ht x) hc
    exact wp_value (w' := C.w.alloc (.cells (a.eval x).cells t)) (by simp [execOp, Instr.box, newVar, newRow]) (kont_box hg hb hn h4 h5 (hk _ _ h))
  · cases h
theorem so_load (hT : TbOk P T) (hg : Good base C) (ht : Tmps C tv a) (hk : ∀ v u, k v u = some r → Kont base C a dst next v u) {t : TypeId} {x : Operand}
    (h : (match T.ty t, cellsAt C.H (opnd tv x) with | some i, some cs => if i.size ≤ cs.length then k (takeT i cs) [] else none | _, _ => none) = some r) : (Oper.mk dst (.load t x) type pos after guard).wp P a C.w next Q := by
  split at h
  · rename_i i cs hi hc
    split at h
    · rename_i hs
      obtain ⟨b, off, vs, h1, h2, h3, h4⟩ := cellsAt_rel hg (opnd_rel ht x) hc
      have hti := hT.ty t i hi
      have hl := run_load_ti hti (w := C.w) (b := b) (off := off) (vs := vs.take i.size) (by rw [List.length_take, ← h2.len]; omega) (fun j u hj => h4 j u (by rw [List.getElem?_take] at hj; split at hj <;> first | exact hj | cases hj))
      exact wp_value (by simp [execOp, Instr.loadAt, h1, Instr.sureAddr, hl]) ((hk _ _ h).pure hg (takeT_rel hti.one hs h2 h3))
    · cases h
  · cases h
theorem so_nil (hg : Good base C) (ht : Tmps C tv a) (hk : ∀ v u, k v u = some r → Kont base C a dst next v u) {x : Operand}
    (h : (match opnd tv x with | .bptr p off => (match C.H p with | .box _ => k (.bptr p off) [] | _ => none) | .ref cells => k (.ref cells) [] | .fn f caps => k (.fn f caps) [] | _ => none) = some r) : (Oper.mk dst (.nilCheck x) type pos after guard).wp P a C.w next Q := by
  have hr := opnd_rel ht x
  split at h
  · rename_i p off hx
    split at h
    · rename_i cells hH
      rw [hx] at hr
      have hr' := hr
      simp only [RelA, BptrOk, hH] at hr
      exact wp_value (w' := C.w) (v := a.eval x) (by simp [execOp, hr.2]) ((hk _ _ h).pure hg hr')
    · cases h
  · rename_i cells hx
    rw [hx] at hr
    have hr' := hr
    simp only [RelA] at hr
    obtain ⟨b, off, he, _⟩ := hr
    exact wp_value (w' := C.w) (v := a.eval x) (by simp [execOp, he]) ((hk _ _ h).pure hg hr')
  · rename_i f caps hx
    rw [hx] at hr
    have hr' := hr
    simp only [RelA] at hr
    obtain ⟨vs, he, _⟩ := hr
    exact wp_value (w' := C.w) (v := a.eval x) (by simp [execOp, he]) ((hk _ _ h).pure hg hr')
  · cases h
end
end Go.Proofs.YthanbjnpfenniaaDoor.Fw

namespace Go.Proofs.YthanbjnpfenniaaDoor.Fw
open Go Go.RowKit
set_option linter.unusedVariables false
set_option linter.unusedSimpArgs false

theorem RelX.slAt {w : World} : ∀ {t : Ty} {c : Nat} {x : t.D} {k : IntKind} {m : List Int} {us : List Value} {S : List Nat}, Fw.slAt t c x = some (k, m) → RelX w t x us S →
    ∃ v, us[c]? = some v ∧ ((m = [] ∧ ∃ A, v = .slice A 0 0) ∨ (m ≠ [] ∧ ∃ (b cap : Nat) (cs : Array Value) (tid : TypeId), v = .slice (some ⟨b, 0, none⟩) m.length cap ∧ w.heap[b]? = some (.cells cs tid (0, 0)) ∧ m.length ≤ cs.size ∧ b ∈ S))
  | .int _, _, _, _, _, _, _, h, _ => by simp [Fw.slAt] at h
  | .bool, _, _, _, _, _, _, h, _ => by simp [Fw.slAt] at h
  | .str, _, _, _, _, _, _, h, _ => by simp [Fw.slAt] at h
  | .sl e, c, x, k, m, us, S, h, hr => by
    cases e <;> try (simp [Fw.slAt] at h; done)
    rename_i k'
    cases c with
    | succ c => simp [Fw.slAt] at h
    | zero =>
      simp only [Fw.slAt, Option.some.injEq, Prod.mk.injEq] at h
      obtain ⟨rfl, rfl⟩ := h
      simp only [RelX] at hr
      rcases hr with ⟨h1, _, A, rfl⟩ | ⟨h1, b, cap, cs, tid, ss, rfl, h2, h3, h4, h5, h6, h7⟩
      · exact ⟨_, rfl, .inl ⟨h1, A, rfl⟩⟩
      · refine ⟨_, rfl, .inr ⟨h1, b, cap, cs, tid, rfl, h3, ?_, by rw [h5]; simp⟩⟩
        simp only [Ty.size] at h4
        omega
  | .pr a b, c, x, k, m, us, S, h, hr => by
    simp only [RelX] at hr
    obtain ⟨va, vb, Sa, Sb, rfl, rfl, h1, h2⟩ := hr
    simp only [Fw.slAt] at h
    split at h
    · rename_i hc
      have hc : c < a.size := Nat.le_of_ble_eq_true hc
      obtain ⟨v, h3, h4⟩ := RelX.slAt h h1
      refine ⟨v, by rw [List.getElem?_append_left (by rw [h1.len]; exact hc)]; exact h3, h4.imp id ?_⟩
      rintro ⟨h5, b', cap, cs, tid, h6, h7, h8, h9⟩
      exact ⟨h5, b', cap, cs, tid, h6, h7, h8, List.mem_append.2 (.inl h9)⟩
    · rename_i hc
      have hc : ¬ c < a.size := fun h => hc (Nat.ble_eq_true_of_le h)
      obtain ⟨v, h3, h4⟩ := RelX.slAt h h2
      refine ⟨v, by rw [List.getElem?_append_right (by rw [h1.len]; omega), h1.len]; exact h3, h4.imp id ?_⟩
      rintro ⟨h5, b', cap, cs, tid, h6, h7, h8, h9⟩
      exact ⟨h5, b', cap, cs, tid, h6, h7, h8, List.mem_append.2 (.inr h9)⟩
theorem RelX.slSet {w w' : World} {b : Nat} {cs cs' : Array Value} {tid : TypeId} {n cap j : Nat} {y : Int} {k : IntKind} (hb : w.heap[b]? = some (.cells cs tid (0, 0))) (hb' : w'.heap[b]? = some (.cells cs' tid (0, 0))) (hsz : cs'.size = cs.size)
    (hcs : ∀ i, cs'[i]? = if i = j then some (.int k y) else cs[i]?) (hw : ∀ p, p ≠ b → w'.heap[p]? = w.heap[p]?) :
    ∀ {t : Ty} {c : Nat} {x : t.D} {m : List Int} {us : List Value} {S : List Nat}, Fw.slAt t c x = some (k, m) → RelX w t x us S → S.Nodup → us[c]? = some (.slice (some ⟨b, 0, none⟩) n cap) → j < m.length → RelX w' t (Fw.slSet t c x j y) us S
  | .int _, _, _, _, _, _, h, _, _, _, _ => by simp [Fw.slAt] at h
  | .bool, _, _, _, _, _, h, _, _, _, _ => by simp [Fw.slAt] at h
  | .str, _, _, _, _, _, h, _, _, _, _ => by simp [Fw.slAt] at h
  | .sl e, c, x, m, us, S, h, hr, hn, hu, hj => by
    cases e <;> try (simp [Fw.slAt] at h; done)
    rename_i k'
    cases c with
    | succ c => simp [Fw.slAt] at h
    | zero =>
      simp only [Fw.slAt, Option.some.injEq, Prod.mk.injEq] at h
      obtain ⟨rfl, rfl⟩ := h
      simp only [RelX] at hr
      rcases hr with ⟨h1, _, A, rfl⟩ | ⟨h1, b0, cap0, cs0, tid0, ss, rfl, h2, h3, h4, h5, h6, h7⟩
      · rw [h1] at hj; simp at hj
      · simp at hu
        obtain ⟨rfl, rfl, rfl⟩ := hu
        rw [hb] at h3
        cases h3
        simp only [Fw.slSet, RelX]
        refine .inr ⟨by intro e; exact h1 (List.eq_nil_of_length_eq_zero (by simpa using congrArg List.length e)), b0, cap0, cs', tid, ss, by simp, by simpa using h2, hb', by rw [hsz]; exact h4, h5, by simpa using h6, fun i z hz => ?_⟩
        have hi : i < x.length := by have := (List.getElem?_eq_some_iff.1 hz).1; simpa using this
        obtain ⟨us0, u1, u2⟩ := h7 i _ (List.getElem?_eq_getElem hi)
        rw [List.getElem?_set] at hz
        have e1 : ss.getD i [] = [] := u1.2
        have e2 : us0 = [.int k' x[i]] := u1.1
        have e3 := u2 0 _ (by rw [e2]; rfl)
        simp only [Ty.size, Nat.mul_one, Nat.add_zero] at e3
        by_cases hij : j = i
        · subst hij
          rw [if_pos rfl, if_pos hi] at hz
          cases hz
          refine ⟨[.int k' y], ⟨rfl, e1⟩, fun q u hq => ?_⟩
          cases q with
          | succ q => simp at hq
          | zero => simp at hq; subst hq; simp only [Ty.size, Nat.mul_one, Nat.add_zero]; rw [hcs, if_pos rfl]
        · rw [if_neg hij, List.getElem?_eq_getElem hi] at hz
          cases hz
          refine ⟨[.int k' x[i]], ⟨rfl, e1⟩, fun q u hq => ?_⟩
          cases q with
          | succ q => simp at hq
          | zero => simp at hq; subst hq; simp only [Ty.size, Nat.mul_one, Nat.add_zero]; rw [hcs, if_neg (fun e => hij e.symm)]; exact e3
  | .pr a b2, c, x, m, us, S, h, hr, hn, hu, hj => by
    have hb0 : ∀ {t : Ty} {c : Nat} {x : t.D} {m : List Int} {us : List Value} {S : List Nat}, Fw.slAt t c x = some (k, m) → RelX w t x us S → us[c]? = some (.slice (some ⟨b, 0, none⟩) n cap) → j < m.length → b ∈ S := by
      intro t c x m us S h hr hu hj
      obtain ⟨v, h1, h2⟩ := RelX.slAt h hr
      rw [hu] at h1
      cases h1
      rcases h2 with ⟨h2, _⟩ | ⟨_, b', cap', cs', tid', h3, _, _, h4⟩
      · rw [h2] at hj; simp at hj
      · simp at h3
        rw [h3.1]; exact h4
    simp only [RelX] at hr ⊢
    obtain ⟨va, vb, Sa, Sb, rfl, rfl, h1, h2⟩ := hr
    rw [List.nodup_append] at hn
    obtain ⟨n1, n2, n3⟩ := hn
    simp only [Fw.slAt] at h
    simp only [Fw.slSet]
    split at h
    · rename_i hc
      have hc' : c < a.size := Nat.le_of_ble_eq_true hc
      rw [if_pos hc]
      rw [List.getElem?_append_left (by rw [h1.len]; exact hc')] at hu
      have hbS := hb0 h h1 hu hj
      exact ⟨va, vb, Sa, Sb, rfl, rfl, RelX.slSet hb hb' hsz hcs hw h h1 n1 hu hj, h2.mono fun p hp => hw p (fun e => by subst e; exact n3 _ hbS _ hp rfl)⟩
    · rename_i hc
      have hc' : ¬ c < a.size := fun h => hc (Nat.ble_eq_true_of_le h)
      rw [if_neg hc]
      rw [List.getElem?_append_right (by rw [h1.len]; omega), h1.len] at hu
      have hbS := hb0 h h2 hu hj
      exact ⟨va, vb, Sa, Sb, rfl, rfl, h1.mono fun p hp => hw p (fun e => by subst e; exact n3 _ hp _ hbS rfl), RelX.slSet hb hb' hsz hcs hw h h2 n2 hu hj⟩
/-- No block twice: elements' blocks are apart. -/
theorem flat_apart : ∀ {ss : List (List Nat)} {i j b : Nat}, ss.flatten.Nodup → i ≠ j → b ∈ ss.getD i [] → b ∉ ss.getD j []
  | [], i, j, b, _, _, h => by simp at h
  | s :: r, i, j, b, hn, hij, h => by
    rw [List.flatten_cons, List.nodup_append] at hn
    obtain ⟨n1, n2, n3⟩ := hn
    intro h'
    cases i with
    | zero =>
      cases j with
      | zero => exact hij rfl
      | succ j => exact n3 b (by simpa using h) b (getD_mem_flatten (by simpa using h')) rfl
    | succ i =>
      cases j with
      | zero => exact n3 b (by simpa using h') b (getD_mem_flatten (by simpa using h)) rfl
      | succ j => exact flat_apart (i := i) (j := j) n2 (fun e => hij (by rw [e])) (by simpa using h) (by simpa using h')
theorem flat_set : ∀ {ss : List (List Nat)} {j : Nat} {S : List Nat}, ss.flatten.Nodup → S.Nodup → (∀ b ∈ S, b ∉ ss.flatten) → (ss.set j S).flatten.Nodup ∧ ∀ b ∈ (ss.set j S).flatten, b ∈ ss.flatten ∨ b ∈ S
  | [], j, S, _, _, _ => by simp
  | s :: r, 0, S, hn, hS, hd => by
    rw [List.flatten_cons, List.nodup_append] at hn
    obtain ⟨n1, n2, n3⟩ := hn
    simp only [List.set_cons_zero, List.flatten_cons]
    refine ⟨List.nodup_append.2 ⟨hS, n2, fun b hb c hc e => hd b hb (by subst e; simp only [List.flatten_cons, List.mem_append]; exact .inr hc)⟩, fun b hb => ?_⟩
    rcases List.mem_append.1 hb with h | h
    · exact .inr h
    · exact .inl (List.mem_append.2 (.inr h))
  | s :: r, j + 1, S, hn, hS, hd => by
    rw [List.flatten_cons, List.nodup_append] at hn
    obtain ⟨n1, n2, n3⟩ := hn
    simp only [List.set_cons_succ, List.flatten_cons]
    have hd' : ∀ b ∈ S, b ∉ s ∧ b ∉ r.flatten := fun b hb => by have := hd b hb; simp only [List.flatten_cons, List.mem_append] at this; exact ⟨fun h => this (.inl h), fun h => this (.inr h)⟩
    obtain ⟨k1, k2⟩ := flat_set (j := j) n2 hS (fun b hb => (hd' b hb).2)
    refine ⟨List.nodup_append.2 ⟨n1, k1, fun b hb c hc e => ?_⟩, fun b hb => ?_⟩
    · subst e
      rcases k2 b hc with h | h
      · exact n3 b hb b h rfl
      · exact (hd' b h).1 hb
    · rcases List.mem_append.1 hb with h | h
      · exact .inl (List.mem_append.2 (.inl h))
      · rcases k2 b h with h | h
        · exact .inl (List.mem_append.2 (.inr h))
        · exact .inr h
/-- An element's cells are put in. -/
theorem cells_set {n i : Nat} {cur us : List Value} (hlen : us.length = n) (hroom : i * n + n ≤ cur.length) :
    (∀ (m : Nat) u, us[m]? = some u → (cur.take (i * n) ++ us ++ cur.drop (i * n + us.length)).toArray[i * n + m]? = some u) ∧
    (∀ (j m : Nat) u, i ≠ j → m < n → cur[j * n + m]? = some u → (cur.take (i * n) ++ us ++ cur.drop (i * n + us.length)).toArray[j * n + m]? = some u) := by
  constructor
  · intro m u hm
    have hm' : m < us.length := (List.getElem?_eq_some_iff.1 hm).1
    rw [List.getElem?_toArray, List.append_assoc, List.getElem?_append_right (by simp; omega), List.getElem?_append_left (by simp; omega)]
    simp only [List.length_take]
    rw [show i * n + m - min (i * n) cur.length = m by omega]
    exact hm
  · intro j m u hij hm hcur
    rw [List.getElem?_toArray, List.append_assoc]
    rcases Nat.lt_or_gt_of_ne hij with h | h
    · have : (i + 1) * n ≤ j * n := Nat.mul_le_mul_right _ h
      rw [Nat.add_mul] at this
      rw [List.getElem?_append_right (by simp; omega), List.getElem?_append_right (by simp; omega)]
      simp only [List.length_take, List.getElem?_drop]
      rw [show i * n + us.length + (j * n + m - min (i * n) cur.length - us.length) = j * n + m by omega]
      exact hcur
    · have : (j + 1) * n ≤ i * n := Nat.mul_le_mul_right _ h
      rw [Nat.add_mul] at this
      rw [List.getElem?_append_left (by simp; omega), List.getElem?_take, if_pos (by omega)]
      exact hcur
end Go.Proofs.YthanbjnpfenniaaDoor.Fw

namespace Go.Proofs.YthanbjnpfenniaaDoor.Fw
open Go Go.RowKit
set_option linter.unusedVariables false
set_option linter.unusedSimpArgs false

theorem setT_get : ∀ (cs : List AV) (n : Nat) (v : AV) (j : Nat), (setT cs n v)[j]? = if j = n ∧ n < cs.length then some v else cs[j]?
  | [], n, v, j => by simp [setT]
  | x :: r, 0, v, j => by cases j <;> simp [setT]
  | x :: r, n + 1, v, j => by
    cases j with
    | zero => simp [setT]
    | succ j => simp only [setT, List.getElem?_cons_succ, setT_get r n v j, List.length_cons]; congr 1; simp
theorem setT_len : ∀ (cs : List AV) (n : Nat) (v : AV), (setT cs n v).length = cs.length
  | [], _, _ => rfl
  | _ :: _, 0, _ => rfl
  | _ :: r, n + 1, v => by simp [setT, setT_len r n v]
theorem setT_eq : ∀ (cs : List AV) (n : Nat) (v : AV), setT cs n v = cs.set n v
  | [], _, _ => rfl
  | _ :: _, 0, _ => rfl
  | _ :: r, n + 1, v => by simp [setT, setT_eq r n v]
theorem putCells_eq : ∀ (ys cs : List AV) (n : Nat), n + ys.length ≤ cs.length → putCells cs n ys = cs.take n ++ ys ++ cs.drop (n + ys.length)
  | [], cs, n, _ => by simp [putCells]
  | y :: r, cs, n, h => by
    simp only [List.length_cons] at h
    simp only [putCells, setT_eq]
    rw [putCells_eq r _ _ (by simp; omega)]
    have hn : n < cs.length := by omega
    have e : cs.set n y = cs.take n ++ y :: cs.drop (n + 1) := by rw [List.set_eq_take_append_cons_drop, if_pos hn]
    have e1 : (cs.set n y).take (n + 1) = cs.take n ++ [y] := by
      rw [e, List.take_append, List.length_take, show min n cs.length = n by omega, show n + 1 - n = 1 by omega]
      simp [List.take_take]
    have e2 : (cs.set n y).drop (n + 1 + r.length) = cs.drop (n + (r.length + 1)) := by
      rw [e, List.drop_append, List.length_take, show min n cs.length = n by omega, show n + 1 + r.length - n = r.length + 1 by omega, List.drop_succ_cons, List.drop_drop, List.drop_eq_nil_of_le (by simp; omega)]
      simp only [List.nil_append]
      congr 1; omega
    rw [e1, e2]
    simp
theorem putCells_len : ∀ (ys cs : List AV) (n : Nat), (putCells cs n ys).length = cs.length
  | [], _, _ => rfl
  | y :: r, cs, n => by simp only [putCells]; rw [putCells_len r, setT_len]
theorem RelL.put {C : Cx} {cs ys : List AV} {vs us : List Value} {n : Nat} (h : RelL C cs vs) (k : RelL C ys us) (hn : n + ys.length ≤ cs.length) : RelL C (putCells cs n ys) (vs.take n ++ us ++ vs.drop (n + us.length)) := by
  rw [putCells_eq _ _ _ hn, ← k.len]
  exact (h.take.append k).append h.drop

section
variable {P : Program} {T : Tb} {α : Type} {base : Nat} {C : Cx} {a : Act} {tv : Nat → AV} {nid : Nat} {next : Act → World → Prop} {Q : Exit → Act → World → Prop} {r : α} {k : AV → List (Nat × AO) → Option α}
variable {dst : Option Tmp} {type : TypeId} {pos : String} {after : Array Edge} {guard : Option (Nat × Bool)}

/-! ### stores -/
theorem run_store_ti {t : TypeId} {i : TI} (h : TiOk P t i) {w : World} {b off : Nat} {v : Value} {cur : Array Value} {tid : TypeId} (hb : w.heap[b]? = some (.cells cur tid (0, 0))) (hs : v.cells.size = i.size) (ho : off + v.cells.size ≤ cur.size) (h1 : ∀ u ∈ v.cells.toList, u.oneCell' = true) :
    (storeVar t ⟨b, off, none⟩ v).run P w = .ok () (w.setRow b (cur.toList.take off ++ v.cells.toList ++ cur.toList.drop (off + v.cells.toList.length)).toArray) := by
  have := run_storeCells_at (P := P) b off tid v.cells.toList 0 cur w hb (by simpa using ho) h1
  simp only [Nat.add_zero] at this
  have hs' : ¬ (v.cells.size ≠ i.size) := fun h => h hs
  simp only [storeVar, Sem.run_bind, run_sizeOf_ti h, Result.andThen_ok, if_neg hs', Sem.run_ite, Sem.run_pure]
  exact this
theorem setRow_below {w : World} {b base : Nat} (hb : base ≤ b) (cs : Array Value) : Below base w (w.setRow b cs) :=
  ⟨rfl, rfl, rfl, by simp, fun k hk => setRow_other w b k cs (by omega)⟩
/-- A block of ours has new cells. -/
theorem setRow_step {C : Cx} (hg : Good base C) {o : Nat} {x : AO} {cur cs : Array Value} {tid : TypeId} (hbk : C.w.heap[C.blk o]? = some (.cells cur tid (0, 0))) (hin : C.blk o ∈ blks C o) (hsz : cs.size = cur.size)
    (hx : match C.H o, x with | .box _, .box _ => True | .arr t l ver _, .arr t' l' ver' _ => ver = ver' ∧ t'.size = t.size ∧ l'.length = l.length ∧ (ver = 0 ∨ t.flat = true) | _, _ => False) :
    To base C { C with H := upd C.H o x, w := C.w.setRow (C.blk o) cs } := by
  have hlow := hg.low o _ hin
  have hother : ∀ b, b ≠ C.blk o → (C.w.setRow (C.blk o) cs).heap[b]? = C.w.heap[b]? := fun b h => setRow_other _ _ _ _ h
  refine ⟨⟨fun _ h => h, fun _ h => h, fun b hb => hother b (fun e => ?_), fun p => ?_⟩, by simp, setRow_below hlow.1 _, fun _ h => .inl h, fun _ h => h⟩
  · subst e
    rcases hb with h | h
    · exact hlow.2.2.1 h
    · exact hlow.2.2.2 h
  · by_cases hp : p = o
    · subst hp
      simp only [ObjExt, upd_same]
      cases hH : C.H p <;> rw [hH] at hx <;> cases x <;> simp only at hx <;> try (exact hx.elim)
      · trivial
      · obtain ⟨rfl, e2, e3, e4⟩ := hx
        refine .inr ⟨rfl, e2, e3, fun _ => ⟨trivial, fun cs0 tid0 h0 => ?_, fun hp hf => ?_⟩⟩
        · rw [hbk] at h0
          cases h0
          exact ⟨cs, setRow_heap _ _ _ _ _ _ hbk, hsz⟩
        · rcases e4 with e4 | e4
          · omega
          · rw [hf] at e4; cases e4
    · exact ObjExt.same (by simp [upd_ne _ _ hp]) rfl fun b hb => hother b (fun e => by subst e; exact hg.dj p o _ hp hb hin)
theorem so_store_box (hg : Good base C) {o : Nat} {cells cells' : List AV} {cur cs : Array Value} {tid : TypeId} (hH : C.H o = .box cells) (hbk : C.w.heap[C.blk o]? = some (.cells cur tid (0, 0))) (hsz : cs.size = cur.size)
    (hr : RelL C cells' cs.toList) (h1 : ∀ u ∈ cs.toList, u.oneCell' = true) (hk : Kont base C a dst next .top [(o, .box cells')]) : next (a.put dst undef) (C.w.setRow (C.blk o) cs) := by
  have hin : C.blk o ∈ blks C o := by simp [blks, hH]
  have hto := setRow_step (x := .box cells') hg hbk hin hsz (by rw [hH]; trivial)
  refine hk _ _ ?_ hto rfl (by simp [RelA])
  refine hg.one o hto.ext (fun p h => by simp [upd_ne _ _ h]) (fun _ _ => rfl) (fun _ _ => rfl) (fun p hp b hb => setRow_other _ _ _ _ (fun e => by subst e; exact hg.dj p o _ hp hb hin)) (fun _ h => h) (fun _ h => h) (by simp) ?_ ?_ ?_ ?_
  · simp only [upd_same, ObjOk]
    exact ⟨cs, tid, setRow_heap _ _ _ _ _ _ hbk, h1, hr.mono hto.ext⟩
  · intro b hb
    simp only [blks, upd_same, List.mem_singleton] at hb
    subst hb
    obtain ⟨a1, a2, a3, a4⟩ := hg.low o _ hin
    exact ⟨a1, by simpa using a2, a3, a4⟩
  · simp [blks]
  · intro p hp b hb
    simp only [blks, upd_same, List.mem_singleton] at hb
    subst hb
    exact fun h => hg.dj p o _ hp h hin
theorem so_store_arr (hg : Good base C) {o i : Nat} {t : Ty} {l : List t.D} {ver : Nat} {dp : Bool} {cur : Array Value} {tid : TypeId} {y : t.D} {us : List Value} (hH : C.H o = .arr t l ver dp) (hi : i < l.length) (hf : t.flat = true) (hbk : C.w.heap[C.blk o]? = some (.cells cur tid (0, 0)))
    (hy : RelD C.F C.w t y us) (hk : Kont base C a dst next .top [(o, .arr t (l.set i y) ver dp)]) : next (a.put dst undef) (C.w.setRow (C.blk o) (cur.toList.take (i * t.size) ++ us ++ cur.toList.drop (i * t.size + us.length)).toArray) := by
  have hl : l ≠ [] := by intro e; subst e; simp at hi
  have hne : ¬ (l.isEmpty = true) := by simpa using hl
  have hin : C.blk o ∈ blks C o := by simp only [blks, hH]; rw [if_neg hne]; simp
  have hob := hg.ob o
  rw [hH] at hob
  simp only [ObjOk, ArrOk] at hob
  rcases hob with hob | ⟨_, cs', tid', h1, h2⟩
  · exact absurd hob.1 hl
  rw [hbk] at h1
  cases h1
  have hlen := hy.len
  -- every element's cells
  have hel : ∀ (j : Nat) x, l[j]? = some x → ∃ zs, RelX C.w t x zs [] ∧ ∀ m u, zs[m]? = some u → cur[j * t.size + m]? = some u := by
    intro j x hx
    unfold ElemsOk at h2
    split at h2
    · obtain ⟨ss, b1, b2, b3⟩ := h2
      obtain ⟨zs, c1, c2⟩ := b3 j x hx
      rw [c1.flat hf] at c1
      exact ⟨zs, c1, c2⟩
    · obtain ⟨zs, c1, c2⟩ := h2.2 j x hx
      exact ⟨zs, c1.flat _ hf, c2⟩
  have hroom : i * t.size + t.size ≤ cur.size := by
    obtain ⟨zs, c1, c2⟩ := hel i _ (List.getElem?_eq_getElem hi)
    have hz := c1.len
    have hp := t.size_pos
    have hlt : t.size - 1 < zs.length := by omega
    have := (Array.getElem?_eq_some_iff.1 (c2 (t.size - 1) _ (List.getElem?_eq_getElem hlt))).1
    omega
  have hsz : (cur.toList.take (i * t.size) ++ us ++ cur.toList.drop (i * t.size + us.length)).toArray.size = cur.size := by
    simp [hlen]; omega
  have hto := setRow_step (x := .arr t (l.set i y) ver dp) (cs := (cur.toList.take (i * t.size) ++ us ++ cur.toList.drop (i * t.size + us.length)).toArray) hg hbk hin hsz (by rw [hH]; exact ⟨rfl, rfl, by simp, .inr hf⟩)
  have hne' : ¬ ((l.set i y).isEmpty = true) := by simp; exact hl
  have hnew : ∀ (j : Nat) x, (l.set i y)[j]? = some x → ∃ zs, RelX C.w t x zs [] ∧ ∀ m u, zs[m]? = some u → (cur.toList.take (i * t.size) ++ us ++ cur.toList.drop (i * t.size + us.length)).toArray[j * t.size + m]? = some u := by
    intro j x hx
    rw [List.getElem?_set] at hx
    by_cases hij : i = j
    · subst hij
      rw [if_pos rfl, if_pos hi] at hx
      cases hx
      refine ⟨us, hy.flat _ hf, fun m u hm => ?_⟩
      have hm' : m < us.length := (List.getElem?_eq_some_iff.1 hm).1
      rw [List.getElem?_toArray, List.append_assoc, List.getElem?_append_right (by simp; omega), List.getElem?_append_left (by simp; omega)]
      simp only [List.length_take, Array.length_toList]
      rw [show i * t.size + m - min (i * t.size) cur.size = m by omega]
      exact hm
    · rw [if_neg hij] at hx
      obtain ⟨zs, c1, c2⟩ := hel j x hx
      refine ⟨zs, c1, fun m u hm => ?_⟩
      have hm' : m < t.size := by rw [← c1.len]; exact (List.getElem?_eq_some_iff.1 hm).1
      have hcur := c2 m u hm
      rw [List.getElem?_toArray, List.append_assoc]
      rcases Nat.lt_or_gt_of_ne hij with h | h
      · -- i < j
        have : (i + 1) * t.size ≤ j * t.size := Nat.mul_le_mul_right _ h
        rw [Nat.add_mul] at this
        rw [List.getElem?_append_right (by simp; omega), List.getElem?_append_right (by simp; omega)]
        simp only [List.length_take, Array.length_toList, List.getElem?_drop]
        rw [show i * t.size + us.length + (j * t.size + m - min (i * t.size) cur.size - us.length) = j * t.size + m by omega]
        simpa using hcur
      · have : (j + 1) * t.size ≤ i * t.size := Nat.mul_le_mul_right _ h
        rw [Nat.add_mul] at this
        rw [List.getElem?_append_left (by simp; omega), List.getElem?_take, if_pos (by omega)]
        simpa using hcur
  have hown : C.own o = [] := by
    unfold ElemsOk at h2
    split at h2
    · obtain ⟨ss, b1, b2, b3⟩ := h2
      rw [b1, List.flatten_eq_nil_iff]
      intro s hs
      obtain ⟨m, hm, rfl⟩ := List.mem_iff_getElem.1 hs
      have hm' : m < l.length := by omega
      obtain ⟨zs, c1, _⟩ := b3 m _ (List.getElem?_eq_getElem hm')
      have := c1.flat hf
      rwa [List.getD_eq_getElem?_getD, List.getElem?_eq_getElem hm] at this
    · exact h2.1
  refine hk _ _ ?_ hto rfl (by simp [RelA])
  refine hg.one o hto.ext (fun p h => by simp [upd_ne _ _ h]) (fun _ _ => rfl) (fun _ _ => rfl) (fun p hp b hb => setRow_other _ _ _ _ (fun e => by subst e; exact hg.dj p o _ hp hb hin)) (fun _ h => h) (fun _ h => h) (by simp) ?_ ?_ ?_ ?_
  · simp only [upd_same, ObjOk, ArrOk]
    refine .inr ⟨by simpa using hne', _, tid, setRow_heap _ _ _ _ _ _ hbk, ?_⟩
    unfold ElemsOk
    split
    · refine ⟨List.replicate (l.set i y).length [], by simp [hown], by simp, fun j x hx => ?_⟩
      obtain ⟨zs, c1, c2⟩ := hnew j x hx
      have hj : j < (l.set i y).length := (List.getElem?_eq_some_iff.1 hx).1
      refine ⟨zs, ?_, c2⟩
      rw [List.getD_eq_getElem?_getD, List.getElem?_replicate, if_pos hj]
      exact c1.mono fun b hb => by cases hb
    · refine ⟨hown, fun j x hx => ?_⟩
      obtain ⟨zs, c1, c2⟩ := hnew j x hx
      exact ⟨zs, (c1.toD (fun b hb => by cases hb)).mono (fun _ h => h) (fun b hb => hto.ext.heap b (.inl hb)), c2⟩
  · intro b hb
    simp only [blks, upd_same] at hb
    rw [if_neg hne', hown] at hb
    simp only [List.mem_singleton] at hb
    subst hb
    obtain ⟨a1, a2, a3, a4⟩ := hg.low o _ hin
    exact ⟨a1, by simpa using a2, a3, a4⟩
  · simp only [blks, upd_same]
    rw [if_neg hne', hown]; simp
  · intro p hp b hb
    simp only [blks, upd_same] at hb
    rw [if_neg hne', hown] at hb
    simp only [List.mem_singleton] at hb
    subst hb
    exact fun h => hg.dj p o _ hp h hin
/-- A number is stored in a slice that stands in an element of ours. -/
theorem so_iput (hT : TbOk P T) (hg : Good base C) (hk : ∀ v u, k v u = some r → Kont base C a dst next v u) {t : TypeId} {ti : TI} (hti : TiOk P t ti) {x y : Operand} {ys : List AV} (hys : RelL C ys (a.eval y).cells.toList) (h2 : ∀ u ∈ (a.eval y).cells.toList, u.oneCell' = true) (hsz : (a.eval y).cells.size = ti.size)
    {o ver i c j : Nat} (hr : IptrOk C o ver i c j (a.eval x)) (h : iputC C.H o ver i c j ys k = some r) :
    ∃ ad w', a.eval x = .pointer (some ad) ∧ (storeVar t ad (a.eval y)).run P C.w = .ok () w' ∧ next (a.put dst undef) w' := by
  unfold iputC at h
  split at h <;> try (cases h; done)
  rename_i T' l cur dp hH
  split at h <;> try (cases h; done)
  rename_i hv
  subst hv
  split at h <;> try (cases h; done)
  rename_i hd
  subst hd
  split at h <;> try (cases h; done)
  rename_i k1 m k2 yv hsl
  split at h <;> try (cases h; done)
  rename_i hkk
  subst hkk
  simp only [IptrOk, hH] at hr
  obtain ⟨_, hr | ⟨_, hp, hf, hi, b, n, cap, hcell, hj, hval⟩⟩ := hr
  · omega
  have hl : l ≠ [] := by intro e; subst e; simp at hi
  have hne : ¬ (l.isEmpty = true) := by simpa using hl
  have hob := hg.ob o
  rw [hH] at hob
  simp only [ObjOk, ArrOk] at hob
  rcases hob with hob | ⟨_, cs, tid, hc, hel⟩
  · exact absurd hob.1 hl
  unfold ElemsOk at hel
  rw [if_pos rfl] at hel
  obtain ⟨ss, s1, s2, s3⟩ := hel
  have hbl : blks C o = C.blk o :: C.own o := by simp only [blks, hH, if_neg hne]
  have hgd : l.getD i T'.dflt = l[i] := by rw [List.getD_eq_getElem?_getD, List.getElem?_eq_getElem hi]; rfl
  rw [hgd] at hsl h
  obtain ⟨us, u1, u2⟩ := s3 i _ (List.getElem?_eq_getElem hi)
  obtain ⟨v, v1, v2⟩ := u1.slAt hsl
  have hv := u2 c v v1
  rw [cell_of_cells hc, hv] at hcell
  cases hcell
  rcases v2 with ⟨_, A, hA⟩ | ⟨hm, b', cap', cs1, tid1, hA, hb1, hb2, hb3⟩
  · cases hA; omega
  cases hA
  have hbo : b ∈ C.own o := by rw [s1]; exact getD_mem_flatten hb3
  have hnd := hg.nd o
  rw [hbl] at hnd
  have hbne : b ≠ C.blk o := fun e => (List.nodup_cons.1 hnd).1 (by rw [← e]; exact hbo)
  have hyv : (a.eval y).cells.toList = [.int k1 yv] := by
    obtain ⟨u, e1, e2⟩ := hys.one
    rw [e1]
    simp only [RelA] at e2
    rw [e2]
  have hys1 : (a.eval y).cells.size = 1 := by rw [← Array.length_toList, hyv]; rfl
  have hrun := run_store_ti hti (off := j) (v := a.eval y) hb1 hsz (by omega) h2
  rw [hyv] at hrun
  generalize hcs' : (cs1.toList.take j ++ [Value.int k1 yv] ++ cs1.toList.drop (j + [Value.int k1 yv].length)).toArray = cs' at hrun
  have hcs : ∀ q, cs'[q]? = if q = j then some (.int k1 yv) else cs1[q]? := by
    intro q
    have hset : cs1.toList.take j ++ [Value.int k1 yv] ++ cs1.toList.drop (j + 1) = cs1.toList.set j (.int k1 yv) := by
      rw [List.set_eq_take_append_cons_drop, if_pos (by simp; omega)]; simp
    rw [← hcs']
    simp only [List.length_singleton]
    rw [hset]
    simp only [List.getElem?_toArray, List.getElem?_set, Array.length_toList, Array.getElem?_toList]
    by_cases hq : j = q
    · subst hq; simp; omega
    · rw [if_neg hq, if_neg (fun e => hq e.symm)]
  have hszc : cs'.size = cs1.size := by rw [← hcs']; simp; omega
  have hlow := hg.low o b (by rw [hbl]; exact List.mem_cons_of_mem _ hbo)
  have hother : ∀ q, q ≠ b → (C.w.setRow b cs').heap[q]? = C.w.heap[q]? := fun q h => setRow_other _ _ _ _ h
  have hsame : ∀ q, q ≠ o → ∀ p ∈ blks C q, (C.w.setRow b cs').heap[p]? = C.w.heap[p]? := fun q hq p hp => hother p (fun e => by subst e; exact hg.dj q o p hq hp (by rw [hbl]; exact List.mem_cons_of_mem _ hbo))
  have hto : To base C { C with H := upd C.H o (.arr T' (l.set i (slSet T' c l[i] j yv)) cur true), w := C.w.setRow b cs' } := by
    refine ⟨⟨fun _ h => h, fun _ h => h, fun q hq => hother q (fun e => ?_), fun q => ?_⟩, by simp, setRow_below hlow.1 _, fun _ h => .inl h, fun _ h => h⟩
    · subst e
      rcases hq with h | h
      · exact hlow.2.2.1 h
      · exact hlow.2.2.2 h
    · by_cases hq : q = o
      · subst hq
        simp only [ObjExt, upd_same, hH]
        exact .inr ⟨trivial, trivial, by simp, fun _ => ⟨trivial, fun cs0 tid0 h0 => ⟨cs0, by rw [hother _ (fun e => hbne e.symm)]; exact h0, rfl⟩, fun _ hf => ⟨hf, .of_heap (hother _ (fun e => hbne e.symm))⟩⟩⟩
      · exact ObjExt.same (by simp [upd_ne _ _ hq]) rfl (hsame q hq)
  refine ⟨_, _, hval, hrun, ?_⟩
  have hne' : ¬ ((l.set i (slSet T' c l[i] j yv)).isEmpty = true) := by simp; exact hl
  refine hk _ _ h _ _ ?_ hto rfl (by simp [RelA])
  refine hg.one o hto.ext (fun p h => by simp [upd_ne _ _ h]) (fun _ _ => rfl) (fun _ _ => rfl) hsame (fun _ h => h) (fun _ h => h) (by simp) ?_ ?_ ?_ ?_
  · simp only [upd_same, ObjOk, ArrOk]
    refine .inr ⟨by simpa using hne', cs, tid, by show (C.w.setRow b cs').heap[C.blk o]? = _; rw [hother _ (fun e => hbne e.symm)]; exact hc, ?_⟩
    unfold ElemsOk
    rw [if_pos rfl]
    have hfn : ss.flatten.Nodup := by rw [← s1]; exact (List.nodup_cons.1 hnd).2
    refine ⟨ss, s1, by simpa using s2, fun q z hz => ?_⟩
    rw [List.getElem?_set] at hz
    by_cases hq : i = q
    · subst hq
      rw [if_pos rfl, if_pos hi] at hz
      cases hz
      refine ⟨us, ?_, u2⟩
      have hsn : (ss.getD i []).Nodup := by
        rw [List.getD_eq_getElem?_getD, List.getElem?_eq_getElem (by omega)]
        exact hfn.sublist (List.sublist_flatten_of_mem (List.getElem_mem _))
      exact RelX.slSet hb1 (setRow_heap _ _ _ _ _ _ hb1) hszc hcs hother hsl u1 hsn v1 (by omega)
    · rw [if_neg hq] at hz
      obtain ⟨us', w1, w2⟩ := s3 q z hz
      exact ⟨us', w1.mono fun p hp => hother p (fun e => by subst e; exact flat_apart hfn hq hb3 hp), w2⟩
  · intro p hp
    have hp' : p ∈ blks C o := by
      simp only [blks, upd_same] at hp
      rw [if_neg hne'] at hp
      rw [hbl]; exact hp
    obtain ⟨a1, a2, a3, a4⟩ := hg.low o p hp'
    exact ⟨a1, by simpa using a2, a3, a4⟩
  · simp only [blks, upd_same]
    rw [if_neg hne']; exact hnd
  · intro q hq p hp
    simp only [blks, upd_same] at hp
    rw [if_neg hne', ← hbl] at hp
    exact fun h => hg.dj q o p hq h hp
/-- A whole element with slices is stored. -/
theorem so_wput (hg : Good base C) (hk : ∀ v u, k v u = some r → Kont base C a dst next v u) {p j : Nat} {d : Ty} {l : List d.D} {cur : Nat} {dp : Bool} {ys : List AV} {us : List Value} {cs : Array Value} {tid : TypeId} (hH : C.H p = .arr d l cur dp) (hj : j < l.length)
    (hbk : C.w.heap[C.blk p]? = some (.cells cs tid (0, 0))) (hys : RelL C ys us) (h : wputC C.H p j d l cur dp ys k = some r) :
    next (a.put dst undef) (C.w.setRow (C.blk p) (cs.toList.take (j * d.size) ++ us ++ cs.toList.drop (j * d.size + us.length)).toArray) := by
  unfold wputC at h
  split at h <;> try (cases h; done)
  rename_i hd
  subst hd
  split at h <;> try (cases h; done)
  rename_i hcur
  subst hcur
  split at h <;> try (cases h; done)
  rename_i y ids hX
  split at h <;> try (cases h; done)
  rename_i hnb
  split at h <;> try (cases h; done)
  rename_i hpi
  have hpi : p ∉ ids := by simpa using hpi
  obtain ⟨x1, x2⟩ := toX_rel hg hX hys
  have hlen := x1.len
  have hl : l ≠ [] := by intro e; subst e; simp at hj
  have hne : ¬ (l.isEmpty = true) := by simpa using hl
  have hob := hg.ob p
  rw [hH] at hob
  simp only [ObjOk, ArrOk] at hob
  rcases hob with hob | ⟨_, cs0, tid0, hc, hel⟩
  · exact absurd hob.1 hl
  rw [hbk] at hc
  cases hc
  unfold ElemsOk at hel
  rw [if_pos rfl] at hel
  obtain ⟨ss, s1, s2, s3⟩ := hel
  have hbl : blks C p = C.blk p :: C.own p := by simp only [blks, hH, if_neg hne]
  have hroom : j * d.size + d.size ≤ cs.size := by
    obtain ⟨zs, c1, c2⟩ := s3 j _ (List.getElem?_eq_getElem hj)
    have hz := c1.len
    have hp := d.size_pos
    have := (Array.getElem?_eq_some_iff.1 (c2 (d.size - 1) _ (List.getElem?_eq_getElem (by omega)))).1
    omega
  obtain ⟨k1, k2⟩ := cells_set (n := d.size) (i := j) (cur := cs.toList) hlen (by simpa using hroom)
  generalize hcs' : (cs.toList.take (j * d.size) ++ us ++ cs.toList.drop (j * d.size + us.length)).toArray = cs' at k1 k2
  have hszc : cs'.size = cs.size := by rw [← hcs']; simp [hlen]; omega
  -- the objects that are let go
  have hnh : ∀ o ∈ ids, C.H o ≠ .hole := fun o ho => by obtain ⟨_, _, _, _, e⟩ := x2 o ho; rw [e]; simp
  have hgd := Good.drop hg ids
  have hfr := Free.drop hg (nodupB_nodup hnb)
  have hpc : ¬ (ids.contains p = true) := by simpa using hpi
  have hH1 : (C.drop ids).H p = .arr d l 0 true := by simp only [Cx.drop, if_neg hpc, hH]
  have hbl1 : blks (C.drop ids) p = C.blk p :: C.own p := by rw [blks_drop, if_neg hpc, hbl]
  have hnd := hg.nd p
  rw [hbl] at hnd
  have hlow := hg.low p (C.blk p) (by rw [hbl]; simp)
  have hdj : ∀ b ∈ ids.flatMap (blks C), b ∉ blks C p := by
    intro b hb hbp
    obtain ⟨o, ho, hob⟩ := List.mem_flatMap.1 hb
    exact hg.dj o p b (fun e => by subst e; exact hpi ho) hob hbp
  obtain ⟨f1, f2⟩ := flat_set (ss := ss) (j := j) (S := ids.flatMap (blks C)) (by rw [← s1]; exact (List.nodup_cons.1 hnd).2) hfr.1 (fun b hb h => hdj b hb (by rw [hbl, s1]; exact List.mem_cons_of_mem _ h))
  have hother : ∀ q, q ≠ C.blk p → (C.w.setRow (C.blk p) cs').heap[q]? = C.w.heap[q]? := fun q h => setRow_other _ _ _ _ h
  have hsame : ∀ q, q ≠ p → ∀ b ∈ blks (C.drop ids) q, (C.w.setRow (C.blk p) cs').heap[b]? = C.w.heap[b]? := fun q hq b hb => hother b (fun e => by
    subst e
    exact hgd.dj q p _ hq hb (by rw [hbl1]; simp))
  let C' : Cx := { C.drop ids with H := upd (C.drop ids).H p (.arr d (l.set j y) 0 true), own := upd C.own p (ss.set j (ids.flatMap (blks C))).flatten, w := C.w.setRow (C.blk p) cs' }
  have hext : Ext (C.drop ids) C' := by
    refine ⟨fun _ h => h, fun _ h => h, fun q hq => hother q (fun e => ?_), fun q => ?_⟩
    · subst e
      rcases hq with h | h
      · exact hlow.2.2.1 h
      · exact hlow.2.2.2 h
    · by_cases hq : q = p
      · subst hq
        simp only [ObjExt, C', upd_same, hH1]
        refine .inr ⟨trivial, trivial, by simp, fun _ => ⟨trivial, fun cs0 tid0 h0 => ?_, fun h => by omega⟩⟩
        have h0' : C.w.heap[C.blk q]? = some (.cells cs0 tid0 (0, 0)) := h0
        rw [hbk] at h0'
        cases h0'
        exact ⟨cs', setRow_heap _ _ _ _ _ _ hbk, hszc⟩
      · exact ObjExt.same (by simp [C', upd_ne _ _ hq]) rfl (hsame q hq)
  have hto : To base C C' := (To.drop base C ids).trans ⟨hext, by show C.w.heap.size ≤ (C.w.setRow (C.blk p) cs').heap.size; simp, setRow_below hlow.1 _, fun _ h => .inl h, fun _ h => h⟩
  have hne' : ¬ ((l.set j y).isEmpty = true) := by simp; exact hl
  have hbl' : blks C' p = C.blk p :: (ss.set j (ids.flatMap (blks C))).flatten := by
    simp only [blks, C', upd_same, if_neg hne']; rfl
  have hin : ∀ b ∈ blks C' p, b ∈ blks C p ∨ b ∈ ids.flatMap (blks C) := by
    intro b hb
    rw [hbl'] at hb
    rw [hbl]
    rcases List.mem_cons.1 hb with h | h
    · exact .inl (by rw [h]; simp)
    · rcases f2 b h with h | h
      · exact .inl (by rw [s1]; exact List.mem_cons_of_mem _ h)
      · exact .inr h
  refine hk _ _ h C' _ ?_ hto ?_ (by simp [RelA])
  · refine hgd.one p hext (fun q h => by simp [C', upd_ne _ _ h]) (fun _ _ => rfl) (fun q h => by simp [C', upd_ne _ _ h, Cx.drop]) hsame (fun _ h => h) (fun _ h => h) (by show C.w.heap.size ≤ (C.w.setRow (C.blk p) cs').heap.size; simp) ?_ ?_ ?_ ?_
    · show ObjOk C' p (upd (C.drop ids).H p (.arr d (l.set j y) 0 true) p)
      rw [upd_same]
      simp only [ObjOk, ArrOk]
      refine .inr ⟨by simpa using hne', cs', tid, setRow_heap _ _ _ _ _ _ hbk, ?_⟩
      unfold ElemsOk
      rw [if_pos rfl]
      refine ⟨ss.set j (ids.flatMap (blks C)), by simp [C'], by simpa using s2, fun q z hz => ?_⟩
      have hq' : q < l.length := by have := (List.getElem?_eq_some_iff.1 hz).1; simpa using this
      rw [List.getElem?_set] at hz
      by_cases hq : j = q
      · subst hq
        rw [if_pos rfl, if_pos hj] at hz
        cases hz
        refine ⟨us, ?_, k1⟩
        rw [List.getD_eq_getElem?_getD, List.getElem?_set, if_pos rfl, if_pos (by omega)]
        exact x1.mono fun b hb => hother b (fun e => by subst e; exact hdj _ hb (by rw [hbl]; simp))
      · rw [if_neg hq] at hz
        obtain ⟨us', w1, w2⟩ := s3 q z hz
        refine ⟨us', ?_, fun m u hm => k2 q m u hq (by rw [← w1.len]; exact (List.getElem?_eq_some_iff.1 hm).1) (by simpa using w2 m u hm)⟩
        rw [List.getD_eq_getElem?_getD, List.getElem?_set, if_neg hq, ← List.getD_eq_getElem?_getD]
        exact w1.mono fun b hb => hother b (fun e => by subst e; exact (List.nodup_cons.1 hnd).1 (by rw [s1]; exact getD_mem_flatten hb))
    · intro b hb
      rcases hin b hb with h | h
      · obtain ⟨a1, a2, a3, a4⟩ := hg.low p b h
        exact ⟨a1, by show b < (C.w.setRow (C.blk p) cs').heap.size; simpa using a2, a3, a4⟩
      · obtain ⟨a1, a2, a3, a4, _⟩ := hfr.2 b h
        have a2' : b < C.w.heap.size := a2
        exact ⟨a1, by show b < (C.w.setRow (C.blk p) cs').heap.size; simpa using a2', a3, a4⟩
    · rw [hbl']
      refine List.nodup_cons.2 ⟨fun h => ?_, f1⟩
      rcases f2 _ h with h | h
      · exact (List.nodup_cons.1 hnd).1 (by rw [s1]; exact h)
      · exact hdj _ h (by rw [hbl]; simp)
    · intro q hq b hb hb2
      rcases hin b hb with h | h
      · exact hgd.dj q p b hq hb2 (by rw [hbl1, ← hbl]; exact h)
      · exact (hfr.2 b h).2.2.2.2 q hb2
  · show upd (C.drop ids).H p (.arr d (l.set j y) 0 true) = _
    rw [updU_append, ← drop_H hnh]
    rfl
theorem RelX.fld {C : Cx} {w : World} : ∀ {t : Ty} {c : Nat} {x : t.D} {v : AV} {z : t.D} {us : List Value} {S : List Nat} {u : Value}, fldSet t c x v = some z → RelX w t x us S → RelA C v u →
    RelX w t z (us.set c u) S ∧ c < us.length ∧ ∀ A n k, us[c]? ≠ some (.slice A n k)
  | .int k, c, x, v, z, us, S, u, h, hr, hv => by
    cases v <;> simp only [fldSet] at h <;> try (cases h; done)
    rename_i k' n
    split at h <;> try (cases h; done)
    rename_i hc
    split at h <;> try (cases h; done)
    rename_i hk
    subst hc hk
    cases h
    simp only [RelX] at hr
    simp only [RelA] at hv
    obtain ⟨rfl, rfl⟩ := hr
    subst hv
    exact ⟨⟨rfl, rfl⟩, by simp, fun A n k h => by simp at h⟩
  | .bool, c, x, v, z, us, S, u, h, hr, hv => by
    simp only [fldSet] at h
    split at h <;> try (cases h; done)
    rename_i hc
    subst hc
    simp only [RelX] at hr
    obtain ⟨rfl, rfl⟩ := hr
    have := boolOf_rel hv h
    subst this
    exact ⟨⟨rfl, rfl⟩, by simp, fun A n k h => by simp at h⟩
  | .str, _, _, _, _, _, _, _, h, _, _ => by simp only [fldSet] at h; cases h
  | .sl _, _, _, _, _, _, _, _, h, _, _ => by simp only [fldSet] at h; cases h
  | .pr a b, c, x, v, z, us, S, u, h, hr, hv => by
    simp only [fldSet] at h
    simp only [RelX] at hr
    obtain ⟨va, vb, Sa, Sb, rfl, rfl, h1, h2⟩ := hr
    have hl := h1.len
    split at h
    · rename_i hc
      split at h <;> try (cases h; done)
      rename_i y hy
      cases h
      obtain ⟨g1, g2, g3⟩ := RelX.fld hy h1 hv
      refine ⟨?_, by simp; omega, fun A n k => by rw [List.getElem?_append_left g2]; exact g3 A n k⟩
      simp only [RelX]
      exact ⟨va.set c u, vb, Sa, Sb, List.set_append_left _ _ g2, rfl, g1, h2⟩
    · rename_i hc
      split at h <;> try (cases h; done)
      rename_i y hy
      cases h
      obtain ⟨g1, g2, g3⟩ := RelX.fld hy h2 hv
      rw [← hl] at g1 g2 g3 hc
      refine ⟨?_, by simp; omega, fun A n k => by rw [List.getElem?_append_right (by omega)]; exact g3 A n k⟩
      simp only [RelX]
      exact ⟨va, vb.set (c - va.length) u, Sa, Sb, List.set_append_right _ _ (by omega), rfl, h1, g1⟩
/-- A flat field of an element is stored. -/
theorem so_fput (hg : Good base C) (hk : ∀ v u, k v u = some r → Kont base C a dst next v u) {p j off : Nat} {d : Ty} {l : List d.D} {cur : Nat} {dp : Bool} {ys : List AV} {us : List Value} {cs : Array Value} {tid : TypeId} (hH : C.H p = .arr d l cur dp) (hj : j < l.length)
    (hbk : C.w.heap[C.blk p]? = some (.cells cs tid (0, 0))) (hys : RelL C ys us) (h : fputC p j off d l cur dp ys k = some r) :
    j * d.size + off + us.length ≤ cs.size ∧ next (a.put dst undef) (C.w.setRow (C.blk p) (cs.toList.take (j * d.size + off) ++ us ++ cs.toList.drop (j * d.size + off + us.length)).toArray) := by
  unfold fputC at h
  split at h <;> try (cases h; done)
  rename_i hd
  subst hd
  split at h <;> try (cases h; done)
  rename_i y
  split at h <;> try (cases h; done)
  rename_i z hz
  obtain ⟨u, rfl, hyu⟩ := hys.one
  have hl : l ≠ [] := by intro e; subst e; simp at hj
  have hne : ¬ (l.isEmpty = true) := by simpa using hl
  have hob := hg.ob p
  rw [hH] at hob
  simp only [ObjOk, ArrOk] at hob
  rcases hob with hob | ⟨_, cs0, tid0, hc, hel⟩
  · exact absurd hob.1 hl
  rw [hbk] at hc
  cases hc
  unfold ElemsOk at hel
  rw [if_pos rfl] at hel
  obtain ⟨ss, s1, s2, s3⟩ := hel
  have hbl : blks C p = C.blk p :: C.own p := by simp only [blks, hH, if_neg hne]
  have hgd : l.getD j d.dflt = l[j] := by rw [List.getD_eq_getElem?_getD, List.getElem?_eq_getElem hj]; rfl
  rw [hgd] at hz
  obtain ⟨vs, c1, c2⟩ := s3 j _ (List.getElem?_eq_getElem hj)
  obtain ⟨f1, f2, f3⟩ := RelX.fld hz c1 hyu
  have hlen := c1.len
  have hold := c2 off _ (List.getElem?_eq_getElem f2)
  have hroom : j * d.size + off < cs.size := (Array.getElem?_eq_some_iff.1 hold).1
  refine ⟨by simp; omega, ?_⟩
  generalize hcs' : (cs.toList.take (j * d.size + off) ++ [u] ++ cs.toList.drop (j * d.size + off + [u].length)).toArray = cs'
  have hcs : ∀ q, cs'[q]? = if q = j * d.size + off then some u else cs[q]? := by
    intro q
    have hset : cs.toList.take (j * d.size + off) ++ [u] ++ cs.toList.drop (j * d.size + off + 1) = cs.toList.set (j * d.size + off) u := by
      rw [List.set_eq_take_append_cons_drop, if_pos (by simpa using hroom)]; simp
    rw [← hcs']
    simp only [List.length_singleton]
    rw [hset]
    simp only [List.getElem?_toArray, List.getElem?_set, Array.length_toList, Array.getElem?_toList]
    by_cases hq : j * d.size + off = q
    · subst hq; simp; omega
    · rw [if_neg hq, if_neg (fun e => hq e.symm)]
  have hszc : cs'.size = cs.size := by rw [← hcs']; simp; omega
  have hnd := hg.nd p
  rw [hbl] at hnd
  have hlow := hg.low p (C.blk p) (by rw [hbl]; simp)
  have hother : ∀ q, q ≠ C.blk p → (C.w.setRow (C.blk p) cs').heap[q]? = C.w.heap[q]? := fun q h => setRow_other _ _ _ _ h
  have hrow : (C.w.setRow (C.blk p) cs').heap[C.blk p]? = some (.cells cs' tid (0, 0)) := setRow_heap _ _ _ _ _ _ hbk
  have hkeep : SlKeep C.w (C.w.setRow (C.blk p) cs') (C.blk p) := by
    intro q A n k' hq
    rw [cell_of_cells hbk] at hq
    rw [cell_of_cells hrow, hcs, if_neg (fun e => by subst e; rw [hold] at hq; exact f3 A n k' (by rw [List.getElem?_eq_getElem f2]; exact hq))]
    exact hq
  have hsame : ∀ q, q ≠ p → ∀ b ∈ blks C q, (C.w.setRow (C.blk p) cs').heap[b]? = C.w.heap[b]? := fun q hq b hb => hother b (fun e => by
    subst e
    exact hg.dj q p _ hq hb (by rw [hbl]; simp))
  have hto : To base C { C with H := upd C.H p (.arr d (l.set j z) cur true), w := C.w.setRow (C.blk p) cs' } := by
    refine ⟨⟨fun _ h => h, fun _ h => h, fun q hq => hother q (fun e => ?_), fun q => ?_⟩, by simp, setRow_below hlow.1 _, fun _ h => .inl h, fun _ h => h⟩
    · subst e
      rcases hq with h | h
      · exact hlow.2.2.1 h
      · exact hlow.2.2.2 h
    · by_cases hq : q = p
      · subst hq
        simp only [ObjExt, upd_same, hH]
        refine .inr ⟨trivial, trivial, by simp, fun _ => ⟨trivial, fun cs0 tid0 h0 => ?_, fun _ hf => ⟨hf, hkeep⟩⟩⟩
        rw [hbk] at h0
        cases h0
        exact ⟨cs', hrow, hszc⟩
      · exact ObjExt.same (by simp [upd_ne _ _ hq]) rfl (hsame q hq)
  have hne' : ¬ ((l.set j z).isEmpty = true) := by simp; exact hl
  refine hk _ _ h _ _ ?_ hto rfl (by simp [RelA])
  refine hg.one p hto.ext (fun q h => by simp [upd_ne _ _ h]) (fun _ _ => rfl) (fun _ _ => rfl) hsame (fun _ h => h) (fun _ h => h) (by simp) ?_ ?_ ?_ ?_
  · simp only [upd_same, ObjOk, ArrOk]
    refine .inr ⟨by simpa using hne', cs', tid, hrow, ?_⟩
    unfold ElemsOk
    rw [if_pos rfl]
    refine ⟨ss, s1, by simpa using s2, fun q x hx => ?_⟩
    have hmono : ∀ {x : d.D} {ws : List Value}, RelX C.w d x ws (ss.getD q []) → RelX (C.w.setRow (C.blk p) cs') d x ws (ss.getD q []) := fun hw => hw.mono fun b hb => hother b (fun e => by
      subst e
      exact (List.nodup_cons.1 hnd).1 (by rw [s1]; exact getD_mem_flatten hb))
    rw [List.getElem?_set] at hx
    by_cases hq : j = q
    · subst hq
      rw [if_pos rfl, if_pos hj] at hx
      cases hx
      refine ⟨vs.set off u, hmono f1, fun m v hm => ?_⟩
      rw [List.getElem?_set] at hm
      rw [hcs]
      by_cases ho : off = m
      · subst ho
        rw [if_pos rfl, if_pos f2] at hm
        rw [if_pos rfl]; exact hm
      · rw [if_neg ho] at hm
        rw [if_neg (by omega)]
        exact c2 m v hm
    · rw [if_neg hq] at hx
      obtain ⟨ws, w1, w2⟩ := s3 q x hx
      refine ⟨ws, hmono w1, fun m v hm => ?_⟩
      have hml : m < d.size := by have := (List.getElem?_eq_some_iff.1 hm).1; rw [w1.len] at this; exact this
      rw [hcs, if_neg (fun e => ?_)]
      · exact w2 m v hm
      · rcases Nat.lt_or_gt_of_ne hq with c | c
        · have := Nat.mul_le_mul_right d.size (show j + 1 ≤ q from c)
          rw [Nat.succ_mul] at this
          omega
        · have := Nat.mul_le_mul_right d.size (show q + 1 ≤ j from c)
          rw [Nat.succ_mul] at this
          omega
  · intro b hb
    have hb' : b ∈ blks C p := by
      simp only [blks, upd_same] at hb
      rw [if_neg hne'] at hb
      rw [hbl]; exact hb
    obtain ⟨a1, a2, a3, a4⟩ := hg.low p b hb'
    exact ⟨a1, by simpa using a2, a3, a4⟩
  · simp only [blks, upd_same]
    rw [if_neg hne']; exact hnd
  · intro q hq b hb
    simp only [blks, upd_same] at hb
    rw [if_neg hne', ← hbl] at hb
    exact fun h => hg.dj q p b hq h hb
theorem exec_store {ρ : Operand → Value} {t : TypeId} {x y : Operand} {ad : Addr} {w w' : World} (hx : ρ x = .pointer (some ad)) (hr : (storeVar t ad (ρ y)).run P w = .ok () w') : (execOp ρ (Oper.mk dst (.store t x y) type pos after guard)).run P w = .ok .skip w' := by
  simp [execOp, Instr.storeAt, hx, Instr.sureAddr, hr]
theorem so_store (hT : TbOk P T) (hg : Good base C) (ht : Tmps C tv a) (hk : ∀ v u, k v u = some r → Kont base C a dst next v u) {t : TypeId} {x y : Operand}
    (h : (match T.ty t, cellsO (opnd tv y) with
    | some i, some ys => if ys.length = i.size then match opnd tv x with
      | .bptr p off => match C.H p with
        | .box cells => if off + i.size ≤ cells.length then k .top [(p, .box (putCells cells off ys))] else none
        | _ => none
      | .eptr p ver j off => match C.H p with
        | .arr d l cur dp => if cur = ver then (if off = 0 then (if i.size = d.size then (if d.flat = true then (match toD d ys with
          | some y => k .top [(p, .arr d (l.set j y) cur dp)]
          | none => none) else wputC C.H p j d l cur dp ys k) else fputC p j off d l cur dp ys k) else fputC p j off d l cur dp ys k) else none
        | _ => none
      | .iptr p ver i c j => iputC C.H p ver i c j ys k
      | _ => none else none
    | _, _ => none) = some r) : (Oper.mk dst (.store t x y) type pos after guard).wp P a C.w next Q := by
  split at h <;> try (cases h; done)
  rename_i i ys hi hys
  have hti := hT.ty t i hi
  obtain ⟨h1, h2⟩ := cellsO_rel (opnd_rel ht y) hys
  split at h <;> try (cases h; done)
  rename_i hlen
  have hsz : (a.eval y).cells.size = i.size := by rw [← hlen, h1.len]; simp
  have hr := opnd_rel ht x
  split at h <;> try (cases h; done)
  · rename_i p off hx
    split at h <;> try (cases h; done)
    rename_i cells hH
    split at h <;> try (cases h; done)
    rename_i hroom
    rw [hx] at hr
    simp only [RelA, BptrOk, hH] at hr
    have hob := hg.ob p
    rw [hH] at hob
    simp only [ObjOk] at hob
    obtain ⟨cur, tid, hb, hone, hrel⟩ := hob
    have hl := hrel.len
    have hrun := run_store_ti hti (off := off) (v := a.eval y) hb hsz (by rw [hsz]; simp at hl; omega) h2
    refine wp_skipped (exec_store hr.2 hrun) ?_
    refine so_store_box hg hH hb ?_ ?_ ?_ (hk _ _ h)
    · have := hsz; simp at hl ⊢; omega
    · simpa using hrel.put h1 (by omega)
    · intro u hu
      rcases List.mem_append.1 hu with hu | hu
      · rcases List.mem_append.1 hu with hu | hu
        · exact hone u (List.mem_of_mem_take hu)
        · exact h2 u hu
      · exact hone u (List.mem_of_mem_drop hu)
  · rename_i p ver j off hx
    split at h <;> try (cases h; done)
    rename_i d l cur dp hH
    split at h <;> try (cases h; done)
    rename_i hv
    subst hv
    rw [hx] at hr
    simp only [RelA, EptrOk, hH] at hr
    obtain ⟨_, hr | ⟨_, hj, hr⟩⟩ := hr
    · omega
    have hl : l ≠ [] := by intro e; subst e; simp at hj
    have hob := hg.ob p
    rw [hH] at hob
    simp only [ObjOk, ArrOk] at hob
    rcases hob with hob | ⟨_, cs, tid, hb, hel⟩
    · exact absurd hob.1 hl
    have hfld : fputC p j off d l cur dp ys k = some r → (Oper.mk dst (.store t x y) type pos after guard).wp P a C.w next Q := by
      intro h
      obtain ⟨g1, g2⟩ := so_fput hg hk hH hj hb h1 h
      have hrun := run_store_ti hti (off := j * d.size + off) (v := a.eval y) hb hsz (by simpa using g1) h2
      exact wp_skipped (exec_store hr hrun) g2
    split at h
    case isFalse => exact hfld h
    rename_i ho
    subst ho
    split at h
    case isFalse => exact hfld h
    rename_i hs
    have hroom : j * d.size + d.size ≤ cs.size := by
      have key : ∃ zs : List Value, zs.length = d.size ∧ ∀ m u, zs[m]? = some u → cs[j * d.size + m]? = some u := by
        unfold ElemsOk at hel
        split at hel
        · obtain ⟨ss, b1, b2, b3⟩ := hel
          obtain ⟨zs, c1, c2⟩ := b3 j _ (List.getElem?_eq_getElem hj)
          exact ⟨zs, c1.len, c2⟩
        · obtain ⟨zs, c1, c2⟩ := hel.2 j _ (List.getElem?_eq_getElem hj)
          exact ⟨zs, c1.len, c2⟩
      obtain ⟨zs, c1, c2⟩ := key
      have hp := d.size_pos
      have hlt : d.size - 1 < zs.length := by omega
      have := (Array.getElem?_eq_some_iff.1 (c2 (d.size - 1) _ (List.getElem?_eq_getElem hlt))).1
      omega
    have hrun := run_store_ti hti (off := j * d.size + 0) (v := a.eval y) hb hsz (by rw [hsz]; omega) h2
    refine wp_skipped (exec_store hr hrun) ?_
    split at h
    · rename_i hf
      split at h <;> try (cases h; done)
      rename_i yv hy
      have hD := toD_rel hy h1
      exact so_store_arr (dst := dst) (next := next) (a := a) hg hH hj hf hb hD (hk _ _ h)
    · exact so_wput hg hk hH hj hb h1 h
  · rename_i p ver i' c j hx
    rw [hx] at hr
    simp only [RelA] at hr
    obtain ⟨ad, w', e1, e2, e3⟩ := so_iput hT hg hk hti h1 h2 hsz hr h
    exact wp_skipped (exec_store e1 e2) e3
end
end Go.Proofs.YthanbjnpfenniaaDoor.Fw

/- The abstract interpreter: values, heap, operations, code. Plain definitions. -/
import Derived.Calls
import Derived.Orders
import Derived.KernelRfl
set_option linter.unusedVariables false
namespace Go.Ab

/-- An address: in the world at the begin, or in a block that is made since. -/
inductive Ref where
  | old (a : Addr)
  | new (i off : Nat)
  deriving DecidableEq

def Ref.add : Ref → Nat → Ref
  | .old a, n => .old (a.add n)
  | .new i o, n => .new i (o + n)

/-- A slice's room: known, or all that lies behind in its block, elements of so many cells. -/
inductive Cap where
  | is (c : Nat)
  | opn (size : Nat)
  deriving DecidableEq

/-- A value. A slice's room: known, or all that lies behind in its block. -/
inductive AV where
  | bool (b : Bool)
  | int (k : IntKind) (n : Int)
  | str (s : ByteArray)
  | ptr (r : Option Ref)
  | slice (r : Option Ref) (len : Nat) (cap : Cap)
  | map (r : Option Nat)
  | func (fn : Fn) (first captured : List AV)
  | nilFunc
  | iface (t : TypeId) (v : AV)
  | nilIface
  | agg (cs : List AV)
  | tup (vs : List AV)

structure Sl where
  ref : Option Ref
  len : Nat
  cap : Cap
  deriving DecidableEq

def Sl.v (s : Sl) : AV := .slice s.ref s.len s.cap

namespace AV
def asInt (k : IntKind) : AV → Option Int
  | .int k' n => cond (decide (k' = k)) (some n) none
  | _ => none
def asBool : AV → Option Bool
  | .bool b => some b
  | _ => none
def asStr : AV → Option ByteArray
  | .str s => some s
  | _ => none
def asPtr : AV → Option (Option Ref)
  | .ptr r => some r
  | _ => none
def asSl : AV → Option Sl
  | .slice r n c => some ⟨r, n, c⟩
  | _ => none
def asMap : AV → Option (Option Nat)
  | .map r => some r
  | _ => none
def asAgg : AV → Option (List AV)
  | .agg cs => some cs
  | _ => none
/-- One cell's worth. -/
def one : AV → Bool
  | .agg _ | .tup _ => false
  | _ => true
def asTup0 : AV → Option Unit
  | .tup [] => some ()
  | _ => none
def asTup2 : AV → Option (AV × AV)
  | .tup [a, b] => some (a, b)
  | _ => none
def asTup3 : AV → Option (AV × AV × AV)
  | .tup [a, b, c] => some (a, b, c)
  | _ => none
def asTup4 : AV → Option (AV × AV × AV × AV)
  | .tup [a, b, c, d] => some (a, b, c, d)
  | _ => none
/-- A cell of the world at the begin. -/
def ofCell : Value → Option AV
  | .bool b => some (.bool b)
  | .int k n => some (.int k n)
  | .string s => some (.str s)
  | .pointer none => some (.ptr none)
  | .pointer (some a) => some (.ptr (some (.old a)))
  | .slice none n c => cond (Nat.beq n 0 && Nat.beq c 0) (some (.slice none 0 (.is 0))) none
  | .slice (some a) n c => cond (Nat.ble n c) (some (.slice (some (.old a)) n (.is c))) none
  | .map none => some (.map none)
  | .nilFunc => some .nilFunc
  | .nilIface => some .nilIface
  | _ => none
def ofCells : List Value → Option (List AV)
  | [] => some []
  | v :: vs => match ofCell v, ofCells vs with
    | some x, some xs => some (x :: xs)
    | _, _ => none
/-- A constant, or an argument. -/
def ofValue : Value → Option AV
  | .agg cs => (ofCells cs.toList).map .agg
  | .tuple cs => (ofCells cs.toList).map .tup
  | v => ofCell v
end AV

structure AEnt where
  key : AV
  val : AV
  born : Nat

/-- A frame's known slots. -/
abbrev Fr := List (Nat × AV)

inductive ABlk where
  | cells (cs : List AV) (elem : TypeId)
  | map (es : List AEnt) (clock : Nat)
  | loop (state : LoopState) (pending : Option Code) (fn : FuncId) (fr : Fr) (params : Array Tmp) (assign body : Code) (defers : Nat)
  | deferred
  | dead

structure AH where
  old : Array Obj
  blks : Array ABlk

def AH.cell (h : AH) : Ref → Option AV
  | .old a => match h.old[a.block]? with
    | some (.cells c _ _) => if a.spot.isSome then none else (c[a.off]?).bind AV.ofCell
    | _ => none
  | .new i o => match h.blks[i]? with
    | some (.cells cs _) => cs[o]?
    | _ => none

def AH.put (h : AH) (r : Ref) (v : AV) : Option AH :=
  match r with
  | .old _ => none
  | .new i o => match h.blks[i]? with
    | some (.cells cs e) => if o < cs.length then some { h with blks := h.blks.setIfInBounds i (.cells (cs.set o v) e) } else none
    | _ => none

def AH.puts (h : AH) (r : Ref) : List AV → Option AH
  | [] => some h
  | v :: vs => (h.put r v).bind fun h' => h'.puts (r.add 1) vs

def AH.gets (h : AH) (r : Ref) : Nat → Option (List AV)
  | 0 => some []
  | n + 1 => (h.cell r).bind fun v => (h.gets (r.add 1) n).map (v :: ·)

def AH.getsO (h : AH) (r : Option Ref) (n : Nat) : Option (List AV) :=
  match r with
  | some r => h.gets r n
  | none => some []

@[reducible] def AH.alloc (h : AH) (b : ABlk) : AH := { h with blks := h.blks.push b }
@[reducible] def AH.next (h : AH) : Ref := .new h.blks.size 0
def AH.kill (h : AH) : Option Ref → AH
  | some (.new i _) => { h with blks := h.blks.setIfInBounds i .dead }
  | _ => h

namespace Fr
def get : Fr → Nat → Option AV
  | [], _ => none
  | (s, v) :: r, t => cond (Nat.beq s t) (some v) (get r t)
def keep (fr : Fr) : List Nat → Fr
  | [] => []
  | t :: ts => match get fr t with
    | some v => (t, v) :: keep fr ts
    | none => keep fr ts
end Fr

def evO (fr : Fr) : Operand → Option AV
  | .tmp t => fr.get t
  | .const v => AV.ofValue v
  | .global g => some (.ptr (some (.old ⟨g, 0, none⟩)))
  | .func f => some (.func (.func f) [] [])

def evs (fr : Fr) : List Operand → Option (List AV)
  | [] => some []
  | x :: xs => match evO fr x, evs fr xs with
    | some v, some vs => some (v :: vs)
    | _, _ => none

/-! ### Kinds of cells -/
inductive Leaf where
  | int (k : IntKind) | bool | str | slice | ptr | map | any

def leafOf : TypeDesc → Option Leaf
  | .int k => some (.int k)
  | .bool => some .bool
  | .string => some .str
  | .slice _ => some .slice
  | .pointer _ => some .ptr
  | .map _ _ => some .map
  | .func .. => some .any
  | .interface _ => some .any
  | _ => none

def repL (l : List Leaf) : Nat → List Leaf
  | 0 => []
  | n + 1 => l ++ repL l n

def leaves (P : Program) : Nat → TypeId → Option (List Leaf)
  | 0, _ => none
  | d + 1, t => match P.underlying t with
    | some (.struct fs) => fs.toList.foldr (fun f acc => match leaves P d f.type, acc with
        | some l, some r => some (l ++ r)
        | _, _ => none) (some [])
    | some (.array n e) => (leaves P d e).map fun l => repL l n
    | some x => (leafOf x).map fun l => [l]
    | none => none

def isAggD : TypeDesc → Bool
  | .struct _ | .array _ _ => true
  | _ => false

section
variable {R : Type}

def leafK (l : Leaf) (x : Option AV) (k : AV → Option R) : Option R :=
  match l with
  | .int kd => (x.bind (AV.asInt kd)).bind fun n => k (.int kd n)
  | .bool => (x.bind AV.asBool).bind fun b => k (.bool b)
  | .str => (x.bind AV.asStr).bind fun s => k (.str s)
  | .slice => (x.bind AV.asSl).bind fun s => k (.slice s.ref s.len s.cap)
  | .ptr => (x.bind AV.asPtr).bind fun r => k (.ptr r)
  | .map => (x.bind AV.asMap).bind fun r => k (.map r)
  | .any => x.bind k

def leavesK (get : Nat → Option AV) : List Leaf → Nat → (List AV → Option R) → Option R
  | [], _, k => k []
  | l :: ls, i, k => leafK l (get i) fun v => leavesK get ls (i + 1) fun vs => k (v :: vs)

/-- A variable's value. -/
def loadK (P : Program) (t : TypeId) (r : Ref) (h : AH) (k : AV → Option R) : Option R :=
  match P.underlying t with
  | some d => cond (isAggD d)
      (match leaves P 20 t with
       | some ls => cond (Nat.beq ls.length (P.cellsOf t)) (leavesK (fun i => h.cell (r.add i)) ls 0 fun vs => k (.agg vs)) none
       | none => none)
      (match leafOf d with
       | some l => leafK l (h.cell r) k
       | none => none)
  | none => none

/-- A value of a type, in plain sight. -/
def seeK (P : Program) (t : TypeId) (v : AV) (k : AV → Option R) : Option R :=
  match P.underlying t with
  | some d => cond (isAggD d)
      (match leaves P 20 t with
       | some ls => v.asAgg.bind fun cs => cond (Nat.beq cs.length ls.length) (leavesK (fun i => cs[i]?) ls 0 fun vs => k (.agg vs)) none
       | none => none)
      (match leafOf d with
       | some l => leafK l (some v) k
       | none => none)
  | none => none

/-- What a call answers, in plain sight. -/
def answerK (P : Program) (t : TypeId) (v : AV) (k : AV → Option R) : Option R :=
  match P.underlying t with
  | some (.tuple ts) => match ts.toList with
    | [] => (v.asTup0).bind fun _ => k (.tup [])
    | [a, b] => (v.asTup2).bind fun p => seeK P a p.1 fun x => seeK P b p.2 fun y => k (.tup [x, y])
    | [a, b, c] => (v.asTup3).bind fun p => seeK P a p.1 fun x => seeK P b p.2.1 fun y => seeK P c p.2.2 fun z => k (.tup [x, y, z])
    | [a, b, c, d] => (v.asTup4).bind fun p => seeK P a p.1 fun x => seeK P b p.2.1 fun y => seeK P c p.2.2.1 fun z => seeK P d p.2.2.2 fun u => k (.tup [x, y, z, u])
    | _ => none
  | _ => seeK P t v k

/-- The cells of a value that is stored as a variable of type t. -/
def cellsK (P : Program) (t : TypeId) (v : AV) (k : List AV → Option R) : Option R :=
  match P.underlying t with
  | some d => cond (isAggD d) (v.asAgg.bind fun cs => cond (Nat.beq cs.length (P.cellsOf t)) (k cs) none) (cond (Nat.beq (P.cellsOf t) 1) (cond v.one (k [v]) none) none)
  | none => none

/-! ### Numbers -/
def iand (k : IntKind) (a b : Int) : Int := k.wrap ((BitVec.ofInt k.bits a &&& BitVec.ofInt k.bits b).toNat : Int)
def ior (k : IntKind) (a b : Int) : Int := k.wrap ((BitVec.ofInt k.bits a ||| BitVec.ofInt k.bits b).toNat : Int)
def ixor (k : IntKind) (a b : Int) : Int := k.wrap ((BitVec.ofInt k.bits a ^^^ BitVec.ofInt k.bits b).toNat : Int)
def iandNot (k : IntKind) (a b : Int) : Int := k.wrap ((BitVec.ofInt k.bits a &&& ~~~ BitVec.ofInt k.bits b).toNat : Int)
def ishl (k : IntKind) (a b : Int) : Int := k.wrap (a * 2 ^ (min b.toNat k.bits))
def ishr (k : IntKind) (a b : Int) : Int := a.fdiv (2 ^ (min b.toNat k.bits))

def intK (op : BinOp) (kd : IntKind) (a b : Int) (k : AV → Option R) : Option R :=
  match op with
  | .add => k (.int kd (kd.wrap (a + b)))
  | .sub => k (.int kd (kd.wrap (a - b)))
  | .mul => k (.int kd (kd.wrap (a * b)))
  | .quo => cond (decide (b = 0)) none (k (.int kd (kd.wrap (a.tdiv b))))
  | .rem => cond (decide (b = 0)) none (k (.int kd (a.tmod b)))
  | .and => k (.int kd (iand kd a b))
  | .or => k (.int kd (ior kd a b))
  | .xor => k (.int kd (ixor kd a b))
  | .andNot => k (.int kd (iandNot kd a b))
  | .eql => k (.bool (decide (a = b)))
  | .neq => k (.bool (!decide (a = b)))
  | .lss => k (.bool (decide (a < b)))
  | .leq => k (.bool (decide (a ≤ b)))
  | .gtr => k (.bool (decide (a > b)))
  | .geq => k (.bool (decide (a ≥ b)))
  | .shl | .shr => none

/-- Equality of two cells. -/
def eqCell : AV → AV → Option Bool
  | .int k a, .int k' b => cond (decide (k = k')) (some (decide (a = b))) none
  | .bool a, .bool b => some (a == b)
  | .str a, .str b => some (a.toList == b.toList)
  | .slice r _ _, .slice none _ _ => some r.isNone
  | .ptr r, .ptr none => some r.isNone
  | .map r, .map none => some r.isNone
  | .nilFunc, .nilFunc => some true
  | .func _ _ _, .nilFunc => some false
  | _, _ => none

def fits : AV → TypeDesc → Bool
  | .slice _ _ _, .slice _ => true
  | .ptr _, .pointer _ => true
  | .map _, .map _ _ => true
  | .nilFunc, .func _ _ _ => true
  | .func _ _ _, .func _ _ _ => true
  | .bool _, .bool => true
  | .int _ _, .int _ => true
  | .str _, .string => true
  | _, _ => false

/-- Cells off.. of a struct or array, as a value of type t. -/
def partA (P : Program) (t : TypeId) (cs : List AV) (off : Nat) : Option AV :=
  match P.underlying t with
  | some d => cond (isAggD d) (cond (Nat.ble (off + P.cellsOf t) cs.length) (some (.agg ((cs.drop off).take (P.cellsOf t)))) none) cs[off]?
  | none => none

def eqFs (P : Program) (eq : TypeId → AV → AV → Option Bool) (xs ys : List AV) : List Field → Option Bool
  | [] => some true
  | f :: fs => cond (f.name == "_") none ((partA P f.type xs f.offset).bind fun a => (partA P f.type ys f.offset).bind fun b => (eq f.type a b).bind fun r => (eqFs P eq xs ys fs).map fun s => r && s)

def eqIs (P : Program) (eq : AV → AV → Option Bool) (e : TypeId) (xs ys : List AV) : List Nat → Option Bool
  | [] => some true
  | i :: is => (partA P e xs (i * P.cellsOf e)).bind fun a => (partA P e ys (i * P.cellsOf e)).bind fun b => (eq a b).bind fun r => (eqIs P eq e xs ys is).map fun s => r && s

def isStr : AV → Bool
  | .str _ => true
  | _ => false

/-- Equality. -/
def eqD (P : Program) : Nat → TypeId → AV → AV → Option Bool
  | 0, _, _, _ => none
  | d + 1, t, x, y => match P.underlying t with
    | some (.struct fs) => match x, y with
      | .agg xs, .agg ys => cond (P.stoodInHeld t) none (eqFs P (eqD P d) xs ys fs.toList)
      | _, _ => none
    | some (.array n e) => match P.underlying e, x, y with
      | some _, .agg xs, .agg ys => eqIs P (eqD P d e) e xs ys (List.range n)
      | _, _, _ => none
    | some dd => cond (isStr x) none (cond (fits x dd) (eqCell x y) none)
    | none => none

def eqAV (P : Program) (t : TypeId) (x y : AV) : Option Bool :=
  match x, y with
  | .agg _, .agg _ => cond (P.eqGuardType P.depth t) none (eqD P 20 t x y)
  | x, y => match P.underlying t with
    | some d => cond (isAggD d) none (cond (fits x d) (eqCell x y) none)
    | none => none

def binK (P : Program) (op : BinOp) (t : TypeId) (x y : AV) (k : AV → Option R) : Option R :=
  match op, x, y with
  | .shl, .int kd a, .int _ b => cond (decide (b < 0)) none (k (.int kd (ishl kd a b)))
  | .shr, .int kd a, .int _ b => cond (decide (b < 0)) none (k (.int kd (ishr kd a b)))
  | op, .int kd a, .int kd' b => cond (decide (kd = kd')) (intK op kd a b k) none
  | .eql, x, y => (eqAV P t x y).bind fun b => k (.bool b)
  | .neq, x, y => (eqAV P t x y).bind fun b => k (.bool (!b))
  | _, _, _ => none

def unK (op : UnOp) (x : AV) (k : AV → Option R) : Option R :=
  match op, x with
  | .neg, .int kd n => k (.int kd (kd.wrap (0 - n)))
  | .xor, .int kd n => k (.int kd (ixor kd (cond kd.signed (-1) kd.max) n))
  | .not, .bool b => k (.bool (!b))
  | _, _ => none

/-! ### Parts, slices -/
def splice (cells : List AV) (off : Nat) (vs : List AV) : List AV := cells.take off ++ vs ++ cells.drop (off + vs.length)

/-- place: where part i lies, its type. -/
def fillK (P : Program) (place : Nat → Option (Nat × TypeId)) : List (Nat × AV) → List AV → (List AV → Option R) → Option R
  | [], cells, k => k cells
  | (i, v) :: rest, cells, k => match place i with
    | none => none
    | some (off, t) => cellsK P t v fun cs => cond (Nat.ble (off + cs.length) cells.length) (fillK P place rest (splice cells off cs) k) none

def zeroCells? (P : Program) (t : TypeId) : Option (List AV) :=
  match P.info? t with
  | some i => match i.zero with
    | some z => AV.ofCells z.cells.toList
    | none => none
  | none => none

def repC (l : List AV) : Nat → List AV
  | 0 => []
  | n + 1 => l ++ repC l n

def idx (r : Option Ref) (len : Nat) (i : Int) (size : Nat) : Option Ref :=
  match r with
  | some r => cond (decide (0 ≤ i ∧ i < (len : Int))) (some (r.add (i.toNat * size))) none
  | none => none

/-- x[l:h]. -/
def cutSl (s : Sl) (l h : Int) (size : Nat) : Option Sl :=
  match s.cap with
  | .is c => cond (decide (0 ≤ l ∧ l ≤ h ∧ h ≤ (c : Int)))
      (some { ref := if c = l.toNat then s.ref else s.ref.map (·.add (l.toNat * size)), len := h.toNat - l.toNat, cap := .is (c - l.toNat) }) none
  | .opn sz => cond (Nat.beq sz size) (cond (decide (0 ≤ l ∧ l ≤ h ∧ h ≤ (s.len : Int)))
      (some { ref := s.ref.map (·.add (l.toNat * size)), len := h.toNat - l.toNat, cap := .opn sz }) none) none

/-- x[l:h:m]. -/
def cutSl3 (s : Sl) (l h m : Int) (size : Nat) : Option Sl :=
  match s.cap with
  | .is c => cond (decide (0 ≤ l ∧ l ≤ h ∧ h ≤ m ∧ m ≤ (c : Int)))
      (some { ref := if m.toNat = l.toNat then s.ref else s.ref.map (·.add (l.toNat * size)), len := h.toNat - l.toNat, cap := .is (m.toNat - l.toNat) }) none
  | .opn _ => cond (decide (0 = l ∧ h = 0 ∧ m = 0)) (some { ref := s.ref, len := 0, cap := .is 0 }) none

/-- The bytes that may be asked for. -/
def mostBytes : Nat := 70368744177664

/-- May a slice grow to so many elements? -/
def growOk (P : Program) (need : Nat) (elem : TypeId) (size : Nat) : Bool :=
  decide (need * P.bytesOf elem ≤ mostBytes ∧ need ≤ mostBytes) && (match zeroCells? P elem with | some zs => Nat.beq zs.length size | none => false)

/-- append: the elements' cells. -/
def appendH (P : Program) (s : Sl) (cs : List AV) (n : Nat) (elem : TypeId) (size : Nat) (h : AH) : Option (AV × AH) :=
  match s.cap with
  | .is c => cond (Nat.ble (s.len + n) c)
      (match s.ref with
       | some r => (h.puts (r.add (s.len * size)) cs).bind fun h' => some (.slice (some r) (s.len + n) (.is c), h')
       | none => some (.slice none 0 (.is 0), h))
      (cond (growOk P (s.len + n) elem size)
        ((h.getsO s.ref (s.len * size)).bind fun old => some (.slice (some h.next) (s.len + n) (.opn size), h.alloc (.cells (old ++ cs) elem))) none)
  | .opn sz => cond (Nat.beq n 0) (some (.slice s.ref s.len (.opn sz), h))
      (cond (Nat.beq sz size && growOk P (s.len + n) elem size)
        (match s.ref with
         | some (.new i o) => match h.blks[i]? with
           | some (.cells bs e) => cond (Nat.beq e elem)
               ((h.getsO s.ref (s.len * size)).bind fun old => some (.slice (some h.next) (s.len + n) (.opn size), (h.kill s.ref).alloc (.cells (old ++ cs) elem))) none
           | _ => none
         | _ => none) none)
end

end Go.Ab

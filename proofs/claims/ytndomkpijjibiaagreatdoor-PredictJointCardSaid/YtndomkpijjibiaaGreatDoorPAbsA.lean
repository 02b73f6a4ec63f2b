/- Words and laws that the last text joins. -/
import Derived.Calls
import Derived.Orders
import Derived.KernelRfl
import Derived.Laws.Append
import Derived.Laws.CopyRow
import Derived.RangeFuncRecord
import Derived.WalkSpells
import Derived.ChangeKeysEq
import Derived.Laws.StructEq
import Derived.Laws.Tables
import Derived.Laws.MakeOwn
import Derived.Laws.BitsLemmas
set_option linter.unusedVariables false
set_option linter.unusedSimpArgs false
set_option linter.unusedSectionVars false
namespace Go.Ab
inductive Ref where
 | old (a:Addr)
 | new (i off:Nat)
 deriving DecidableEq
def Ref.add:Ref→Nat→Ref
 | .old a,n=>.old (a.add n)
 | .new i o,n=>.new i (o+n)
inductive Cap where
 | is (c:Nat)
 | opn (size:Nat)
 deriving DecidableEq
inductive AV where
 | bool (b:Bool)
 | int (k:IntKind) (n:Int)
 | str (s:ByteArray)
 | ptr (r:Option Ref)
 | slice (r:Option Ref) (len:Nat) (cap:Cap)
 | map (r:Option Nat)
 | func (fn:Fn) (first captured:List AV)
 | nilFunc
 | iface (t:TypeId) (v:AV)
 | nilIface
 | agg (cs:List AV)
 | tup (vs:List AV)
structure Sl where
 ref:Option Ref
 len:Nat
 cap:Cap
 deriving DecidableEq
def Sl.v(s:Sl):AV:=.slice s.ref s.len s.cap
namespace AV
def asInt(k:IntKind):AV→Option Int
 | .int k' n=>cond (decide (k'=k)) (some n) none
 | _=>none
def asBool:AV→Option Bool
 | .bool b=>some b
 | _=>none
def asStr:AV→Option ByteArray
 | .str s=>some s
 | _=>none
def asPtr:AV→Option (Option Ref)
 | .ptr r=>some r
 | _=>none
def asSl:AV→Option Sl
 | .slice r n c=>some ⟨r,n,c⟩
 | _=>none
def asMap:AV→Option (Option Nat)
 | .map r=>some r
 | _=>none
def asAgg:AV→Option (List AV)
 | .agg cs=>some cs
 | _=>none
def one:AV→Bool
 | .agg _ | .tup _=>false
 | _=>true
def asTup0:AV→Option Unit
 | .tup []=>some ()
 | _=>none
def asTup2:AV→Option (AV×AV)
 | .tup [a,b]=>some (a,b)
 | _=>none
def asTup3:AV→Option (AV×AV×AV)
 | .tup [a,b,c]=>some (a,b,c)
 | _=>none
def asTup4:AV→Option (AV×AV×AV×AV)
 | .tup [a,b,c,d]=>some (a,b,c,d)
 | _=>none
def asIface:AV→Option (TypeId×AV)
 | .iface t v=>some (t,v)
 | _=>none
def ofCell:Value→Option AV
 | .bool b=>some (.bool b)
 | .int k n=>some (.int k n)
 | .string s=>some (.str s)
 | .pointer none=>some (.ptr none)
 | .pointer (some a)=>some (.ptr (some (.old a)))
 | .slice none n c=>cond (Nat.beq n 0&&Nat.beq c 0) (some (.slice none 0 (.is 0))) none
 | .slice (some a) n c=>cond (Nat.ble n c) (some (.slice (some (.old a)) n (.is c))) none
 | .map none=>some (.map none)
 | .nilFunc=>some .nilFunc
 | .nilIface=>some .nilIface
 | _=>none
def ofCells:List Value→Option (List AV)
 | []=>some []
 | v::vs=>match ofCell v,ofCells vs with
  | some x,some xs=>some (x::xs)
  | _,_=>none
def ofValue:Value→Option AV
 | .agg cs=>(ofCells cs.toList).map .agg
 | .tuple cs=>(ofCells cs.toList).map .tup
 | v=>ofCell v
end AV
structure AEnt where
 key:AV
 val:AV
 born:Nat
abbrev Fr:=List (Nat×AV)
inductive ABlk where
 | cells (cs:List AV) (elem:TypeId)
 | map (es:List AEnt) (clock:Nat)
 | loop (state:LoopState) (pending:Option Code) (fn:FuncId) (fr:Fr) (params:Array Tmp) (assign body:Code) (defers:Nat)
 | iter (m:Option Nat) (since:Nat) (seen:List Nat) (last:Nat)
 | dead
structure AH where
 old:Array Obj
 blks:Array ABlk
def AH.cell(h:AH):Ref→Option AV
 | .old a=>match h.old[a.block]? with
  | some (.cells c _ _)=>if a.spot.isSome then none else(c[a.off]?).bind AV.ofCell
  | _=>none
 | .new i o=>match h.blks[i]? with
  | some (.cells cs _)=>cs[o]?
  | _=>none
def AH.put(h:AH)(r:Ref)(v:AV):Option AH :=
 match r with
 | .old _=>none
 | .new i o=>match h.blks[i]? with
  | some (.cells cs e)=>if o<cs.length then some {h with blks:=h.blks.setIfInBounds i (.cells (cs.set o v) e)}else none
  | _=>none
def AH.puts(h:AH)(r:Ref):List AV→Option AH
 | []=>some h
 | v::vs=>(h.put r v).bind fun h'=>h'.puts (r.add 1) vs
def AH.gets(h:AH)(r:Ref):Nat→Option (List AV)
 | 0=>some []
 | n+1=>(h.cell r).bind fun v=>(h.gets (r.add 1) n).map (v :: ·)
def AH.getsO(h:AH)(r:Option Ref)(n:Nat):Option (List AV) :=
 match r with
 | some r=>h.gets r n
 | none=>some []
@[reducible] def AH.alloc(h:AH)(b:ABlk):AH:={h with blks:=h.blks.push b}
@[reducible] def AH.next(h:AH):Ref:=.new h.blks.size 0
def AH.kill(h:AH):Option Ref→AH
 | some (.new i _)=>{h with blks:=h.blks.setIfInBounds i .dead}
 | _=>h
namespace Fr
def get:Fr→Nat→Option AV
 | [],_=>none
 | (s,v)::r,t=>cond (Nat.beq s t) (some v) (get r t)
def keep(fr:Fr):List Nat→Fr
 | []=>[]
 | t::ts=>match get fr t with
  | some v=>(t,v)::keep fr ts
  | none=>keep fr ts
end Fr
def evO(fr:Fr):Operand→Option AV
 | .tmp t=>fr.get t
 | .const v=>AV.ofValue v
 | .global g=>some (.ptr (some (.old ⟨g,0,none⟩)))
 | .func f=>some (.func (.func f) [] [])
def evs(fr:Fr):List Operand→Option (List AV)
 | []=>some []
 | x::xs=>match evO fr x,evs fr xs with
  | some v,some vs=>some (v::vs)
  | _,_=>none
inductive Leaf where
 | int (k:IntKind) | bool | str | slice | ptr | map | any
def leafOf:TypeDesc→Option Leaf
 | .int k=>some (.int k)
 | .bool=>some .bool
 | .string=>some .str
 | .slice _=>some .slice
 | .pointer _=>some .ptr
 | .map _ _=>some .map
 | .func ..=>some .any
 | .interface _=>some .any
 | _=>none
def repL(l:List Leaf):Nat→List Leaf
 | 0=>[]
 | n+1=>l++repL l n
def leaves(P:Program):Nat→TypeId→Option (List Leaf)
 | 0,_=>none
 | d+1,t=>match P.underlying t with
  | some (.struct fs)=>fs.toList.foldr (fun f acc=>match leaves P d f.type,acc with
    | some l,some r=>some (l++r)
    | _,_=>none) (some [])
  | some (.array n e)=>(leaves P d e).map fun l=>repL l n
  | some x=>(leafOf x).map fun l=>[l]
  | none=>none
def isIfcD:TypeDesc→Bool
 | .interface _=>true
 | _=>false
def isAggD:TypeDesc→Bool
 | .struct _ | .array _ _=>true
 | _=>false
section
variable{R:Type}
def leafK(l:Leaf)(x:Option AV)(k:AV→Option R):Option R :=
 match l with
 | .int kd=>(x.bind (AV.asInt kd)).bind fun n=>k (.int kd n)
 | .bool=>(x.bind AV.asBool).bind fun b=>k (.bool b)
 | .str=>(x.bind AV.asStr).bind fun s=>k (.str s)
 | .slice=>(x.bind AV.asSl).bind fun s=>k (.slice s.ref s.len s.cap)
 | .ptr=>(x.bind AV.asPtr).bind fun r=>k (.ptr r)
 | .map=>(x.bind AV.asMap).bind fun r=>k (.map r)
 | .any=>x.bind k
def kdb(get:Nat→Option AV):List Leaf→Nat→(List AV→Option R)→Option R
 | [],_,k=>k []
 | l::ls,i,k=>leafK l (get i) fun v=>kdb get ls (i+1) fun vs=>k (v::vs)
def loadK(P:Program)(t:TypeId)(r:Ref)(h:AH)(k:AV→Option R):Option R :=
 match P.underlying t with
 | some d=>cond (isAggD d)
   (match leaves P 20 t with
    | some ls=>cond (Nat.beq ls.length (P.cellsOf t)) (kdb (fun i=>h.cell (r.add i)) ls 0 fun vs=>k (.agg vs)) none
    | none=>none)
   (match leafOf d with
    | some l=>leafK l (h.cell r) k
    | none=>none)
 | none=>none
def seeK(P:Program)(t:TypeId)(v:AV)(k:AV→Option R):Option R :=
 match P.underlying t with
 | some d=>cond (isAggD d)
   (match leaves P 20 t with
    | some ls=>v.asAgg.bind fun cs=>cond (Nat.beq cs.length ls.length) (kdb (fun i=>cs[i]?) ls 0 fun vs=>k (.agg vs)) none
    | none=>none)
   (match leafOf d with
    | some l=>leafK l (some v) k
    | none=>none)
 | none=>none
def kfv(P:Program)(t:TypeId)(v:AV)(k:AV→Option R):Option R :=
 match P.underlying t with
 | some (.tuple ts)=>match ts.toList with
  | []=>(v.asTup0).bind fun _=>k (.tup [])
  | [a,b]=>(v.asTup2).bind fun p=>seeK P a p.1 fun x=>seeK P b p.2 fun y=>k (.tup [x,y])
  | [a,b,c]=>(v.asTup3).bind fun p=>seeK P a p.1 fun x=>seeK P b p.2.1 fun y=>seeK P c p.2.2 fun z=>k (.tup [x,y,z])
  | [a,b,c,d]=>(v.asTup4).bind fun p=>seeK P a p.1 fun x=>seeK P b p.2.1 fun y=>seeK P c p.2.2.1 fun z=>seeK P d p.2.2.2 fun u=>k (.tup [x,y,z,u])
  | _=>none
 | _=>seeK P t v k
def cellsK(P:Program)(t:TypeId)(v:AV)(k:List AV→Option R):Option R :=
 match P.underlying t with
 | some d=>cond (isAggD d) (v.asAgg.bind fun cs=>cond (Nat.beq cs.length (P.cellsOf t)) (k cs) none) (cond (Nat.beq (P.cellsOf t) 1) (cond v.one (k [v]) none) none)
 | none=>none
def iand(k:IntKind)(a b:Int):Int:=k.wrap ((BitVec.ofInt k.bits a&&&BitVec.ofInt k.bits b).toNat:Int)
def ior(k:IntKind)(a b:Int):Int:=k.wrap ((BitVec.ofInt k.bits a|||BitVec.ofInt k.bits b).toNat:Int)
def ixor(k:IntKind)(a b:Int):Int:=k.wrap ((BitVec.ofInt k.bits a ^^^ BitVec.ofInt k.bits b).toNat:Int)
def kq6(k:IntKind)(a b:Int):Int:=k.wrap ((BitVec.ofInt k.bits a&&&~~~ BitVec.ofInt k.bits b).toNat:Int)
def ishl(k:IntKind)(a b:Int):Int:=k.wrap (a*2^(min b.toNat k.bits))
def ishr(k:IntKind)(a b:Int):Int:=a.fdiv (2^(min b.toNat k.bits))
def high0:Nat:=0
def high1:Nat:=high0
def high2:Nat:=high1
def high3:Nat:=high2
def condH{A:Type}(b:Bool)(x y:A):A:=(fun(_:Nat)=>match b with
 | true=>x
 | false=>y) high3
def takeH{A B:Type}(o:Option A)(k:A→Option B):Option B:=(fun(_:Nat)=>match o with
 | some a=>k a
 | none=>none) high3
theorem kh9{A B:Type}(o:Option A)(k:A→Option B):takeH o k=o.bind k:=by cases o<;>rfl
theorem kc1{A:Type}(b:Bool)(x y:A):condH b x y=cond b x y:=by cases b<;>rfl
def intK(op:BinOp)(kd:IntKind)(a b:Int)(k:AV→Option R):Option R :=
 match op with
 | .add=>k (.int kd (kd.wrap (a+b)))
 | .sub=>k (.int kd (kd.wrap (a-b)))
 | .mul=>k (.int kd (kd.wrap (a*b)))
 | .quo=>cond (decide (b=0)) none (k (.int kd (kd.wrap (a.tdiv b))))
 | .rem=>cond (decide (b=0)) none (k (.int kd (a.tmod b)))
 | .and=>k (.int kd (iand kd a b))
 | .or=>k (.int kd (ior kd a b))
 | .xor=>k (.int kd (ixor kd a b))
 | .andNot=>k (.int kd (kq6 kd a b))
 | .eql=>k (.bool (decide (a=b)))
 | .neq=>k (.bool (!decide (a=b)))
 | .lss=>k (.bool (decide (a<b)))
 | .leq=>k (.bool (decide (a≤b)))
 | .gtr=>k (.bool (decide (a>b)))
 | .geq=>k (.bool (decide (a≥b)))
 | .shl | .shr=>none
def eqCell:AV→AV→Option Bool
 | .int k a,.int k' b=>cond (decide (k=k')) (some (decide (a=b))) none
 | .bool a,.bool b=>some (a==b)
 | .str a,.str b=>some (a.toList==b.toList)
 | .slice r _ _,.slice none _ _=>some r.isNone
 | .ptr r,.ptr none=>some r.isNone
 | .map r,.map none=>some r.isNone
 | .nilFunc,.nilFunc=>some true
 | .func _ _ _,.nilFunc=>some false
 | _,_=>none
def fits:AV→TypeDesc→Bool
 | .slice _ _ _,.slice _=>true
 | .ptr _,.pointer _=>true
 | .map _,.map _ _=>true
 | .nilFunc,.func _ _ _=>true
 | .func _ _ _,.func _ _ _=>true
 | .bool _,.bool=>true
 | .int _ _,.int _=>true
 | .str _,.string=>true
 | _,_=>false
def partA(P:Program)(t:TypeId)(cs:List AV)(off:Nat):Option AV :=
 match P.underlying t with
 | some d=>cond (isAggD d) (cond (Nat.ble (off+P.cellsOf t) cs.length) (some (.agg ((cs.drop off).take (P.cellsOf t)))) none) cs[off]?
 | none=>none
def eqFs(P:Program)(eq:TypeId→AV→AV→Option Bool)(xs ys:List AV):List Field→Option Bool
 | []=>some true
 | f::fs=>cond (f.name == "_") none ((partA P f.type xs f.offset).bind fun a=>(partA P f.type ys f.offset).bind fun b=>(eq f.type a b).bind fun r=>(eqFs P eq xs ys fs).map fun s=>r&&s)
def eqIs(P:Program)(eq:AV→AV→Option Bool)(e:TypeId)(xs ys:List AV):List Nat→Option Bool
 | []=>some true
 | i::is=>(partA P e xs (i*P.cellsOf e)).bind fun a=>(partA P e ys (i*P.cellsOf e)).bind fun b=>(eq a b).bind fun r=>(eqIs P eq e xs ys is).map fun s=>r&&s
def isStr:AV→Bool
 | .str _=>true
 | _=>false
def eqD(P:Program):Nat→TypeId→AV→AV→Option Bool
 | 0,_,_,_=>none
 | d+1,t,x,y=>match P.underlying t with
  | some (.struct fs)=>match x,y with
   | .agg xs,.agg ys=>cond (P.stoodInHeld t) none (eqFs P (eqD P d) xs ys fs.toList)
   | _,_=>none
  | some (.array n e)=>match P.underlying e,x,y with
   | some _,.agg xs,.agg ys=>eqIs P (eqD P d e) e xs ys (List.range n)
   | _,_,_=>none
  | some dd=>cond (isStr x) none (cond (fits x dd) (eqCell x y) none)
  | none=>none
def eqAV(P:Program)(t:TypeId)(x y:AV):Option Bool :=
 match x,y with
 | .agg _,.agg _=>cond (P.eqGuardType P.depth t) none (eqD P 20 t x y)
 | x,y=>match P.underlying t with
  | some d=>cond (isAggD d) none (cond (fits x d) (eqCell x y) none)
  | none=>none
def binK(P:Program)(op:BinOp)(t:TypeId)(x y:AV)(k:AV→Option R):Option R :=
 match op,x,y with
 | .shl,.int kd a,.int _ b=>condH (decide (b<0)) none (k (.int kd (ishl kd a b)))
 | .shr,.int kd a,.int _ b=>condH (decide (b<0)) none (k (.int kd (ishr kd a b)))
 | op,.int kd a,.int kd' b=>condH (decide (kd=kd')) (intK op kd a b k) none
 | .eql,x,y=>(eqAV P t x y).bind fun b=>k (.bool b)
 | .neq,x,y=>(eqAV P t x y).bind fun b=>k (.bool (!b))
 | _,_,_=>none
def unK(op:UnOp)(x:AV)(k:AV→Option R):Option R :=
 match op,x with
 | .neg,.int kd n=>k (.int kd (kd.wrap (0-n)))
 | .xor,.int kd n=>k (.int kd (ixor kd (cond kd.signed (-1) kd.max) n))
 | .not,.bool b=>k (.bool (!b))
 | _,_=>none
def splice(cells:List AV)(off:Nat)(vs:List AV):List AV:=cells.take off++vs++cells.drop (off+vs.length)
def fillK(P:Program)(place:Nat→Option (Nat×TypeId)):List (Nat×AV)→List AV→(List AV→Option R)→Option R
 | [],cells,k=>k cells
 | (i,v)::rest,cells,k=>match place i with
  | none=>none
  | some (off,t)=>cellsK P t v fun cs=>cond (Nat.ble (off+cs.length) cells.length) (fillK P place rest (splice cells off cs) k) none
def kbs(P:Program)(t:TypeId):Option (List AV) :=
 match P.info? t with
 | some i=>match i.zero with
  | some z=>AV.ofCells z.cells.toList
  | none=>none
 | none=>none
def repC(l:List AV):Nat→List AV
 | 0=>[]
 | n+1=>l++repC l n
def idx(r:Option Ref)(len:Nat)(i:Int)(size:Nat):Option Ref :=
 match r with
 | some r=>cond (decide (0≤i∧i<(len:Int))) (some (r.add (i.toNat*size))) none
 | none=>none
def cutSl(s:Sl)(l h:Int)(size:Nat):Option Sl :=
 match s.cap with
 | .is c=>cond (decide (0≤l∧l≤h∧h≤(c:Int)))
   (some {ref:=if c=l.toNat then s.ref else s.ref.map (·.add (l.toNat*size)),len:=h.toNat-l.toNat,cap:=.is (c-l.toNat)}) none
 | .opn sz=>cond (Nat.beq sz size) (cond (decide (0≤l∧l≤h∧h≤(s.len:Int)))
   (some {ref:=s.ref.map (·.add (l.toNat*size)),len:=h.toNat-l.toNat,cap:=.opn sz}) none) none
def cutSl3(s:Sl)(l h m:Int)(size:Nat):Option Sl :=
 match s.cap with
 | .is c=>cond (decide (0≤l∧l≤h∧h≤m∧m≤(c:Int)))
   (some {ref:=if m.toNat=l.toNat then s.ref else s.ref.map (·.add (l.toNat*size)),len:=h.toNat-l.toNat,cap:=.is (m.toNat-l.toNat)}) none
 | .opn _=>cond (decide (0=l∧h=0∧m=0)) (some {ref:=s.ref,len:=0,cap:=.is 0}) none
def kg:Nat:=70368744177664
def growOk(P:Program)(need:Nat)(elem:TypeId)(size:Nat):Bool :=
 decide (need*P.bytesOf elem≤kg∧need≤kg)&&(match kbs P elem with | some zs=>Nat.beq zs.length size | none=>false)
def kw(P:Program)(s:Sl)(cs:List AV)(n:Nat)(elem:TypeId)(size:Nat)(h:AH):Option (AV×AH) :=
 match s.cap with
 | .is c=>cond (Nat.ble (s.len+n) c)
   (match s.ref with
    | some r=>(h.puts (r.add (s.len*size)) cs).bind fun h'=>some (.slice (some r) (s.len+n) (.is c),h')
    | none=>some (.slice none 0 (.is 0),h))
   (cond (growOk P (s.len+n) elem size)
    ((h.getsO s.ref (s.len*size)).bind fun old=>some (.slice (some h.next) (s.len+n) (.opn size),h.alloc (.cells (old++cs) elem))) none)
 | .opn sz=>cond (Nat.beq n 0) (some (.slice s.ref s.len (.opn sz),h))
   (cond (Nat.beq sz size&&growOk P (s.len+n) elem size)
    (match s.ref with
     | some (.new i o)=>match h.blks[i]? with
      | some (.cells bs e)=>cond (Nat.beq e elem)
        ((h.getsO s.ref (s.len*size)).bind fun old=>some (.slice (some h.next) (s.len+n) (.opn size),(h.kill s.ref).alloc (.cells (old++cs) elem))) none
      | _=>none
     | _=>none) none)
end
end Go.Ab
namespace Go.Ab
inductive Key where
 | fn (f:FuncId) (args:List AV)
 | pt (f:FuncId) (todo:List Item) (fr:Fr)
 | round (l:Nat) (args:List AV)
 | rpt (l:Nat) (f:FuncId) (todo:List Item) (fr:Fr)
abbrev Rec:=Key→AH→Option (AV×AH)
section
variable{R:Type}
def imin(a b:Int):Int:=cond (decide (b<a)) b a
def imax(a b:Int):Int:=cond (decide (a<b)) b a
def prim(name:String)(args:List AV):Option AV :=
 match args with
 | [.int _ x,.int _ y,.int _ c] =>
  cond (name == "math/bits.Add64")
   (cond (decide (0≤x∧0≤y∧0≤c∧c≤1)) (some (.tup [.int .u64 ((x+y+c)%18446744073709551616),.int .u64 ((x+y+c)/18446744073709551616)])) none)
   (cond (name == "math/bits.Sub64")
    (cond (decide (0≤x∧0≤y∧y<18446744073709551616∧0≤c∧c≤1)) (some (.tup [.int .u64 ((x-y-c)%18446744073709551616),.int .u64 (cond (decide (x<y+c)) 1 0)])) none) none)
 | _=>none
def callF(P:Program)(rec:Rec)(f:FuncId)(args:List AV)(h:AH):Option (AV×AH) :=
 match P.funcs[f]? with
 | some fn=>cond (fn.name == "runtime.NumGoroutine") none (match fn.body with
  | some _=>rec (.fn f args) h
  | none=>cond (fn.origin == "") ((prim fn.name args).map fun v=>(v,h)) none)
 | none=>none
def callV(P:Program)(rec:Rec)(v:AV)(args:List AV)(h:AH):Option (AV×AH) :=
 match v with
 | .func (.func f) first captured=>callF P rec f (first++args++captured) h
 | _=>none
def lenK(P:Program)(t:TypeId)(x:AV)(k:AV→Option R):Option R :=
 match P.underlying t,x with
 | some .string,.str s=>k (.int .i64 (s.size:Int))
 | some (.array n _),_=>k (.int .i64 (n:Int))
 | some (.slice _),.slice _ n _=>k (.int .i64 (n:Int))
 | _,_=>none
def kbb(P:Program)(elem:TypeId)(x:AV)(h:AH):Option (List AV×Nat) :=
 match x with
 | .slice r n _=>(h.getsO r (n*P.cellsOf elem)).map fun cs=>(cs,n)
 | _=>none
def copyH(s d:Sl)(size:Nat)(h:AH):Option AH :=
 match d.ref,s.ref with
 | some rd,some rs=>(h.gets rs (min s.len d.len*size)).bind fun cs=>h.puts rd cs
 | _,_=>some h
def ke4(P:Program)(b:Builtin)(ts:List TypeId)(xs:List AV)(h:AH)(k:AV→AH→Option R):Option R :=
 match b,ts,xs with
 | .len,t::_,[x]=>lenK P t x fun v=>k v h
 | .min,_,[.int kd a,.int _ b]=>k (.int kd (imin a b)) h
 | .max,_,[.int kd a,.int _ b]=>k (.int kd (imax a b)) h
 | .append,t::u::_,[.slice r n c,x]=>match P.underlying t,P.underlying u with
  | some (.slice e),some (.slice _)=>cond (P.info? e).isSome ((kbb P e x h).bind fun p =>
    (kw P ⟨r,n,c⟩ p.1 p.2 e (P.cellsOf e) h).bind fun q=>leafK .slice (some q.1) fun v=>k v q.2) none
  | _,_=>none
 | .copy,t::_,[.slice r n c,.slice r' n' c']=>match P.underlying t with
  | some (.slice e)=>cond (P.info? e).isSome ((copyH ⟨r',n',c'⟩ ⟨r,n,c⟩ (P.cellsOf e) h).bind fun h'=>k (.int .i64 ((min n' n:Nat):Int)) h') none
  | _=>none
 | _,_,_=>none
def khm(P:Program)(t:TypeId)(name:String)(v:AV)(h:AH)(k:FuncId→AV→Option R):Option R :=
 match P.info? t with
 | some i=>match i.methods.find? (fun m=>m.name==name)with
  | some m=>cond m.path.isEmpty (match m.func,P.underlying t,v with
   | some (f,true),some (.pointer _),v=>k f v
   | some (f,false),some (.pointer e),.ptr (some r)=>loadK P e r h fun u=>k f u
   | _,_,_=>none) none
  | none=>none
 | none=>none
def callK(P:Program)(rec:Rec)(c:Call)(ty:TypeId)(fr:Fr)(h:AH)(k:AV→AH→Option R):Option R :=
 match evs fr c.args.toList with
 | none=>none
 | some xs=>match c.callee with
  | .builtin b=>ke4 P b c.argTypes.toList xs h k
  | .value f=>match evO fr f with
   | some v=>(callV P rec v xs h).bind fun q=>kfv P ty q.1 fun v=>k v q.2
   | none=>none
  | .invoke r name=>match evO fr r with
   | some v=>v.asIface.bind fun p=>khm P p.1 name p.2 h fun f u=>(callF P rec f (u::xs) h).bind fun q=>kfv P ty q.1 fun v=>k v q.2
   | none=>none
def boundK(fr:Fr)(x:Option Operand)(dflt:Int)(k:Int→Option R):Option R :=
 match x with
 | none=>k dflt
 | some o=>match evO fr o with
  | some (.int _ n)=>k n
  | _=>none
def sliceK(P:Program)(t:TypeId)(x:AV)(fr:Fr)(lo hi mx:Option Operand)(k:AV→Option R):Option R :=
 match P.underlying t,x with
 | some (.slice e),.slice r n c=>boundK fr lo 0 fun l=>boundK fr hi (n:Int) fun hh=>match mx with
  | none=>cond (P.info? e).isSome ((cutSl ⟨r,n,c⟩ l hh (P.cellsOf e)).bind fun s=>k s.v) none
  | some m=>cond ((P.info? e).isSome&&hi.isSome) (boundK fr (some m) 0 fun mm=>(cutSl3 ⟨r,n,c⟩ l hh mm (P.cellsOf e)).bind fun s=>k s.v) none
 | some (.array n e),.ptr (some r)=>boundK fr lo 0 fun l=>boundK fr hi (n:Int) fun hh=>match mx with
  | none=>cond (P.info? e).isSome ((cutSl ⟨some r,n,.is n⟩ l hh (P.cellsOf e)).bind fun s=>k s.v) none
  | some _=>none
 | some .string,.str s=>boundK fr lo 0 fun l=>boundK fr hi (s.size:Int) fun hh=>match mx with
  | none=>cond (decide (0≤l∧l≤hh∧hh≤(s.size:Int))) (k (.str (s.extract l.toNat hh.toNat))) none
  | some _=>none
 | _,_=>none
def kh2(P:Program)(src dst:TypeId)(x:AV)(k:AV→Option R):Option R :=
 match P.underlying src,P.underlying dst,x with
 | some (.int _),some (.int kd),.int _ n=>k (.int kd (kd.wrap n))
 | some .string,some .string,.str s=>k (.str s)
 | _,_,_=>none
def kkc(P:Program)(t:TypeId)(f:Nat):Option Field :=
 match P.underlying t with
 | some (.struct fs)=>fs.toList[f]?
 | _=>none
def kk8(P:Program)(fs:Array Field):Option (List (Nat×Nat)):=fs.toList.mapM fun f=>(P.info? f.type).map fun i=>(f.offset,i.size)
def kbg(l c:Int)(elem:TypeId)(bytes:Nat)(zs:List AV)(h:AH):Option (Sl×AH) :=
 cond (decide (0≤l∧l≤c∧c≤(kg:Int)∧c*bytes≤(kg:Int))) (some (⟨some h.next,l.toNat,.is c.toNat⟩,h.alloc (.cells (repC zs c.toNat) elem))) none
def aggK(P:Program)(t:TypeId)(v:AV)(k:AV→Option R):Option R:=match P.underlying t with
 | some d=>cond (isAggD d) (seeK P t v k) (k v)
 | none=>none
def opK(P:Program)(rec:Rec)(o:Op)(ty:TypeId)(fr:Fr)(h:AH)(k:AV→AH→Option R):Option R :=
 match o with
 | .move x | .assign x=>takeH (evO fr x) fun v=>k v h
 | .pick c a b=>match evO fr c with
  | some (.bool t)=>cond t ((evO fr a).bind fun v=>k v h) ((evO fr b).bind fun v=>k v h)
  | _=>none
 | .alloc t=>match kbs P t with
  | some zs=>k (.ptr (some h.next)) (h.alloc (.cells zs t))
  | none=>none
 | .box t x=>(evO fr x).bind fun v=>cellsK P t v fun cs=>k (.ptr (some h.next)) (h.alloc (.cells cs t))
 | .build t parts=>match evs fr (parts.toList.map (·.2)),kbs P t,P.underlying t with
  | some vs,some zs,some (.struct fs)=>cond (kk8 P fs).isSome (fillK P (fun i=>(fs.toList[i]?).map fun f=>(f.offset,f.type)) ((parts.toList.map (·.1)).zip vs) zs fun cs=>k (.agg cs) h) none
  | some vs,some zs,some (.array _ e)=>cond (P.info? e).isSome (fillK P (fun i=>some (i*P.cellsOf e,e)) ((parts.toList.map (·.1)).zip vs) zs fun cs=>k (.agg cs) h) none
  | _,_,_=>none
 | .buildSlice t n parts=>match evs fr (parts.toList.map (·.2)),P.underlying t with
  | some vs,some (.slice e)=>match kbs P e with
   | some zs=>cond (Nat.ble (n*P.cellsOf e) 16777216&&Nat.beq zs.length (P.cellsOf e))
     (fillK P (fun i=>some (i*P.cellsOf e,e)) ((parts.toList.map (·.1)).zip vs) (repC zs n) fun cs=>k (.slice (some h.next) n (.is n)) (h.alloc (.cells cs e))) none
   | none=>none
  | _,_=>none
 | .load t a=>match evO fr a with
  | some (.ptr (some r))=>loadK P t r h fun v=>k v h
  | some (.ptr none)=>none
  | _=>none
 | .store t a x=>match evO fr a,evO fr x with
  | some (.ptr p),some v=>cellsK P t v fun cs=>p.bind fun r=>(h.puts r cs).bind fun h'=>k (.tup []) h'
  | _,_=>none
 | .nilCheck x=>match evO fr x with
  | some (.ptr p)=>p.bind fun r=>k (.ptr (some r)) h
  | some (.func (.func f) a b)=>k (.func (.func f) a b) h
  | _=>none
 | .binOp op t x y _=>match evO fr x,evO fr y with
  | some a,some b=>binK P op t a b fun v=>k v h
  | _,_=>none
 | .unOp op _ x=>match evO fr x with
  | some a=>unK op a fun v=>k v h
  | none=>none
 | .convert s d x=>match evO fr x with
  | some a=>kh2 P s d a fun v=>k v h
  | none=>none
 | .makeFunc f first captured=>match evs fr first.toList,evs fr captured.toList,f with
  | some a,some b,.func g=>k (.func (.func g) a b) h
  | _,_,_=>none
 | .makeSlice t l c=>match evO fr l,evO fr c,P.underlying t with
  | some (.int _ l),some (.int _ c),some (.slice e)=>match kbs P e with
   | some zs=>cond (Nat.beq zs.length (P.cellsOf e)) ((kbg l c e (P.bytesOf e) zs h).bind fun q=>k q.1.v q.2) none
   | none=>none
  | _,_,_=>none
 | .slice t x lo hi mx=>match evO fr x with
  | some a=>sliceK P t a fr lo hi mx fun v=>k v h
  | none=>none
 | .fieldAddr s x f=>match evO fr x,kkc P s f with
  | some (.ptr p),some fd=>cond (Nat.beq (P.cellsOf fd.type) 0) none (p.bind fun r=>k (.ptr (some (r.add fd.offset))) h)
  | _,_=>none
 | .field t x f=>match evO fr x,kkc P t f with
  | some (.agg cs),some fd=>(partA P fd.type cs fd.offset).bind fun v=>k v h
  | _,_=>none
 | .indexAddr t x i=>match evO fr x,evO fr i,P.underlying t with
  | some (.slice r n _),some (.int _ j),some (.slice e)=>condH (P.info? e).isSome ((idx r n j (P.cellsOf e)).bind fun q=>k (.ptr (some q)) h) none
  | some (.ptr r),some (.int _ j),some (.array n e)=>condH (P.info? e).isSome ((idx r n j (P.cellsOf e)).bind fun q=>k (.ptr (some q)) h) none
  | _,_,_=>none
 | .index t x i=>match evO fr x,evO fr i,P.underlying t with
  | some (.agg cs),some (.int _ j),some (.array n e)=>cond (decide (0≤j∧j<(n:Int))) ((partA P e cs (j.toNat*P.cellsOf e)).bind fun v=>aggK P e v fun v'=>k v' h) none
  | some (.str s),some (.int _ j),some .string=>cond (decide (0≤j)) ((s[j.toNat]?).bind fun b=>k (.int .u8 (b.toNat:Int)) h) none
  | _,_,_=>none
 | .extract x i=>match evO fr x with
  | some (.tup vs)=>(vs[i]?).bind fun v=>k v h
  | _=>none
 | .makeInterface t x=>match evO fr x,P.underlying t with
  | some v,some d=>cond (isIfcD d) none (k (.iface t v) h)
  | _,_=>none
 | .typeAssert x _ t ok=>match evO fr x,P.underlying t with
  | some v,some d=>v.asIface.bind fun p=>cond (!isIfcD d&&Nat.beq p.1 t) (seeK P t p.2 fun u=>cond ok (k (.tup [u,.bool true]) h) (k u h)) none
  | _,_=>none
 | .call c=>callK P rec c ty fr h k
 | _=>none
end
abbrev Keep:=FuncId→Nat→Option (List Nat)
def putT{R:Type}(n:Nat)(d:Option Tmp)(v:AV)(fr:Fr)(k:Fr→Option R):Option R :=
 match d with
 | none=>k fr
 | some t=>condH (Nat.blt t n) (k ((t,v)::fr)) none
theorem kgl{R:Type}(n:Nat)(d:Option Tmp)(v:AV)(fr:Fr)(k:Fr→Option R):putT n d v fr k=match d with
 | none=>k fr
 | some t=>cond (Nat.blt t n) (k ((t,v)::fr)) none:=by cases d<;>simp only[putT,kc1]
def resK(P:Program)(fr:Fr)(h:AH):List ResultVar→(List AV→Option (AV×AH))→Option (AV×AH)
 | [],k=>k []
 | .tmp t::rs,k=>(fr.get t).bind fun v=>resK P fr h rs fun vs=>k (v::vs)
 | .cell a t::rs,k=>match fr.get a with
  | some (.ptr (some r))=>loadK P t r h fun v=>resK P fr h rs fun vs=>k (v::vs)
  | _=>none
def kf2(P:Program)(fn:Func)(fr:Fr)(h:AH):Option (AV×AH) :=
 resK P fr h fn.results.toList fun vs=>match vs with
  | [v]=>some (v,h)
  | vs=>some (.tup vs,h)
def learn(c:Operand)(b:Bool)(fr:Fr):Fr :=
 match c with
 | .tmp t=>(t,.bool b)::fr
 | _=>fr
def kn9(K:Keep)(f:FuncId)(id n:Nat):List Nat:=match K f (1000000+id)with
 | some l=>l
 | none=>List.range n
def resvOf(K:Keep)(f:FuncId)(id:Nat):List Nat:=match K f (2000000+id)with
 | some l=>l
 | none=>[]
def preOf(K:Keep)(f:FuncId)(id:Nat):List Nat:=match K f (3000000+id)with
 | some l=>l
 | none=>[]
def AH.setBlk(h:AH)(i:Nat)(b:ABlk):AH:={h with blks:=h.blks.setIfInBounds i b}
def findA(kd:IntKind)(n:Int):List AEnt→Nat→Option (Option (Nat×AV))
 | [],_=>some none
 | e::es,i=>match e.key with
  | .int kd' m=>cond (decide (kd'=kd)) (cond (decide (n=m)) (some (some (i,e.val))) (findA kd n es (i+1))) none
  | _=>none
def AH.mapAt(h:AH)(i:Nat):Option (List AEnt×Nat):=match h.blks[i]? with
 | some (.map es ck)=>some (es,ck)
 | _=>none
def mapGet(h:AH)(r:Option Nat)(kd:IntKind)(n:Int):Option (Option AV):=match r with
 | none=>some none
 | some i=>(h.mapAt i).bind fun p=>(findA kd n p.1 0).map fun q=>q.map Prod.snd
def mapPut(h:AH)(i:Nat)(kd:IntKind)(n:Int)(v:AV):Option AH:=(h.mapAt i).bind fun p=>(findA kd n p.1 0).map fun q=>match q with
 | some x=>h.setBlk i (.map (p.1.modify x.1 fun e=>⟨.int kd n,v,e.born⟩) p.2)
 | none=>h.setBlk i (.map (p.1++[⟨.int kd n,v,p.2⟩]) (p.2+1))
def mapDel(h:AH)(r:Option Nat)(kd:IntKind)(n:Int):Option AH:=match r with
 | none=>some h
 | some i=>(h.mapAt i).bind fun p=>(findA kd n p.1 0).map fun q=>match q with
  | some x=>h.setBlk i (.map (p.1.eraseIdx x.1) p.2)
  | none=>h.setBlk i (.map p.1 p.2)
def mapLen(h:AH)(r:Option Nat):Option Nat:=match r with
 | none=>some 0
 | some i=>(h.mapAt i).map fun p=>p.1.length
def khv(h:AH)(r:Option Nat):Option AH:=match r with
 | none=>some h
 | some i=>(h.mapAt i).map fun p=>h.setBlk i (.map [] p.2)
def mapEnt(h:AH)(i:Nat)(kd:IntKind)(n:Int)(z:AV):Option (AV×Int×AH):=(h.mapAt i).bind fun p=>(findA kd n p.1 0).bind fun q=>match q with
 | some x=>(p.1[x.1]?).map fun e=>(x.2,(e.born:Int),h.setBlk i (.map (p.1.modify x.1 fun e=>⟨.int kd n,e.val,e.born⟩) p.2))
 | none=>some (z,(p.2:Int),h.setBlk i (.map (p.1++[⟨.int kd n,z,p.2⟩]) (p.2+1)))
def mapSet(h:AH)(i:Nat)(born:Int)(v:AV):Option AH:=(h.mapAt i).bind fun p=>(p.1.findIdx? fun e=>decide ((e.born:Int)=born)).map fun j=>h.setBlk i (.map (p.1.modify j fun e=>⟨e.key,v,e.born⟩) p.2)
def zeroA(P:Program)(t:TypeId):Option AV:=(P.info? t).bind fun i=>i.zero.bind AV.ofValue
def iterOf(h:AH):Option Nat→Option ABlk
 | none=>some (.iter none 0 [] 0)
 | some i=>(h.mapAt i).map fun p=>.iter (some i) p.2 [] p.2
def asIt:Option Ref→Option Nat
 | some (.new i 0)=>some i
 | _=>none
def kjp(h:AH)(i:Nat):Option (Option (AEnt×AH)):=match h.blks[i]? with
 | some (.iter none _ _ _)=>some none
 | some (.iter (some m) since seen last)=>(h.mapAt m).bind fun p=>cond (p.1.all (fun e=>Nat.blt e.born since)&&Nat.ble since last)
   (match p.1.filter (fun e=>!seen.contains e.born)with
    | []=>some none
    | [e]=>some (some (e,h.setBlk i (.iter (some m) since (seen++[e.born]) p.2)))
    | _=>none) none
 | _=>none
def koe(h:AH)(i:Nat):Option AEnt:=match h.blks[i]? with
 | some (.iter (some m) _ seen last)=>(h.mapAt m).bind fun p=>cond (Nat.beq p.2 last) (seen.getLast?.bind fun b=>p.1.find? fun e=>e.born==b) none
 | _=>none
def opM{R:Type}(P:Program)(rec:Rec)(o:Op)(ty:TypeId)(fr:Fr)(h:AH)(k:AV→AH→Option R):Option R :=
 match o with
 | .makeMap _ none=>k (.map (some h.blks.size)) (h.alloc (.map [] 0))
 | .mapUpdate t m x v=>match P.underlying t,evO fr m,evO fr x,evO fr v with
  | some (.map kt _),some (.map r),some (.int kd n),some val=>match P.underlying kt with
   | some (.int kd')=>cond (decide (kd=kd')) (r.bind fun i=>(mapPut h i kd n val).bind fun h'=>k (.tup []) h') none
   | _=>none
  | _,_,_,_=>none
 | .insert t m x v=>match P.underlying t,evO fr m,evO fr x,evO fr v with
  | some (.map kt _),some (.map r),some (.int kd n),some val=>match P.underlying kt with
   | some (.int kd')=>cond (decide (kd=kd')) (r.bind fun i=>(mapPut h i kd n val).bind fun h'=>k (.tup []) h') none
   | _=>none
  | _,_,_,_=>none
 | .lookup t m x ok=>match P.underlying t,evO fr m,evO fr x with
  | some (.map kt et),some (.map r),some (.int kd n)=>match P.underlying kt,zeroA P et with
   | some (.int kd'),some z=>cond (decide (kd=kd')) ((mapGet h r kd n).bind fun q=>seeK P et (q.getD z) fun v=>cond ok (k (.tup [v,.bool q.isSome]) h) (k v h)) none
   | _,_=>none
  | _,_,_=>none
 | .mapEntry t m x=>match P.underlying t,evO fr m,evO fr x with
  | some (.map kt et),some (.map (some i)),some (.int kd n)=>match P.underlying kt,zeroA P et with
   | some (.int kd'),some z=>cond (decide (kd=kd')) ((mapEnt h i kd n z).bind fun q=>seeK P et q.1 fun v=>k (.tup [v,.int .i64 q.2.1]) q.2.2) none
   | _,_=>none
  | _,_,_=>none
 | .entryStore _ m s v=>match evO fr m,evO fr s,evO fr v with
  | some (.map (some i)),some (.int _ n),some val=>(mapSet h i n val).bind fun h'=>k (.tup []) h'
  | _,_,_=>none
 | .range t x=>match P.underlying t,evO fr x with
  | some (.map _ _),some (.map r)=>(iterOf h r).bind fun b=>k (.ptr (some h.next)) (h.alloc b)
  | _,_=>none
 | .next x false=>match evO fr x with
  | some (.ptr p)=>(asIt p).bind fun i=>(kjp h i).bind fun q=>cond q.isNone (k (.tup [.bool false]) h) (q.bind fun e=>k (.tup [.bool true,e.1.key,e.1.val]) e.2)
  | _=>none
 | .entry x=>match evO fr x with
  | some (.ptr p)=>(asIt p).bind fun i=>(koe h i).bind fun e=>k (.tup [e.key,e.val]) h
  | _=>none
 | .call c=>match c.callee,evs fr c.args.toList,c.argTypes.toList with
  | .builtin .len,some [.map r],t::_=>match P.underlying t with
   | some (.map _ _)=>(mapLen h r).bind fun n=>k (.int .i64 (n:Int)) h
   | _=>none
  | .builtin .delete,some [.map r,.int kd n],t::_=>match P.underlying t with
   | some (.map kt _)=>match P.underlying kt with
    | some (.int kd')=>cond (decide (kd=kd')) ((mapDel h r kd n).bind fun h'=>k (.tup []) h') none
    | _=>none
   | _=>none
  | .builtin .clear,some [.map r],t::_=>match P.underlying t with
   | some (.map _ _)=>(khv h r).bind fun h'=>k (.tup []) h'
   | _=>none
  | _,_,_=>opK P rec o ty fr h k
 | _=>opK P rec o ty fr h k
def findP(kd:IntKind)(a b:Int):List AEnt→Nat→Option (Option (Nat×AV))
 | [],_=>some none
 | e::es,i=>match e.key with
  | .agg [.int k1 x,.int k2 y]=>cond (decide (k1=kd)&&decide (k2=kd)) (cond (decide (a=x)&&decide (b=y)) (some (some (i,e.val))) (findP kd a b es (i+1))) none
  | _=>none
def khd(h:AH)(r:Option Nat)(kd:IntKind)(a b:Int):Option (Option AV):=match r with
 | none=>some none
 | some i=>(h.mapAt i).bind fun p=>(findP kd a b p.1 0).map fun q=>q.map Prod.snd
def kix(h:AH)(i:Nat)(kd:IntKind)(a b:Int)(v:AV):Option AH:=(h.mapAt i).bind fun p=>(findP kd a b p.1 0).map fun q=>match q with
 | some x=>h.setBlk i (.map (p.1.modify x.1 fun e=>⟨.agg [.int kd a,.int kd b],v,e.born⟩) p.2)
 | none=>h.setBlk i (.map (p.1++[⟨.agg [.int kd a,.int kd b],v,p.2⟩]) (p.2+1))
def pairKd(P:Program)(kt:TypeId):Option IntKind:=match P.underlying kt with
 | some (.array n e)=>match P.underlying e with
  | some (.int kd)=>cond (Nat.beq n 2&&Nat.beq (P.cellsOf e) 1) (some kd) none
  | _=>none
 | _=>none
def opP{R:Type}(P:Program)(rec:Rec)(o:Op)(ty:TypeId)(fr:Fr)(h:AH)(k:AV→AH→Option R):Option R :=
 match o with
 | .mapUpdate t m x v=>match P.underlying t,evO fr m,evO fr x,evO fr v with
  | some (.map kt _),some (.map r),some (.agg [.int k1 a,.int k2 b]),some val=>match pairKd P kt with
   | some kd=>cond (decide (k1=kd)&&decide (k2=kd)) (r.bind fun i=>(kix h i kd a b val).bind fun h'=>k (.tup []) h') none
   | none=>none
  | _,_,_,_=>opM P rec (.mapUpdate t m x v) ty fr h k
 | .lookup t m x ok=>match P.underlying t,evO fr m,evO fr x with
  | some (.map kt et),some (.map r),some (.agg [.int k1 a,.int k2 b])=>match pairKd P kt,zeroA P et with
   | some kd,some z=>cond (decide (k1=kd)&&decide (k2=kd)) ((khd h r kd a b).bind fun q=>seeK P et (q.getD z) fun v=>cond ok (k (.tup [v,.bool q.isSome]) h) (k v h)) none
   | _,_=>none
  | _,_,_=>opM P rec (.lookup t m x ok) ty fr h k
 | o=>opM P rec o ty fr h k
def nonEff:Op→Bool
 | .move _ | .assign _ | .pick _ _ _ | .build _ _ | .load _ _ | .nilCheck _ | .binOp _ _ _ _ _ | .unOp _ _ _ | .convert _ _ _ | .makeFunc _ _ _
 | .slice _ _ _ _ _ | .fieldAddr _ _ _ | .field _ _ _ | .indexAddr _ _ _ | .index _ _ _ | .extract _ _ | .makeInterface _ _ | .typeAssert _ _ _ _=>true
 | .call c=>match c.callee with
  | .builtin .len | .builtin .min | .builtin .max=>true
  | _=>false
 | _=>false
def opX{R:Type}(P:Program)(rec:Rec)(o:Op)(ty:TypeId)(fr:Fr)(h:AH)(k:AV→AH→Option R):Option R:=cond (nonEff o) (opK P rec o ty fr h k) (opP P rec o ty fr h k)
def opsK{R:Type}(P:Program)(rec:Rec)(N:Nat)(ops:Array Oper):List Nat→Fr→AH→(Fr→AH→Option R)→Option R
 | [],fr,h,k=>k fr h
 | i::is,fr,h,k=>match ops[i]? with
  | none=>none
  | some o =>
   let go:=fun fr=>opX P rec o.op o.type fr h fun v h'=>putT N o.dst v fr fun fr'=>opsK P rec N ops is fr' h' k
   let skip:=fun fr=>putT N o.dst (.tup []) fr fun fr'=>opsK P rec N ops is fr' h k
   match o.guard with
   | none=>go fr
   | some (j,b)=>match ((ops[j]?).bind (·.dst))with
    | none=>none
    | some t=>match fr.get t with
     | some (.bool c)=>cond c
       (cond b (go ((t,.bool true)::fr)) (skip ((t,.bool true)::fr)))
       (cond b (skip ((t,.bool false)::fr)) (go ((t,.bool false)::fr)))
     | some (.tup [])=>skip fr
     | _=>none
structure Look where
 at_:Nat
 ref:Ref
 size:Nat
def kbk(P:Program)(i:Nat)(o:Op)(fr:Fr):List Look :=
 match o with
 | .load t a=>match evO fr a with
  | some (.ptr (some r))=>match P.underlying t with
   | some d=>[⟨i,r,cond (isAggD d) (P.cellsOf t) 1⟩]
   | none=>[]
  | _=>[]
 | _=>[]
def SameBlk(h h':AH):Ref→Prop
 | .new i _=>h'.blks[i]?=h.blks[i]?
 | .old _=>True
def SameAt(h h':AH)(r:Ref)(n:Nat):Prop:=(∀j,j<n→h'.cell (r.add j)=h.cell (r.add j))∧(n=0→SameBlk h h' r)
open Classical in
noncomputable def whenK{R:Type}(p:Prop)(x:Option R):Option R:=if p then x else none
noncomputable def checkP{R:Type}(m:Nat)(h h':AH)(x:Option R):List Look→Option R
 | []=>x
 | p::ps=>cond (m.testBit p.at_) (checkP m h h' x ps) (whenK (SameAt h h' p.ref p.size) (checkP m h h' x ps))
def depsOf(o:Oper):Nat:=o.after.toList.foldl (fun m e=>cond (Region.binds .any e) (m|||1 <<< e.on) m) 0
def orBits(d:Nat):List Nat→Nat→Nat
 | [],_=>0
 | a::as,i=>cond (d.testBit i) (a|||orBits d as (i+1)) (orBits d as (i+1))
def ancsOf:List Nat→List Nat→List Nat
 | acc,[]=>acc
 | acc,d::ds=>ancsOf (acc++[d|||orBits d acc 0]) ds
def readyB(deps:List Nat)(m i:Nat):Bool:=match deps[i]? with
 | some d=>Nat.beq (d&&&m) d&&!m.testBit i
 | none=>false
def onlyB(n:Nat)(deps:List Nat)(m i:Nat):Bool:=(List.range n).all fun j=>Nat.beq j i||!readyB deps m j
def freeB(ops:Array Oper)(deps:List Nat)(m i:Nat)(o:Oper):Bool:=(List.range ops.size).all fun j =>
 Nat.beq j i||m.testBit j||(match deps[j]? with | some d=>d.testBit i | none=>false)||(match ops[j]? with | some oj=>o.apart ops oj | none=>false)
noncomputable def opsD{R:Type}(P:Program)(rec:Rec)(N:Nat)(ops:Array Oper)(deps ancs:List Nat):List Nat→Nat→List Look→Fr→AH→(Fr→AH→Option R)→Option R
 | [],m,_,fr,h,k=>cond (Nat.beq m (2^ops.size-1)) (k fr h) none
 | i::c,m,ps,fr,h,k=>match ops[i]?,ancs[i]? with
  | some o,some an=>cond (readyB deps m i)
   (cond (nonEff o.op)
    (cond (freeB ops deps m i o) (opsK P rec N ops [i] fr h fun fr' h'=>opsD P rec N ops deps ancs c (m|||1 <<< i) (kbk P i o.op fr++ps) fr' h' k) none)
    (cond (onlyB ops.size deps m i) (opsK P rec N ops [i] fr h fun fr' h'=>checkP an h h' (opsD P rec N ops deps ancs c (m|||1 <<< i) ps fr' h' k) ps) none)) none
  | _,_=>none
noncomputable def drawK{R:Type}(P:Program)(rec:Rec)(N:Nat)(ops:Array Oper)(order:List Nat)(fr:Fr)(h:AH)(k:Fr→AH→Option R):Option R :=
 cond (Nat.beq order.length ops.size) (opsD P rec N ops (ops.toList.map depsOf) (ancsOf [] (ops.toList.map depsOf)) order 0 [] fr h k) none
def Fr.low(N:Nat)(fr:Fr):Fr:=fr.filter fun p=>Nat.blt p.1 N
def lowB(N:Nat)(ops:Array Oper):Bool:=ops.toList.all fun o=>(o.looksAt ops).all fun t=>Nat.blt t N
def layB:Op→Bool
 | .alloc _ | .box _ _ | .buildSlice _ _ _ | .makeSlice _ _ _ | .makeMap _ none=>true
 | _=>false
def isTmp(t:Tmp):Operand→Bool
 | .tmp s=>Nat.beq s t
 | _=>false
def heldB(ops:Array Oper)(o:Oper):Bool:=(List.range ops.size).all fun j=>match (ops[j]?).bind (·.dst)with
 | some t=>!(o.op.operands.toList.any (isTmp t))||(depsOf o).testBit j
 | none=>true
noncomputable def finK{R:Type}(cs:List Operand)(a b:Fr)(x:Option R):Option R:=match cs with
 | []=>x
 | c::cs=>whenK ((c::cs).map (evO a)=(c::cs).map (evO b)) x
noncomputable def drawR{R:Type}(P:Program)(rec:Rec)(N:Nat)(order:List Nat)(fp:Fr):List Nat→List Operand→Array Oper→List Look→Fr→AH→(Fr→AH→Option R)→Option R
 | [],cs,ops,ps,fr,h,k=>cond (Nat.beq order.length ops.size) (opsD P rec N ops (ops.toList.map depsOf) (ancsOf [] (ops.toList.map depsOf)) order 0 ps fr h fun fr' h'=>finK cs (fr'.low N) fp (k (fr'.low N) h')) none
 | i::is,cs,ops,ps,fr,h,k=>match ops[i]? with
  | some o=>cond (layB o.op&&heldB ops o) (opX P rec o.op o.type fp h fun v h'=>drawR P rec N order fp is (o.op.operands.toList++cs) (ops.setIfInBounds i {o with op:=.move (.tmp (N+i))}) (⟨i,h.next,0⟩::ps) ((N+i,v)::fr) h' k) none
  | none=>none
noncomputable def drawX{R:Type}(P:Program)(rec:Rec)(N:Nat)(ops:Array Oper)(order resv pre:List Nat)(fr:Fr)(h:AH)(k:Fr→AH→Option R):Option R :=
 match resv with
 | []=>drawK P rec N ops order fr h k
 | i::is=>cond (lowB N ops) (opsK P rec N ops pre fr h fun fp _=>drawR P rec N order fp (i::is) [] ops [] fr h k) none
def khk(o:Op)(fr:Fr):Option (Nat×List AV):=match o with
 | .call c=>match c.callee,evs fr c.args.toList with
  | .value f,some xs=>match evO fr f with
   | some (.func (.yield l) [] [])=>some (l,xs)
   | _=>none
  | _,_=>none
 | _=>none
def opY{R:Type}(P:Program)(rec:Rec)(o:Op)(ty:TypeId)(fr:Fr)(h:AH)(k:AV→AH→Option R):Option R :=
 match khk o fr with
 | some p=>(rec (.round p.1 p.2) h).bind fun q=>kfv P ty q.1 fun v=>k v q.2
 | none=>opP P rec o ty fr h k
def opsY{R:Type}(P:Program)(rec:Rec)(N:Nat)(ops:Array Oper):List Nat→Fr→AH→(Fr→AH→Option R)→Option R
 | [],fr,h,k=>k fr h
 | i::is,fr,h,k=>match ops[i]? with
  | none=>none
  | some o =>
   let go:=fun fr=>opY P rec o.op o.type fr h fun v h'=>putT N o.dst v fr fun fr'=>opsY P rec N ops is fr' h' k
   let skip:=fun fr=>putT N o.dst (.tup []) fr fun fr'=>opsY P rec N ops is fr' h k
   match o.guard with
   | none=>go fr
   | some (j,b)=>match ((ops[j]?).bind (·.dst))with
    | none=>none
    | some t=>match fr.get t with
     | some (.bool c)=>cond c
       (cond b (go ((t,.bool true)::fr)) (skip ((t,.bool true)::fr)))
       (cond b (skip ((t,.bool false)::fr)) (go ((t,.bool false)::fr)))
     | some (.tup [])=>skip fr
     | _=>none
def kcj(l:Nat)(jump:Option Code)(h:AH):Option (AV×AH) :=
 match h.blks[l]? with
 | some (.loop _ _ f fr ps as bd d)=>some (.bool jump.isNone,h.setBlk l (.loop (cond jump.isNone .ready .done) jump f fr ps as bd d))
 | _=>none
def leaveA(P:Program)(fn:Func)(ro:Option Nat)(jump:Option Code)(fr:Fr)(h:AH):Option (AV×AH) :=
 match ro with
 | some l=>kcj l jump h
 | none=>match jump with
  | none=>kf2 P fn fr h
  | some .ret=>kf2 P fn fr h
  | some _=>none
def beginA(l:Nat)(h:AH):Option AH :=
 match h.blks[l]? with
 | some (.loop .ready pe f fr ps as bd d)=>some (h.setBlk l (.loop .busy pe f fr ps as bd d))
 | _=>none
def kff(l:Nat)(h:AH):Option (Option Code×AH) :=
 match h.blks[l]? with
 | some (.loop st pe _ _ _ _ _ _)=>cond (st==.busy) none (some (pe,h.setBlk l .dead))
 | _=>none
def kg0(ops:Array Oper):Bool:=ops.toList.any fun o=>match o.op with
 | .defer _=>true
 | _=>false
noncomputable def execA(P:Program)(K:Keep)(rec:Rec)(ro:Option Nat)(f:FuncId)(fn:Func):Nat→Bool→List Item→Fr→AH→Option (AV×AH)
 | 0,_,_,_,_=>none
 | n+1,fresh,todo,fr,h=>match todo with
  | []=>leaveA P fn ro none fr h
  | .code .ret::_=>leaveA P fn ro (some .ret) fr h
  | .code .skip::k=>execA P K rec ro f fn n fresh k fr h
  | .code (.label _)::k=>execA P K rec ro f fn n fresh k fr h
  | .inBlock _::k=>execA P K rec ro f fn n fresh k fr h
  | .inScope _::k=>execA P K rec ro f fn n fresh k fr h
  | .code (.seq a b)::k=>execA P K rec ro f fn n fresh (.code a::.code b::k) fr h
  | .code (.cond c a b)::k=>match evO fr c with
   | some (.bool t)=>cond t (execA P K rec ro f fn n fresh (.code a::k) (learn c true fr) h) (execA P K rec ro f fn n fresh (.code b::k) (learn c false fr) h)
   | _=>none
  | .code (.block id body)::k=>execA P K rec ro f fn n fresh (.code body::.inBlock id::k) fr h
  | .code (.loop body)::k=>execA P K rec ro f fn n fresh (.code body::.inLoop body::k) fr h
  | .inLoop body::k=>execA P K rec ro f fn n fresh (.code body::.inLoop body::k) fr h
  | .code (.scope body)::k=>execA P K rec ro f fn n fresh (.code body::.inScope body::k) fr h
  | .code (.exit id)::k=>match exitTo id k with
   | some k'=>execA P K rec ro f fn n fresh k' fr h
   | none=>leaveA P fn ro (some (.exit id)) fr h
  | .code (.goto l)::k=>match gotoIn l k with
   | some k'=>execA P K rec ro f fn n fresh k' fr h
   | none=>leaveA P fn ro (some (.goto l)) fr h
  | .code (.region id ops draw)::k =>
   condH fresh
    (condH draw (condH (ro.isSome&&kg0 ops) none (drawX P rec fn.ntmps ops (kn9 K f id ops.size) (resvOf K f id) (preOf K f id) fr h fun fr' h'=>execA P K rec ro f fn n false k fr' h')) (opsY P rec fn.ntmps ops (List.range ops.size) fr h fun fr' h'=>execA P K rec ro f fn n false k fr' h'))
    (match K f id with
     | some L=>match ro with
      | none=>rec (.pt f todo (fr.keep L)) h
      | some l=>rec (.rpt l f todo (fr.keep L)) h
     | none=>condH draw (condH (ro.isSome&&kg0 ops) none (drawX P rec fn.ntmps ops (kn9 K f id ops.size) (resvOf K f id) (preOf K f id) fr h fun fr' h'=>execA P K rec ro f fn n false k fr' h')) (opsY P rec fn.ntmps ops (List.range ops.size) fr h fun fr' h'=>execA P K rec ro f fn n false k fr' h'))
  | .beginRound::k=>match ro with
   | some l=>(beginA l h).bind fun h'=>execA P K rec ro f fn n fresh k fr h'
   | none=>none
  | .code (.rangeFunc g ps as bd)::k=>match ro with
   | some _=>none
   | none=>condH fresh (match evO fr g with
    | some (.func (.func gf) first captured)=>(callF P rec gf (first++[.func (.yield h.blks.size) [] []]++captured) (h.alloc (.loop .ready none f (fr.keep (List.range fn.ntmps)) ps as bd 0))).bind fun q =>
      (kff h.blks.size q.2).bind fun p=>rec (.pt f ((p.1.map Item.code).toList++k) (fr.keep (List.range fn.ntmps))) p.2
    | _=>none) (rec (.pt f todo (fr.keep (List.range fn.ntmps))) h)
  | _=>none
def khl:Nat→List AV→Fr
 | _,[]=>[]
 | i,v::vs=>(i,v)::khl (i+1) vs
def handed:List Tmp→List AV→Fr→Fr
 | t::ts,v::vs,fr=>handed ts vs ((t,v)::fr)
 | _,_,fr=>fr
noncomputable def stepA(P:Program)(K:Keep)(rec:Rec)(key:Key)(h:AH):Option (AV×AH) :=
 match key with
 | .fn f args=>match P.funcs[f]? with
  | some fn=>match fn.body with
   | some c=>condH (Nat.ble args.length fn.ntmps) (execA P K rec none f fn 4000 false [.code c] (khl 0 args) h) none
   | none=>none
  | none=>none
 | .pt f todo fr=>match P.funcs[f]? with
  | some fn=>execA P K rec none f fn 4000 true todo fr h
  | none=>none
 | .round l args=>match h.blks[l]? with
  | some (.loop _ _ f fr ps as bd _)=>match P.funcs[f]? with
   | some fn=>condH (Nat.beq ps.size args.length&&ps.toList.all fun t=>Nat.blt t fn.ntmps) (execA P K rec (some l) f fn 4000 false [.code as,.beginRound,.code bd] (handed ps.toList args fr) h) none
   | none=>none
  | _=>none
 | .rpt l f todo fr=>match P.funcs[f]? with
  | some fn=>execA P K rec (some l) f fn 4000 true todo fr h
  | none=>none
noncomputable def runF(P:Program)(K:Keep):Nat→Rec
 | 0=>fun _ _=>none
 | n+1=>stepA P K (runF P K n)
open Classical in
noncomputable def run(P:Program)(K:Keep):Rec:=fun key h =>
 if hh:∃n r,runF P K n key h=some r then some (Classical.choose (Classical.choose_spec hh))else none
structure Loc where
 block:Nat
 base:Nat
 total:Nat
abbrev Mu:=Nat→Option Loc
def RRel(μ:Mu):Ref→Addr→Prop
 | .old a,b=>b=a
 | .new i o,b=>∃L,μ i=some L∧b=⟨L.block,L.base+o,none⟩
def CapRel(μ:Mu)(r:Ref)(n c:Nat):Cap→Prop
 | .is k=>n≤c∧c=k
 | .opn sz=>n≤c∧∃i o L,r=.new i o∧μ i=some L∧o+c*sz≤L.total
def FnRel(μ:Mu):Fn→Fn→Prop
 | .yield i,g=>∃L,μ i=some L∧g=.yield L.block
 | f,g=>g=f
mutual
def VRel(μ:Mu):AV→Value→Prop
 | .bool b,u=>u=.bool b
 | .int k n,u=>u=.int k n
 | .str s,u=>u=.string s
 | .ptr none,u=>u=.pointer none
 | .ptr (some r),u=>∃a,RRel μ r a∧u=.pointer (some a)
 | .slice none n c,u=>n=0∧c=.is 0∧u=.slice none 0 0
 | .slice (some r) n cap,u=>∃a c,u=.slice (some a) n c∧(c=0∨RRel μ r a)∧CapRel μ r n c cap
 | .map none,u=>u=.map none
 | .map (some i),u=>∃L,μ i=some L∧u=.map (some L.block)
 | .func f a b,u=>∃g x y,u=.func g x y∧FnRel μ f g∧VRels μ a x.toList∧VRels μ b y.toList
 | .nilFunc,u=>u=.nilFunc
 | .iface t v,u=>∃x,u=.iface t x∧VRel μ v x
 | .nilIface,u=>u=.nilIface
 | .agg cs,u=>∃us:Array Value,u=.agg us∧VRels μ cs us.toList∧cs.all AV.one=true
 | .tup cs,u=>∃us:Array Value,u=.tuple us∧VRels μ cs us.toList
def VRels(μ:Mu):List AV→List Value→Prop
 | [],us=>us=[]
 | v::vs,us=>∃x xs,us=x::xs∧VRel μ v x∧VRels μ vs xs
end
def Mu.le(μ ν:Mu):Prop:=∀i L,μ i=some L→ν i=some L
theorem Mu.le_refl(μ:Mu):μ.le μ:=fun _ _ h=>h
theorem Mu.le_trans{a b c:Mu}(h:a.le b)(k:b.le c):a.le c:=fun i L e=>k i L (h i L e)
theorem RRel.mono{μ ν:Mu}(h:μ.le ν):∀{r:Ref}{a:Addr},RRel μ r a→RRel ν r a
 | .old _,_,e=>e
 | .new _ _,_,⟨L,e,f⟩=>⟨L,h _ _ e,f⟩
theorem CapRel.mono{μ ν:Mu}(h:μ.le ν){r:Ref}{n c:Nat}:∀{k:Cap},CapRel μ r n c k→CapRel ν r n c k
 | .is _,e=>e
 | .opn _,⟨e,i,o,L,e1,e2,e3⟩=>⟨e,i,o,L,e1,h _ _ e2,e3⟩
theorem FnRel.mono{μ ν:Mu}(h:μ.le ν):∀{f g:Fn},FnRel μ f g→FnRel ν f g
 | .yield _,_,⟨L,e,f⟩=>⟨L,h _ _ e,f⟩
 | .func _,_,e=>e
 | .method _,_,e=>e
 | .methodOf _ _,_,e=>e
 | .via _ _ _ _,_,e=>e
mutual
theorem VRel.mono{μ ν:Mu}(h:μ.le ν):∀{v:AV}{u:Value},VRel μ v u→VRel ν v u
 | .bool _,_,e=>by simpa only[VRel]using e
 | .int _ _,_,e=>by simpa only[VRel]using e
 | .str _,_,e=>by simpa only[VRel]using e
 | .ptr none,_,e=>by simpa only[VRel]using e
 | .ptr (some r),_,e=>by
  simp only[VRel]at e⊢;obtain⟨a,e1,e2⟩:=e;exact⟨a,e1.mono h,e2⟩
 | .slice none _ _,_,e=>by simpa only[VRel]using e
 | .slice (some r) _ _,_,e=>by
  simp only[VRel]at e⊢;obtain⟨a,c,e1,e2,e3⟩:=e;exact⟨a,c,e1,e2.imp id (RRel.mono h),e3.mono h⟩
 | .map none,_,e=>by simpa only[VRel]using e
 | .map (some _),_,e=>by
  simp only[VRel]at e⊢;obtain⟨L,e1,e2⟩:=e;exact⟨L,h _ _ e1,e2⟩
 | .func f a b,_,e=>by
  simp only[VRel]at e⊢;obtain⟨g,x,y,e1,e2,e3,e4⟩:=e;exact⟨g,x,y,e1,e2.mono h,VRels.mono h e3,VRels.mono h e4⟩
 | .nilFunc,_,e=>by simpa only[VRel]using e
 | .iface t v,_,e=>by
  simp only[VRel]at e⊢;obtain⟨x,e1,e2⟩:=e;exact⟨x,e1,VRel.mono h e2⟩
 | .nilIface,_,e=>by simpa only[VRel]using e
 | .agg cs,_,e=>by
  simp only[VRel]at e⊢;obtain⟨us,e1,e2,e3⟩:=e;exact⟨us,e1,VRels.mono h e2,e3⟩
 | .tup cs,_,e=>by
  simp only[VRel]at e⊢;obtain⟨us,e1,e2⟩:=e;exact⟨us,e1,VRels.mono h e2⟩
theorem VRels.mono{μ ν:Mu}(h:μ.le ν):∀{v:List AV}{u:List Value},VRels μ v u→VRels ν v u
 | [],_,e=>by simpa only[VRels]using e
 | v::vs,_,e=>by
  simp only[VRels]at e⊢;obtain⟨x,xs,e1,e2,e3⟩:=e;exact⟨x,xs,e1,VRel.mono h e2,VRels.mono h e3⟩
end
theorem VRels.length{μ:Mu}:∀{vs:List AV}{us:List Value},VRels μ vs us→us.length=vs.length
 | [],us,h=>by simp only[VRels]at h;simp[h]
 | v::vs,us,h=>by
  simp only[VRels]at h;obtain⟨x,xs,rfl,_,h3⟩:=h;simp[VRels.length h3]
theorem VRels.get{μ:Mu}:∀{vs:List AV}{us:List Value},VRels μ vs us→∀(i:Nat)(v:AV),vs[i]?=some v→∃u,us[i]?=some u∧VRel μ v u
 | [],us,h,i,v,e=>by simp at e
 | w::vs,us,h,i,v,e=>by
  simp only[VRels]at h;obtain⟨x,xs,rfl,h2,h3⟩:=h;cases i with
  | zero=>simp at e;subst e;exact⟨x,by simp,h2⟩
  | succ i=>simp at e⊢;exact VRels.get h3 i v e
theorem VRels.append{μ:Mu}{vs ws:List AV}{us xs:List Value}(h:VRels μ vs us)(k:VRels μ ws xs):VRels μ (vs++ws) (us++xs):=by
 induction vs generalizing us with
 | nil=>simp only[VRels]at h;subst h;simpa using k
 | cons v vs ih =>
  simp only[VRels]at h;obtain⟨x,r,rfl,h2,h3⟩:=h;simp only[List.cons_append,VRels];exact⟨x,r++xs,rfl,h2,ih h3⟩
theorem VRels.take{μ:Mu}{vs:List AV}{us:List Value}(h:VRels μ vs us)(n:Nat):VRels μ (vs.take n) (us.take n):=by
 induction vs generalizing us n with
 | nil=>simp only[VRels]at h;subst h;simp[VRels]
 | cons v vs ih =>
  simp only[VRels]at h;obtain⟨x,r,rfl,h2,h3⟩:=h;cases n with
  | zero=>simp[VRels]
  | succ n=>simp only[List.take_succ_cons,VRels];exact⟨x,_,rfl,h2,ih h3 n⟩
theorem VRels.drop{μ:Mu}{vs:List AV}{us:List Value}(h:VRels μ vs us)(n:Nat):VRels μ (vs.drop n) (us.drop n):=by
 induction vs generalizing us n with
 | nil=>simp only[VRels]at h;subst h;simp[VRels]
 | cons v vs ih =>
  cases n with
  | zero=>simpa using h
  | succ n =>
   simp only[VRels]at h;obtain⟨x,r,rfl,h2,h3⟩:=h
   simpa using ih h3 n
theorem VRels.nil{μ:Mu}:VRels μ [] []:=by simp[VRels]
theorem VRels.cons{μ:Mu}{v:AV}{u:Value}{vs:List AV}{us:List Value}(h:VRel μ v u)(k:VRels μ vs us):VRels μ (v::vs) (u::us):=by
 simp only[VRels];exact⟨u,us,rfl,h,k⟩
theorem VRels.cons_inv{μ:Mu}{v:AV}{vs:List AV}{us:List Value}(h:VRels μ (v::vs) us):∃x xs,us=x::xs∧VRel μ v x∧VRels μ vs xs:=by
 simpa only[VRels]using h
theorem VRels.nil_inv{μ:Mu}{us:List Value}(h:VRels μ [] us):us=[]:=by simpa only[VRels]using h
theorem VRel.one{μ:Mu}{v:AV}{u:Value}(h:VRel μ v u)(h1:v.one=true):u.oneCell'=true:=by
 cases v with
 | bool b=>simp only[VRel]at h;subst h;rfl
 | int k n=>simp only[VRel]at h;subst h;rfl
 | str s=>simp only[VRel]at h;subst h;rfl
 | ptr r =>
  cases r<;>simp only[VRel]at h
  ·subst h;rfl
  ·obtain⟨a,_,rfl⟩:=h;rfl
 | slice r n c =>
  cases r<;>simp only[VRel]at h
  ·obtain⟨_,_,rfl⟩:=h;rfl
  ·obtain⟨a,c,rfl,_⟩:=h;rfl
 | map r =>
  cases r<;>simp only[VRel]at h
  ·subst h;rfl
  ·obtain⟨a,_,rfl⟩:=h;rfl
 | func f a b=>simp only[VRel]at h;obtain⟨g,x,y,rfl,_⟩:=h;rfl
 | nilFunc=>simp only[VRel]at h;subst h;rfl
 | iface t v=>simp only[VRel]at h;obtain⟨x,rfl,_⟩:=h;rfl
 | nilIface=>simp only[VRel]at h;subst h;rfl
 | agg cs=>simp[AV.one]at h1
 | tup cs=>simp[AV.one]at h1
theorem VRel.cells_one{μ:Mu}{v:AV}{u:Value}(h:VRel μ v u)(h1:v.one=true):u.cells=#[u]:=by
 have:=h.one h1;cases u<;>first | rfl | simp[Value.oneCell']at this
theorem VRel.ofCell{μ:Mu}{v:AV}{u:Value}(h:AV.ofCell u=some v):VRel μ v u∧v.one=true:=by
 cases u with
 | bool b=>simp only[AV.ofCell,Option.some.injEq]at h;subst h;simp[VRel,AV.one]
 | int k n=>simp only[AV.ofCell,Option.some.injEq]at h;subst h;simp[VRel,AV.one]
 | string s=>simp only[AV.ofCell,Option.some.injEq]at h;subst h;simp[VRel,AV.one]
 | pointer a=>cases a<;>(simp only[AV.ofCell,Option.some.injEq]at h;subst h;simp[VRel,AV.one,RRel])
 | slice a n c =>
  cases a with
  | none =>
   simp only[AV.ofCell]at h;cases hn:Nat.beq n 0<;>cases hc:Nat.beq c 0<;>simp[hn,hc]at h;have h1:n=0:=Nat.eq_of_beq_eq_true hn;have h2:c=0:=Nat.eq_of_beq_eq_true hc;subst h;subst h1;subst h2;simp[VRel,AV.one]
  | some a =>
   simp only[AV.ofCell]at h;cases hn:Nat.ble n c<;>simp[hn]at h;have:=Nat.le_of_ble_eq_true hn;subst h;refine⟨?_,rfl⟩;simp only[VRel];exact⟨a,c,rfl,.inr rfl,this,rfl⟩
 | map r=>cases r<;>simp[AV.ofCell]at h;subst h;simp[VRel,AV.one]
 | nilFunc=>simp only[AV.ofCell,Option.some.injEq]at h;subst h;simp[VRel,AV.one]
 | nilIface=>simp only[AV.ofCell,Option.some.injEq]at h;subst h;simp[VRel,AV.one]
 | _=>simp[AV.ofCell]at h
theorem VRels.ofCells{μ:Mu}:∀{us:List Value}{vs:List AV},AV.ofCells us=some vs→VRels μ vs us∧vs.all AV.one=true
 | [],vs,h=>by simp[AV.ofCells]at h;subst h;simp[VRels]
 | u::us,vs,h=>by
  simp only[AV.ofCells]at h;split at h
  ·rename_i x xs hx hxs;simp at h;subst h;obtain⟨h1,h2⟩:=VRel.ofCell (μ:=μ) hx;obtain⟨h3,h4⟩:=VRels.ofCells (μ:=μ) hxs;exact⟨VRels.cons h1 h3,by simp[h2];simpa using h4⟩
  ·simp at h
theorem VRel.ofValue{μ:Mu}{v:AV}{u:Value}(h:AV.ofValue u=some v):VRel μ v u:=by
 unfold AV.ofValue at h;split at h
 ·rename_i cs;simp only[Option.map_eq_some_iff]at h;obtain⟨x,h1,rfl⟩:=h;obtain⟨h2,h3⟩:=VRels.ofCells (μ:=μ) h1;simp only[VRel];exact⟨cs,rfl,h2,h3⟩
 ·rename_i cs;simp only[Option.map_eq_some_iff]at h;obtain⟨x,h1,rfl⟩:=h;obtain⟨h2,h3⟩:=VRels.ofCells (μ:=μ) h1;simp only[VRel];exact⟨cs,rfl,h2⟩
 ·exact(VRel.ofCell h).1
structure FRel(μ:Mu)(N:Nat)(fr:Fr)(tmps:Array Value):Prop where
 size:tmps.size=N
 get:∀t v,fr.get t=some v→∃u,tmps[t]?=some u∧VRel μ v u
theorem FRel.mono{μ ν:Mu}{N:Nat}{fr:Fr}{tmps:Array Value}(h:FRel μ N fr tmps)(hle:Mu.le μ ν):FRel ν N fr tmps :=
 ⟨h.size,fun t v e=>let ⟨u,a,b⟩:=h.get t v e;⟨u,a,b.mono hle⟩⟩
def BRel(P:Program)(μ:Mu)(L:Loc)(w:World):ABlk→Prop
 | .cells cs e=>(∃c:Array Value,w.heap[L.block]?=some (.cells c e (0,0))∧c.size=L.base+L.total∧cs.length≤L.total∧
   ∀(j:Nat)(v:AV),cs[j]?=some v→∃u,c[L.base+j]?=some u∧VRel μ v u)∧cs.all AV.one=true
 | .map es clock=>∃us:Array MapEntry,w.heap[L.block]?=some (.map us clock)∧us.size=es.length∧
   ∀(j:Nat)(e:AEnt),es[j]?=some e→∃u:MapEntry,us[j]?=some u∧VRel μ e.key u.key∧VRel μ e.val u.val∧u.born=e.born
 | .loop st pe f fr ps as bd _=>∃(tmps:Array Value)(d:Nat),w.heap[L.block]?=some (.loop {state:=st,pending:=pe,fn:=f,tmps,params:=ps,assign:=as,body:=bd,defers:=d})∧∀fn,P.funcs[f]?=some fn→FRel μ fn.ntmps fr tmps
 | .iter m since seen last=>(∃r:Option Nat,w.heap[L.block]?=some (.mapIter r since seen.toArray last)∧(match m with | none=>r=none | some i=>∃M,μ i=some M∧r=some M.block))∧L.base=0
 | .dead=>True
def Live(h:AH)(i:Nat):Prop:=∀b,h.blks[i]?=some b→b≠.dead
structure Sim(P:Program)(O:World)(μ:Mu)(h:AH)(w:World):Prop where
 old:h.old=O.heap
 os:w.os=O.os
 tape:w.tape=O.tape
 output:w.output=O.output
 base:O.heap.size≤w.heap.size
 keep:∀b,b<O.heap.size→w.heap[b]?=O.heap[b]?
 dom:∀i L,μ i=some L→i<h.blks.size
 place:∀i L,μ i=some L→O.heap.size≤L.block∧L.block<w.heap.size
 blk:∀i L b,μ i=some L→h.blks[i]?=some b→BRel P μ L w b
 inj:∀i j L M,μ i=some L→μ j=some M→Live h i→Live h j→L.block=M.block→i=j
def Frm(μ:Mu)(h:AH)(w w':World):Prop :=
 w.heap.size≤w'.heap.size∧∀b,b<w.heap.size→(∀i L,i<h.blks.size→Live h i→μ i=some L→L.block≠b)→w'.heap[b]?=w.heap[b]?
def Ext(μ:Mu)(h:AH)(w:World)(ν:Mu)(h':AH):Prop :=
 h.blks.size≤h'.blks.size∧μ.le ν∧(∀i,i<h.blks.size→ν i=μ i)∧
 (∀i,i<h.blks.size→Live h' i→Live h i)∧
 (∀i L,h.blks.size≤i→i<h'.blks.size→ν i=some L→w.heap.size≤L.block∨∃j M,j<h.blks.size∧Live h j∧μ j=some M∧M.block=L.block)
theorem Frm.refl(μ:Mu)(h:AH)(w:World):Frm μ h w w:=⟨Nat.le_refl _,fun _ _ _=>rfl⟩
theorem Ext.refl(μ:Mu)(h:AH)(w:World):Ext μ h w μ h:=⟨Nat.le_refl _,Mu.le_refl μ,fun _ _=>rfl,fun _ _ h=>h,fun i L h1 h2=>by omega⟩
theorem Ext.trans{μ ν ξ:Mu}{h h' h'':AH}{w w':World}(a:Ext μ h w ν h')(b:Ext ν h' w' ξ h'')(hw:w.heap.size≤w'.heap.size):Ext μ h w ξ h'':=by
 obtain⟨a1,a2,a3,a4,a5⟩:=a;obtain⟨b1,b2,b3,b4,b5⟩:=b;refine⟨Nat.le_trans a1 b1,Mu.le_trans a2 b2,fun i hi=>?_,fun i hi hl=>a4 i hi (b4 i (by omega) hl),fun i L hi1 hi2 hL=>?_⟩
 ·rw[b3 i (by omega),a3 i (by omega)]
 ·rcases Nat.lt_or_ge i h'.blks.size with hlt | hge
  ·rw[b3 i hlt]at hL;exact a5 i L hi1 hlt hL
  ·rcases b5 i L hge hi2 hL with h1 | ⟨j,M,hj,hl,hM,hb⟩
   ·exact .inl (Nat.le_trans hw h1)
   ·rcases Nat.lt_or_ge j h.blks.size with hlt | hge'
    ·rw[a3 j hlt]at hM;exact .inr ⟨j,M,hlt,a4 j hlt hl,hM,hb⟩
    ·rcases a5 j M hge' hj hM with h1 | ⟨j',M',hj',hl',hM',hb'⟩
     ·exact .inl (by omega)
     ·exact .inr ⟨j',M',hj',hl',hM',hb'.trans hb⟩
theorem Frm.trans{μ ν:Mu}{h h':AH}{w w' w'':World}(a:Frm μ h w w')(e:Ext μ h w ν h')(b:Frm ν h' w' w''):Frm μ h w w'':=by
 obtain⟨e1,e2,e3,e4,e5⟩:=e;refine⟨Nat.le_trans a.1 b.1,fun k hk hn=>(b.2 k (Nat.lt_of_lt_of_le hk a.1) fun i L hi hl hL he=>?_).trans (a.2 k hk hn)⟩;rcases Nat.lt_or_ge i h.blks.size with hlt | hge
 ·exact hn i L hlt (e4 i hlt hl) (by rw[← e3 i hlt];exact hL) he
 ·rcases e5 i L hge hi hL with h1 | ⟨j,M,hj,hl',hM,hb⟩
  ·omega
  ·exact hn j M hj hl' hM (hb.trans he)
end Go.Ab
namespace Go.Ab
variable{P:Program}{O:World}
theorem ko1(b o n:Nat):(⟨b,o,none⟩:Addr).add n=⟨b,o+n,none⟩:=by unfold Addr.add;split<;>simp_all
theorem Addr.add_add(a:Addr)(m n:Nat):(a.add m).add n=a.add (m+n):=by
 unfold Addr.add;by_cases hm:m=0<;>by_cases hn:n=0<;>simp[hm,hn];omega
theorem Ref.add_add(r:Ref)(m n:Nat):(r.add m).add n=r.add (m+n):=by
 cases r with
 | old a=>simp[Ref.add,Addr.add_add]
 | new i o=>simp[Ref.add,Nat.add_assoc]
theorem Ref.add_zero(r:Ref):r.add 0=r:=by
 cases r<;>simp[Ref.add,Addr.add]
theorem RRel.add{μ:Mu}{r:Ref}{a:Addr}(h:RRel μ r a)(n:Nat):RRel μ (r.add n) (a.add n):=by
 cases r with
 | old b=>simp only[RRel,Ref.add]at *;rw[h]
 | new i o =>
  obtain⟨L,h1,rfl⟩:=h;exact⟨L,h1,by rw[ko1,Nat.add_assoc]⟩
theorem kdk{h:AH}{i:Nat}{cs:List AV}{e:TypeId}(hb:h.blks[i]?=some (.cells cs e)):Live h i:=fun b hb'=>by
 rw[hb]at hb';cases hb';simp
theorem ktr{μ:Mu}{h:AH}{w:World}(S:Sim P O μ h w){r:Ref}{a:Addr}(hr:RRel μ r a){v:AV}(hv:h.cell r=some v) :
  ∃u,w.cell? a=some u∧VRel μ v u∧v.one=true:=by
 cases r with
 | old b =>
  simp only[RRel]at hr;subst hr;simp only[AH.cell]at hv;split at hv
  ·rename_i c t f hb;split at hv
   ·simp at hv
   ·rename_i hs;rw[Option.bind_eq_some_iff]at hv;obtain⟨u,hu,hv⟩:=hv;obtain⟨h1,h2⟩:=VRel.ofCell (μ:=μ) hv;refine⟨u,?_,h1,h2⟩;rw[S.old]at hb
    have hlt:a.block<O.heap.size:=by
     rcases Nat.lt_or_ge a.block O.heap.size with h' | h'
     ·exact h'
     ·simp[Array.getElem?_eq_none h']at hb
    simp only[World.cell?,S.keep _ hlt,hb];simp[hs,hu]
  ·simp at hv
 | new i o =>
  obtain⟨L,hL,rfl⟩:=hr;simp only[AH.cell]at hv;split at hv
  ·rename_i cs e hb;obtain⟨⟨c,h1,h2,h3,h5⟩,h6⟩:=S.blk i L _ hL hb;obtain⟨u,hu,hvu⟩:=h5 o v hv;refine⟨u,?_,hvu,?_⟩
   ·simp[World.cell?,h1,hu]
   ·have:=List.all_eq_true.1 h6 v (List.mem_of_getElem? hv);exact this
  ·simp at hv
theorem kne{μ:Mu}{h:AH}{w:World}(S:Sim P O μ h w):∀(n:Nat){r:Ref}{a:Addr},RRel μ r a→∀{vs:List AV},h.gets r n=some vs→
  ∃us:List Value,us.length=n∧(∀j u,us[j]?=some u→w.cell? (a.add j)=some u)∧VRels μ vs us∧vs.all AV.one=true
 | 0,r,a,hr,vs,hv=>by
  simp only[AH.gets,Option.some.injEq]at hv;subst hv;exact⟨[],rfl,by simp,VRels.nil,rfl⟩
 | n+1,r,a,hr,vs,hv=>by
  simp only[AH.gets,Option.bind_eq_some_iff,Option.map_eq_some_iff]at hv;obtain⟨v,h1,ws,h2,rfl⟩:=hv;obtain⟨u,hu,hvu,hone⟩:=ktr S hr h1;obtain⟨us,k1,k2,k3,k4⟩:=kne S n (hr.add 1) h2;refine⟨u::us,by simp[k1],fun j x hx=>?_,VRels.cons hvu k3,by simp[hone];simpa using k4⟩;cases j with
  | zero=>simp at hx;subst hx;simpa[Addr.add]using hu
  | succ j =>
   have:=k2 j x (by simpa using hx);rw[Addr.add_add]at this;rw[Nat.add_comm j 1];exact this
theorem kbbn{cs:List AV}{v:AV}(h:cs.all AV.one=true)(hv:v.one=true)(o:Nat):(cs.set o v).all AV.one=true:=by
 rw[List.all_eq_true]at *
 intro x hx;rcases List.mem_or_eq_of_mem_set hx with h' | rfl
 ·exact h x h'
 ·exact hv
theorem kbck{μ:Mu}{h h':AH}{w:World}(S:Sim P O μ h w){r:Ref}{a:Addr}(hr:RRel μ r a){v:AV}{u:Value}(hv:VRel μ v u)(h1:v.one=true)(hp:h.put r v=some h') :
  (store a u).run P w=.ok () (w.setCell a u)∧Sim P O μ h' (w.setCell a u)∧Ext μ h w μ h'∧Frm μ h w (w.setCell a u):=by
 cases r with
 | old b=>simp[AH.put]at hp
 | new i o =>
  obtain⟨L,hL,rfl⟩:=hr;simp only[AH.put]at hp;split at hp
  ·rename_i cs e hb;split at hp
   ·rename_i hlt;simp only[Option.some.injEq]at hp;subst hp;obtain⟨⟨c,hc,hsz,hle,hcs⟩,hall⟩:=S.blk i L _ hL hb
    have hin:i<h.blks.size:=by
     rcases Nat.lt_or_ge i h.blks.size with h' | h'
     ·exact h'
     ·simp[Array.getElem?_eq_none h']at hb
    have hoff:L.base+o<c.size:=by omega
    have hpl:=S.place i L hL;have hcell:w.cell? ⟨L.block,L.base+o,none⟩=some c[L.base+o]:=by simp[World.cell?,hc,hoff]
    have hfr:w.frozen? ⟨L.block,L.base+o,none⟩=false:=by simp[World.frozen?,hc]
    have hnew:(w.setCell ⟨L.block,L.base+o,none⟩ u).heap[L.block]?=some (.cells (c.setIfInBounds (L.base+o) u) e (0,0)):=by
     simp[World.setCell,Array.getElem?_modify,hc]
    have hoth:∀b,b≠L.block→(w.setCell ⟨L.block,L.base+o,none⟩ u).heap[b]?=w.heap[b]?:=fun b hb=>by
     simp only[World.setCell,Array.getElem?_modify];rw[if_neg (by simpa using fun h=>hb h.symm)]
    have hlive:∀j,Live {h with blks:=h.blks.setIfInBounds i (.cells (cs.set o v) e)} j→Live h j:=fun j hj b hb'=>by
     by_cases hji:i=j
     ·subst hji;rw[hb]at hb';cases hb';simp
     ·exact hj b (by rw[Array.getElem?_setIfInBounds_ne hji];exact hb')
    refine⟨?_,?_,?_,?_⟩
    ·rw[run_store P w _ u _ (hv.one h1),hcell,hfr];rfl
    ·refine{old:=S.old,os:=S.os,tape:=S.tape,output:=S.output,base:=by simpa using S.base,dom:=fun j M hM=>by simpa using S.dom j M hM,keep:=fun b hb'=>?_,place:=fun j M hM=>by simpa using S.place j M hM,blk:=fun j M b hM hb'=>?_,inj:=fun j k M N hM hN lj lk he=>S.inj j k M N hM hN (hlive j lj) (hlive k lk) he}
     ·rw[hoth b (by omega)];exact S.keep b hb'
     ·by_cases hji:i=j
      ·subst hji;rw[hL]at hM;cases hM;simp[hin]at hb';subst hb';refine⟨⟨_,hnew,by simpa using hsz,by simpa using hle,fun k x hx=>?_⟩,kbbn hall h1 o⟩;by_cases hk:o=k
       ·subst hk;have hx':x=v:=by simpa[List.getElem?_set_self hlt]using hx.symm
        subst hx';exact⟨u,by simp[hoff],hv⟩
       ·rw[List.getElem?_set_ne hk]at hx;obtain⟨y,hy,hxy⟩:=hcs k x hx;exact⟨y,by rw[Array.getElem?_setIfInBounds_ne (by omega)];exact hy,hxy⟩
      ·rw[Array.getElem?_setIfInBounds_ne hji]at hb';have hB:=S.blk j M b hM hb';cases b with
       | dead=>trivial
       | loop st pe f fr ps as bd n =>
        have hne:M.block≠L.block:=fun he=>hji (S.inj i j L M hL hM (kdk hb) (fun b' hb2=>by rw[hb']at hb2;cases hb2;simp) he.symm);obtain⟨tmps,d,k1,k2⟩:=hB;exact⟨tmps,d,by rw[hoth _ hne];exact k1,k2⟩
       | iter im is il ik =>
        have hne:M.block≠L.block:=fun he=>hji (S.inj i j L M hL hM (kdk hb) (fun b' hb2=>by rw[hb']at hb2;cases hb2;simp) he.symm);obtain⟨⟨r,k1,k2⟩,k3⟩:=hB;exact⟨⟨r,by rw[hoth _ hne];exact k1,k2⟩,k3⟩
       | cells ds f =>
        have hne:M.block≠L.block:=fun he=>hji (S.inj i j L M hL hM (kdk hb) (kdk hb') he.symm);obtain⟨⟨d,k1,k2⟩,k3⟩:=hB;exact⟨⟨d,by rw[hoth _ hne];exact k1,k2⟩,k3⟩
       | map es ck =>
        have hne:M.block≠L.block:=fun he=>hji (S.inj i j L M hL hM (kdk hb) (fun b' hb2=>by rw[hb']at hb2;cases hb2;simp) he.symm);obtain⟨us,k1,k2⟩:=hB;exact⟨us,by rw[hoth _ hne];exact k1,k2⟩
    ·exact⟨by simp,Mu.le_refl μ,fun _ _=>rfl,fun j _ hj=>hlive j hj,fun j M h1 h2=>by simp at h2;omega⟩
    ·refine⟨by simp,fun b hb' hn=>hoth b fun he=>hn i L hin (kdk hb) hL he.symm⟩
   ·simp at hp
  ·simp at hp
theorem km0:∀{vs:List AV}{us:List Value}{μ:Mu}{h h':AH}{w:World}(S:Sim P O μ h w){r:Ref}{a:Addr}{i:Nat}(hr:RRel μ r (a.add i))(hv:VRels μ vs us)(h1:vs.all AV.one=true)(hp:h.puts r vs=some h'),
  ∃w',(storeCells a us i).run P w=.ok () w'∧Sim P O μ h' w'∧Ext μ h w μ h'∧Frm μ h w w'
 | [],us,μ,h,h',w,S,r,a,i,hr,hv,h1,hp=>by
  simp only[AH.puts,Option.some.injEq]at hp;subst hp;have:=hv.nil_inv;subst this;exact⟨w,rfl,S,Ext.refl _ _ _,Frm.refl _ _ _⟩
 | v::vs,us,μ,h,h',w,S,r,a,i,hr,hv,h1,hp=>by
  obtain⟨x,xs,rfl,hx,hxs⟩:=hv.cons_inv;simp only[AH.puts,Option.bind_eq_some_iff]at hp;obtain⟨h2,hp1,hp2⟩:=hp;simp only[List.all_cons,Bool.and_eq_true]at h1;obtain⟨s1,s2,s3,s4⟩:=kbck S hr hx h1.1 hp1
  have hr':RRel μ (r.add 1) (a.add (i+1)):=by
   have:=hr.add 1;rwa[Addr.add_add]at this
  obtain⟨w',t1,t2,t3,t4⟩:=km0 s2 hr' hxs h1.2 hp2;refine⟨w',?_,t2,s3.trans t3 s4.1,s4.trans s3 t4⟩;simp only[storeCells,Sem.run_bind,s1,Result.andThen_ok,t1]
def Mu.set(μ:Mu)(i:Nat)(L:Loc):Mu:=fun j=>if j=i then some L else μ j
theorem Mu.le_set{μ:Mu}{i:Nat}{L:Loc}(h:μ i=none):Mu.le μ (Mu.set μ i L):=fun j M hM=>by
 unfold Mu.set;split
 ·subst_vars;rw[h]at hM;cases hM
 ·exact hM
theorem kch(w:World)(o:Obj)(k:Nat)(h:k<w.heap.size):(w.alloc o).heap[k]?=w.heap[k]?:=by
 show(w.heap.push o)[k]?=_;rw[Array.getElem?_push,if_neg (by omega)]
theorem ke9(w:World)(o:Obj):(w.alloc o).heap[w.heap.size]?=some o:=by
 show(w.heap.push o)[w.heap.size]?=_;simp
theorem kfm{h:AH}{i:Nat}{b:ABlk}(hi:i≠h.blks.size):Live {h with blks:=h.blks.push b} i→Live h i:=fun hl c hc=>hl c (by
 have:i<h.blks.size:=by
  rcases Nat.lt_or_ge i h.blks.size with h' | h'
  ·exact h'
  ·simp[Array.getElem?_eq_none h']at hc
 rw[Array.getElem?_push,if_neg (by omega)];exact hc)
theorem BRel.step{μ ν:Mu}{L:Loc}{w w':World}{b:ABlk}(h:BRel P μ L w b)(hle:Mu.le μ ν)(hb:b≠.dead→w'.heap[L.block]?=w.heap[L.block]?):BRel P ν L w' b:=by
 cases b with
 | dead=>trivial
 | loop st pe f fr ps as bd n =>
  have hb:=hb (by simp);obtain⟨tmps,d,h1,h2⟩:=h;exact⟨tmps,d,by rw[hb];exact h1,fun fn hf=>(h2 fn hf).mono hle⟩
 | iter im is il ik =>
  have hb:=hb (by simp);obtain⟨⟨r,h1,h2⟩,h3⟩:=h;refine⟨⟨r,by rw[hb];exact h1,?_⟩,h3⟩;cases im with
  | none=>exact h2
  | some i =>
   obtain⟨M,e1,e2⟩:=h2;exact⟨M,hle _ _ e1,e2⟩
 | cells cs e =>
  have hb:=hb (by simp);obtain⟨⟨c,h1,h2,h3,h5⟩,h6⟩:=h;exact⟨⟨c,by rw[hb];exact h1,h2,h3,fun j v hj=>let ⟨u,a,b⟩:=h5 j v hj;⟨u,a,b.mono hle⟩⟩,h6⟩
 | map es ck =>
  have hb:=hb (by simp);obtain⟨us,h1,h2,h3⟩:=h;exact⟨us,by rw[hb];exact h1,h2,fun j e hj=>let ⟨u,a,b,c,d⟩:=h3 j e hj;⟨u,a,b.mono hle,c.mono hle,d⟩⟩
theorem kkl{μ:Mu}{h:AH}{w:World}(S:Sim P O μ h w){cs:List AV}{us rest:List Value}(hv:VRels μ cs us)(h1:cs.all AV.one=true)(e:TypeId) :
  Sim P O (Mu.set μ h.blks.size ⟨w.heap.size,0,us.length+rest.length⟩) (h.alloc (.cells cs e)) (w.alloc (.cells (us++rest).toArray e))∧
  Ext μ h w (Mu.set μ h.blks.size ⟨w.heap.size,0,us.length+rest.length⟩) (h.alloc (.cells cs e))∧
  Frm μ h w (w.alloc (.cells (us++rest).toArray e)):=by
 have hf:μ h.blks.size=none:=by
  cases hq:μ h.blks.size with
  | none=>rfl
  | some L=>have:=S.dom _ _ hq;omega
 have hle:=Mu.le_set (L:=⟨w.heap.size,0,us.length+rest.length⟩) hf;refine⟨{old:=S.old,os:=S.os,tape:=S.tape,output:=S.output,base:=by have:=S.base;simp;omega,dom:=fun i L hL=>?_,keep:=fun b hb=>?_,place:=fun i L hL=>?_,blk:=fun i L b hL hb=>?_,inj:=fun i j L M hL hM li lj he=>?_},?_,?_⟩
 ·rw[kch _ _ _ (Nat.lt_of_lt_of_le hb S.base)];exact S.keep b hb
 ·unfold Mu.set at hL;split at hL
  ·subst_vars;simp
  ·have:=S.dom i L hL;simp;omega
 ·unfold Mu.set at hL;split at hL
  ·cases hL;have:=S.base;simp;omega
  ·have:=S.place i L hL;simp;omega
 ·unfold Mu.set at hL;split at hL
  ·rename_i hi;subst hi;cases hL;simp at hb;subst hb;refine⟨⟨_,ke9 _ _,by simp,by simp;have:=hv.length;omega,fun j v hj=>?_⟩,h1⟩;obtain⟨u,hu,huv⟩:=hv.get j v hj
   have hlt:j<us.length:=by
    rcases Nat.lt_or_ge j us.length with h' | h'
    ·exact h'
    ·simp[List.getElem?_eq_none h']at hu
   exact⟨u,by simp[List.getElem?_append_left hlt,hu],huv.mono hle⟩
  ·rename_i hi
   have hb':h.blks[i]?=some b:=by
    simp only[Array.getElem?_push]at hb
    simpa[hi]using hb
   exact(S.blk i L b hL hb').step hle fun _=>kch _ _ _ (S.place i L hL).2
 ·unfold Mu.set at hL hM;split at hL<;>split at hM
  ·omega
  ·cases hL;have:=S.place j M hM;simp at he;omega
  ·cases hM;have:=S.place i L hL;simp at he;omega
  ·exact S.inj i j L M hL hM (kfm (by assumption) li) (kfm (by assumption) lj) he
 ·refine⟨by simp,hle,fun i hi=>?_,fun i hi hl=>kfm (by omega) hl,fun i L h2 h3 hL=>.inl ?_⟩
  ·unfold Mu.set;rw[if_neg];omega
  ·simp at h3;have:i=h.blks.size:=by omega
   subst this;simp[Mu.set]at hL;subst hL;exact Nat.le_refl _
 ·exact⟨by simp,fun b hb _=>kch _ _ _ hb⟩
theorem kdc(μ:Mu)(i:Nat)(L:Loc):Mu.set μ i L i=some L:=by simp[Mu.set]
theorem RRel.new{μ:Mu}{i:Nat}{L:Loc}(o:Nat):RRel (Mu.set μ i L) (.new i o) ⟨L.block,L.base+o,none⟩:=⟨L,kdc _ _ _,rfl⟩
theorem kqv{μ:Mu}{h:AH}{w:World}(S:Sim P O μ h w){b:ABlk}{o:Obj}{n:Nat}(hB:∀ν,Mu.le μ ν→BRel P ν ⟨w.heap.size,0,n⟩ (w.alloc o) b) :
  Sim P O (Mu.set μ h.blks.size ⟨w.heap.size,0,n⟩) (h.alloc b) (w.alloc o)∧Ext μ h w (Mu.set μ h.blks.size ⟨w.heap.size,0,n⟩) (h.alloc b)∧Frm μ h w (w.alloc o):=by
 have hf:μ h.blks.size=none:=by
  cases hq:μ h.blks.size with
  | none=>rfl
  | some L=>have:=S.dom _ _ hq;omega
 have hle:=Mu.le_set (L:=⟨w.heap.size,0,n⟩) hf;refine⟨{old:=S.old,os:=S.os,tape:=S.tape,output:=S.output,base:=by have:=S.base;simp;omega,dom:=fun i L hL=>?_,keep:=fun b hb=>?_,place:=fun i L hL=>?_,blk:=fun i L b hL hb=>?_,inj:=fun i j L M hL hM li lj he=>?_},?_,?_⟩
 ·rw[kch _ _ _ (Nat.lt_of_lt_of_le hb S.base)];exact S.keep b hb
 ·unfold Mu.set at hL;split at hL
  ·subst_vars;simp
  ·have:=S.dom i L hL;simp;omega
 ·unfold Mu.set at hL;split at hL
  ·cases hL;have:=S.base;simp;omega
  ·have:=S.place i L hL;simp;omega
 ·unfold Mu.set at hL;split at hL
  ·rename_i hi;subst hi;cases hL;simp at hb;subst hb;exact hB _ hle
  ·rename_i hi
   have hb':h.blks[i]?=some b:=by
    simp only[Array.getElem?_push]at hb
    simpa[hi]using hb
   exact(S.blk i L b hL hb').step hle fun _=>kch _ _ _ (S.place i L hL).2
 ·unfold Mu.set at hL hM;split at hL<;>split at hM
  ·omega
  ·cases hL;have:=S.place j M hM;simp at he;omega
  ·cases hM;have:=S.place i L hL;simp at he;omega
  ·exact S.inj i j L M hL hM (kfm (by assumption) li) (kfm (by assumption) lj) he
 ·refine⟨by simp,hle,fun i hi=>?_,fun i hi hl=>kfm (by omega) hl,fun i L h2 h3 hL=>.inl ?_⟩
  ·unfold Mu.set;rw[if_neg];omega
  ·simp at h3;have:i=h.blks.size:=by omega
   subst this;simp[Mu.set]at hL;subst hL;exact Nat.le_refl _
 ·exact⟨by simp,fun b hb _=>kch _ _ _ hb⟩
theorem k3h{μ:Mu}{h:AH}{w:World}(S:Sim P O μ h w)(o:Obj):Sim P O μ h (w.alloc o)∧Ext μ h w μ h∧Frm μ h w (w.alloc o):=by
 refine⟨{old:=S.old,os:=S.os,tape:=S.tape,output:=S.output,base:=by have:=S.base;simp;omega,dom:=S.dom,keep:=fun b hb=>?_,place:=fun i L hL=>?_,blk:=fun i L b hL hb=>?_,inj:=S.inj},Ext.refl _ _ _,by simp,fun b hb _=>kch _ _ _ hb⟩
 ·rw[kch _ _ _ (Nat.lt_of_lt_of_le hb S.base)];exact S.keep b hb
 ·have:=S.place i L hL;simp;omega
 ·exact(S.blk i L b hL hb).step (Mu.le_refl _) fun _=>kch _ _ _ (S.place i L hL).2
theorem kma{h:AH}{i:Nat}{b:ABlk}(hb:h.blks[i]?=some b)(hd:b≠.dead):Live h i:=fun b' hb'=>by
 rw[hb]at hb';cases hb';exact hd
theorem kjv{μ:Mu}{h:AH}{w:World}(S:Sim P O μ h w){i:Nat}{L:Loc}(hL:μ i=some L){b b':ABlk}(hb:h.blks[i]?=some b)(hd:b≠.dead){o:Obj}(hB:BRel P μ L (w.putObj L.block o) b') :
  Sim P O μ (h.setBlk i b') (w.putObj L.block o)∧Ext μ h w μ (h.setBlk i b')∧Frm μ h w (w.putObj L.block o):=by
 have hin:=S.dom i L hL;have hpl:=S.place i L hL
 have hlive:∀j,Live (h.setBlk i b') j→Live h j:=fun j hj c hc=>by
  by_cases hji:i=j
  ·subst hji;rw[hb]at hc;cases hc;exact hd
  ·exact hj c (by simp only[AH.setBlk];rw[Array.getElem?_setIfInBounds_ne hji];exact hc)
 refine⟨{old:=S.old,os:=S.os,tape:=S.tape,output:=S.output,base:=by simpa using S.base,dom:=fun j M hM=>by simpa[AH.setBlk]using S.dom j M hM,keep:=fun c hc=>?_,place:=fun j M hM=>by simpa using S.place j M hM,blk:=fun j M c hM hc=>?_,inj:=fun j k M N hM hN lj lk he=>S.inj j k M N hM hN (hlive j lj) (hlive k lk) he},?_,?_⟩
 ·rw[World.putObj_heap_other (by omega)];exact S.keep c hc
 ·by_cases hji:i=j
  ·subst hji;rw[hL]at hM;cases hM;simp[AH.setBlk,hin]at hc;subst hc;exact hB
  ·simp only[AH.setBlk]at hc;rw[Array.getElem?_setIfInBounds_ne hji]at hc;refine(S.blk j M c hM hc).step (Mu.le_refl _) fun hcd=>World.putObj_heap_other fun he=>hji ?_;exact(S.inj j i M L hM hL (kma hc hcd) (kma hb hd) he).symm
 ·exact⟨by simp[AH.setBlk],Mu.le_refl μ,fun _ _=>rfl,fun j _ hj=>hlive j hj,fun j M h1 h2=>by simp[AH.setBlk]at h2;omega⟩
 ·exact⟨by simp,fun c _ hn=>World.putObj_heap_other fun he=>hn i L hin (kma hb hd) hL he.symm⟩
theorem kzg{μ:Mu}{h:AH}{w:World}(S:Sim P O μ h w){r:Nat}(hr:O.heap.size≤r)(hu:∀i L,Live h i→μ i=some L→L.block≠r)(o:Obj):Sim P O μ h (w.putObj r o):=by
 refine{old:=S.old,os:=S.os,tape:=S.tape,output:=S.output,base:=by simpa using S.base,dom:=S.dom,keep:=fun c hc=>?_,place:=fun j M hM=>by simpa using S.place j M hM,blk:=fun j M c hM hc=>?_,inj:=S.inj}
 ·rw[World.putObj_heap_other (by omega)];exact S.keep c hc
 ·exact(S.blk j M c hM hc).step (Mu.le_refl _) fun hcd=>World.putObj_heap_other (hu j M (kma hc hcd) hM)
end Go.Ab
namespace Go.Ab
variable{P:Program}{O:World}{R:Type}
theorem kbt{c:Bool}{x y:Option R}{r:R}(h:cond c x y=some r):(c=true∧x=some r)∨(c=false∧y=some r):=by
 cases c
 ·exact .inr ⟨rfl,h⟩
 ·exact .inl ⟨rfl,h⟩
theorem ki{c:Bool}{x:Option R}{r:R}(h:cond c x none=some r):c=true∧x=some r:=by
 cases c
 ·cases h
 ·exact⟨rfl,h⟩
theorem kc2{c:Bool}{x:Option R}{r:R}(h:cond c none x=some r):c=false∧x=some r:=by
 cases c
 ·exact⟨rfl,h⟩
 ·cases h
theorem kyz{k:IntKind}{v:AV}{n:Int}(h:v.asInt k=some n):v=.int k n:=by
 cases v<;>simp[AV.asInt]at h;obtain⟨h1,h2⟩:=ki h;simp at h1 h2;rw[h1,h2]
theorem k1f{v:AV}{b:Bool}(h:v.asBool=some b):v=.bool b:=by cases v<;>simp[AV.asBool]at h;rw[h]
theorem k38{v:AV}{b:ByteArray}(h:v.asStr=some b):v=.str b:=by cases v<;>simp[AV.asStr]at h;rw[h]
theorem k8w{v:AV}{b:Option Ref}(h:v.asPtr=some b):v=.ptr b:=by cases v<;>simp[AV.asPtr]at h;rw[h]
theorem kye{v:AV}{b:Option Nat}(h:v.asMap=some b):v=.map b:=by cases v<;>simp[AV.asMap]at h;rw[h]
theorem kbe1{v:AV}{s:Sl}(h:v.asSl=some s):v=.slice s.ref s.len s.cap:=by cases v<;>simp[AV.asSl]at h;rw[← h]
theorem kw8{v:AV}{s:List AV}(h:v.asAgg=some s):v=.agg s:=by cases v<;>simp[AV.asAgg]at h;rw[h]
theorem kx1{v:AV}{p:TypeId×AV}(h:v.asIface=some p):v=.iface p.1 p.2:=by cases v<;>simp[AV.asIface]at h;rw[← h]
theorem kmx{l:Leaf}{x:Option AV}{k:AV→Option R}{r:R}(h:leafK l x k=some r):∃v,x=some v∧k v=some r:=by
 cases l<;>simp only[leafK,Option.bind_eq_some_iff]at h
 case any=>exact h
 all_goals
  obtain⟨y,⟨v,hx,hv⟩,hk⟩:=h;refine⟨v,hx,?_⟩
 ·rw[kyz hv];exact hk
 ·rw[k1f hv];exact hk
 ·rw[k38 hv];exact hk
 ·rw[kbe1 hv];exact hk
 ·rw[k8w hv];exact hk
 ·rw[kye hv];exact hk
theorem kop{get:Nat→Option AV}:∀{ls:List Leaf}{i:Nat}{k:List AV→Option R}{r:R},kdb get ls i k=some r→
  ∃vs,vs.length=ls.length∧(∀j v,vs[j]?=some v→get (i+j)=some v)∧k vs=some r
 | [],i,k,r,h=>⟨[],rfl,by simp,h⟩
 | l::ls,i,k,r,h=>by
  simp only[kdb]at h;obtain⟨v,hv,hk⟩:=kmx h;obtain⟨vs,h1,h2,h3⟩:=kop hk;refine⟨v::vs,by simp[h1],fun j x hx=>?_,h3⟩;cases j with
  | zero=>simp at hx;subst hx;simpa using hv
  | succ j =>
   have:=h2 j x (by simpa using hx);rw[show i+(j+1)=i+1+j from by omega];exact this
theorem kps{t:TypeId}{d:TypeDesc}(h:P.underlying t=some d):∃i,P.info? t=some i:=by
 unfold Program.underlying at h;split at h
 ·rename_i u _ _ _ _ _ _ _ _ _ hi;exact⟨_,hi⟩
 ·rename_i i _ hi;exact⟨_,hi⟩
 ·cases h
theorem kms{t:TypeId}{d:TypeDesc}(h:P.underlying t=some d)(w:World):(sizeOf t).run P w=.ok (P.cellsOf t) w:=by
 obtain⟨i,hi⟩:=kps h;simp[sizeOf,typeInfo,hi,Program.cellsOf]
theorem klv{t:TypeId}{d:TypeDesc}(h:P.underlying t=some d)(w:World):(isAgg t).run P w=.ok (isAggD d) w:=by
 unfold isAgg;simp only[Sem.run_bind,run_underlying h,Result.andThen_ok];cases d<;>rfl
theorem kq9{μ:Mu}{h:AH}{w:World}(S:Sim P O μ h w){r:Ref}{a:Addr}(hr:RRel μ r a){t:TypeId}{k:AV→Option R}{res:R}
  (hk:loadK P t r h k=some res):∃v u,k v=some res∧VRel μ v u∧(loadVar t a).run P w=.ok u w:=by
 unfold loadK at hk;split at hk
 ·rename_i d hd;rcases kbt hk with⟨hc,hk⟩ | ⟨hc,hk⟩
  ·split at hk
   ·rename_i ls hls;obtain⟨hn,hk⟩:=ki hk;obtain⟨vs,h1,h2,h3⟩:=kop hk;have hlen:vs.length=P.cellsOf t:=by rw[h1];exact Nat.eq_of_beq_eq_true hn
    have hg:∀(vs:List AV)(r:Ref),(∀(j:Nat)(v:AV),vs[j]?=some v→h.cell (r.add j)=some v)→h.gets r vs.length=some vs:=by
     intro vs
     induction vs with
     | nil=>intro r _;rfl
     | cons v vs ih =>
      intro r hall;have h0:=hall 0 v (by simp);rw[Ref.add_zero]at h0;have hih:=ih (r.add 1) (fun j x hx=>by rw[Ref.add_add,Nat.add_comm];exact hall (j+1) x (by simpa using hx));simp[AH.gets,h0,hih]
    obtain⟨us,k1,k2,k3,k4⟩:=kne S vs.length hr (hg vs r (fun j v hj=>by have:=h2 j v hj;simpa using this));refine⟨.agg vs,.agg us.toArray,h3,?_,?_⟩
    ·simp only[VRel];exact⟨us.toArray,rfl,by simpa using k3,k4⟩
    ·have hl:=run_loadCells_list (P:=P) w a us (fun j v hj=>k2 j v hj);rw[k1,hlen]at hl;simp[loadVar,klv hd,hc,kms hd,hl]
   ·cases hk
  ·split at hk
   ·rename_i l hl;obtain⟨v,hv,hk⟩:=kmx hk;obtain⟨u,hu,hvu,_⟩:=ktr S hr hv;refine⟨v,u,hk,hvu,?_⟩;simp[loadVar,klv hd,hc,hu]
   ·cases hk
 ·cases hk
theorem kce{t:TypeId}{v:AV}{k:AV→Option R}{r:R}(h:seeK P t v k=some r):k v=some r:=by
 unfold seeK at h;split at h
 ·rcases kbt h with⟨_,h⟩ | ⟨_,h⟩
  ·split at h
   ·rename_i ls _;rw[Option.bind_eq_some_iff]at h;obtain⟨cs,hcs,h⟩:=h;obtain⟨hn,h⟩:=ki h;obtain⟨vs,h1,h2,h3⟩:=kop h;rw[kw8 hcs]
    have:vs=cs:=by
     have hn:=Nat.eq_of_beq_eq_true hn;apply List.ext_getElem?;intro j;rcases Nat.lt_or_ge j vs.length with hj | hj
     ·have:=h2 j vs[j] (by simp[hj]);simp[List.getElem?_eq_getElem hj]
      simpa using this.symm
     ·rw[List.getElem?_eq_none hj,List.getElem?_eq_none (by omega)]
    rw[← this];exact h3
   ·cases h
  ·split at h
   ·obtain⟨x,hx,h⟩:=kmx h;cases hx;exact h
   ·cases h
 ·cases h
theorem k7r{t:TypeId}{v:AV}{k:AV→Option R}{r:R}(h:aggK P t v k=some r):k v=some r:=by
 unfold aggK at h;split at h
 ·rename_i d hd;cases ha:isAggD d with
  | true=>rw[ha,cond_true]at h;exact kce h
  | false=>rw[ha,cond_false]at h;exact h
 ·cases h
theorem k4n{v:AV}{x:Unit}(h:v.asTup0=some x):v=.tup []:=by
 unfold AV.asTup0 at h;split at h
 ·rfl
 ·cases h
theorem kbab{v:AV}{p:AV×AV}(h:v.asTup2=some p):v=.tup [p.1,p.2]:=by
 unfold AV.asTup2 at h;split at h
 ·cases h;rfl
 ·cases h
theorem kza{v:AV}{p:AV×AV×AV}(h:v.asTup3=some p):v=.tup [p.1,p.2.1,p.2.2]:=by
 unfold AV.asTup3 at h;split at h
 ·cases h;rfl
 ·cases h
theorem kba1{v:AV}{p:AV×AV×AV×AV}(h:v.asTup4=some p):v=.tup [p.1,p.2.1,p.2.2.1,p.2.2.2]:=by
 unfold AV.asTup4 at h;split at h
 ·cases h;rfl
 ·cases h
theorem kp9{t:TypeId}{v:AV}{k:AV→Option R}{r:R}(h:kfv P t v k=some r):k v=some r:=by
 unfold kfv at h;split at h
 ·split at h
  case h_5=>cases h
  all_goals
   simp only[Option.bind_eq_some_iff]at h;obtain⟨p,h1,h2⟩:=h
  ·rw[k4n h1];exact h2
  ·rw[kbab h1];have h3:=kce h2;have h4:=kce h3;exact h4
  ·rw[kza h1];have h3:=kce h2;have h4:=kce h3;have h5:=kce h4;exact h5
  ·rw[kba1 h1];have h3:=kce h2;have h4:=kce h3;have h5:=kce h4;have h6:=kce h5;exact h6
 ·exact kce h
theorem klb{μ:Mu}{t:TypeId}{v:AV}{k:List AV→Option R}{r:R}(h:cellsK P t v k=some r){u:Value}(hv:VRel μ v u) :
  ∃cs,k cs=some r∧VRels μ cs u.cells.toList∧cs.all AV.one=true∧u.cells.size=P.cellsOf t∧cs.length=P.cellsOf t∧∃d,P.underlying t=some d:=by
 unfold cellsK at h;split at h
 ·rename_i d hd;rcases kbt h with⟨_,h⟩ | ⟨_,h⟩
  ·rw[Option.bind_eq_some_iff]at h;obtain⟨cs,hcs,h⟩:=h;obtain⟨hn,h⟩:=ki h;have hn:=Nat.eq_of_beq_eq_true hn;rw[kw8 hcs]at hv;simp only[VRel]at hv;obtain⟨us,rfl,h2,h3⟩:=hv;refine⟨cs,h,h2,h3,?_,hn,d,hd⟩;have:=h2.length;simp[Value.cells]at *
   omega
  ·obtain⟨hn,h⟩:=ki h;obtain⟨h1,h⟩:=ki h;have hn:=Nat.eq_of_beq_eq_true hn;have:=hv.cells_one h1;refine⟨[v],h,?_,by simp[h1],by rw[this];simp[hn],by simp[hn],d,hd⟩;rw[this];exact VRels.cons hv VRels.nil
 ·cases h
theorem kr8{μ:Mu}{t:TypeId}{zs:List AV}(h:kbs P t=some zs)(w:World) :
  ∃z,(zeroValue t).run P w=.ok z w∧VRels μ zs z.cells.toList∧zs.all AV.one=true:=by
 unfold kbs at h;split at h
 ·rename_i i hi;split at h
  ·rename_i z hz;obtain⟨h1,h2⟩:=VRels.ofCells (μ:=μ) h;exact⟨z,by simp[zeroValue,typeInfo,hi,hz],h1,h2⟩
  ·cases h
 ·cases h
theorem Fr.get_cons(s:Nat)(v:AV)(fr:Fr)(t:Nat):Fr.get ((s,v)::fr) t=if s=t then some v else Fr.get fr t:=by
 simp only[Fr.get];by_cases h:s=t
 ·subst h;simp
 ·have:Nat.beq s t=false:=by
   cases hb:Nat.beq s t with
   | false=>rfl
   | true=>exact absurd (Nat.eq_of_beq_eq_true hb) h
  simp[this,h]
theorem FRel.put{μ:Mu}{N:Nat}{fr:Fr}{a:Act}(h:FRel μ N fr a.tmps){t:Nat}(ht:t<N){v:AV}{u:Value}(hv:VRel μ v u):FRel μ N ((t,v)::fr) (a.put (some t) u).tmps:=by
 refine⟨by simp[Act.put,h.size],fun s x hx=>?_⟩;rw[Fr.get_cons]at hx;split at hx
 ·rename_i hs;subst hs;cases hx;exact⟨u,by simp[Act.put,h.size,ht],hv⟩
 ·rename_i hs;obtain⟨y,hy,hxy⟩:=h.get s x hx;exact⟨y,by simp only[Act.put];rw[Array.getElem?_setIfInBounds_ne hs];exact hy,hxy⟩
theorem FRel.learn{μ:Mu}{N:Nat}{fr:Fr}{tmps:Array Value}(h:FRel μ N fr tmps){t:Nat}{v x:AV}(hx:fr.get t=some x)(hv:∀u,VRel μ x u→VRel μ v u):FRel μ N ((t,v)::fr) tmps:=by
 refine⟨h.size,fun s y hy=>?_⟩;rw[Fr.get_cons]at hy;split at hy
 ·rename_i hs;subst hs;cases hy;obtain⟨u,h1,h2⟩:=h.get t x hx;exact⟨u,h1,hv u h2⟩
 ·exact h.get s y hy
theorem FRel.keep{μ:Mu}{N:Nat}{fr:Fr}{tmps:Array Value}(h:FRel μ N fr tmps)(L:List Nat):FRel μ N (fr.keep L) tmps:=by
 refine⟨h.size,fun t v hv=>h.get t v ?_⟩
 induction L with
 | nil=>simp[Fr.keep,Fr.get]at hv
 | cons s L ih =>
  simp only[Fr.keep]at hv;split at hv
  ·rename_i x hx;rw[Fr.get_cons]at hv;split at hv
   ·rename_i hs;subst hs;cases hv;exact hx
   ·exact ih hv
  ·exact ih hv
theorem kp{μ:Mu}{N:Nat}{fr:Fr}{a:Act}(h:FRel μ N fr a.tmps){x:Operand}{v:AV}(hv:evO fr x=some v):VRel μ v (a.eval x):=by
 cases x with
 | tmp t =>
  simp only[evO]at hv;obtain⟨u,hu,hvu⟩:=h.get t v hv;simp only[Act.eval,Array.getD_eq_getD_getElem?,hu,Option.getD_some];exact hvu
 | const c=>exact VRel.ofValue hv
 | global g =>
  simp only[evO,Option.some.injEq]at hv;subst hv;simp[VRel,RRel,Act.eval]
 | func f =>
  simp only[evO,Option.some.injEq]at hv;subst hv;simp only[VRel,Act.eval];exact⟨.func f,#[],#[],rfl,rfl,VRels.nil,VRels.nil⟩
theorem kcs{μ:Mu}{N:Nat}{fr:Fr}{a:Act}(h:FRel μ N fr a.tmps):∀{xs:List Operand}{vs:List AV},evs fr xs=some vs→VRels μ vs (xs.map a.eval)
 | [],vs,hv=>by simp only[evs,Option.some.injEq]at hv;subst hv;exact VRels.nil
 | x::xs,vs,hv=>by
  simp only[evs]at hv;split at hv
  ·rename_i v ws h1 h2;simp only[Option.some.injEq]at hv;subst hv;exact VRels.cons (kp h h1) (kcs h h2)
  ·cases hv
end Go.Ab
namespace Go.Ab
variable{P:Program}{O:World}{R:Type}
def Good(P:Program)(O:World)(μ:Mu)(h:AH)(w:World)(v:AV)(h':AH)(u:Value)(w':World):Prop :=
 ∃ν,VRel ν v u∧Sim P O ν h' w'∧Ext μ h w ν h'∧Frm μ h w w'
theorem Good.pure{μ:Mu}{h:AH}{w:World}(S:Sim P O μ h w){v:AV}{u:Value}(hv:VRel μ v u):Good P O μ h w v h u w :=
 ⟨μ,hv,S,Ext.refl _ _ _,Frm.refl _ _ _⟩
def Yields(P:Program)(s:Sem Value)(w:World)(G:Value→World→Prop):Prop:=∃u w',s.run P w=.ok u w'∧G u w'
theorem k6n{op:BinOp}{kd:IntKind}{a b:Int}{k:AV→Option R}{r:R}(h:intK op kd a b k=some r)(t:TypeId)(w:World) :
  ∃v u,k v=some r∧(∀μ,VRel μ v u)∧(binOp op t (.int kd a) (.int kd b)).run P w=.ok u w:=by
 cases op<;>simp only[intK]at h
 case shl=>cases h
 case shr=>cases h
 case quo =>
  obtain⟨h1,h2⟩:=kc2 h;refine⟨_,.int kd (kd.wrap (a.tdiv b)),h2,fun μ=>by simp[VRel],?_⟩;simp at h1;simp[binOp,Op.intDiv,h1]
 case rem =>
  obtain⟨h1,h2⟩:=kc2 h;refine⟨_,.int kd (a.tmod b),h2,fun μ=>by simp[VRel],?_⟩;simp at h1;simp[binOp,Op.intDiv,h1]
 case add=>exact⟨_,.int kd (kd.wrap (a+b)),h,fun μ=>by simp[VRel],by simp[binOp,Op.intArith]⟩
 case sub=>exact⟨_,.int kd (kd.wrap (a-b)),h,fun μ=>by simp[VRel],by simp[binOp,Op.intArith]⟩
 case mul=>exact⟨_,.int kd (kd.wrap (a*b)),h,fun μ=>by simp[VRel],by simp[binOp,Op.intArith]⟩
 case and=>exact⟨_,.int kd (iand kd a b),h,fun μ=>by simp[VRel],by simp[binOp,Op.intBits,iand]⟩
 case or=>exact⟨_,.int kd (ior kd a b),h,fun μ=>by simp[VRel],by simp[binOp,Op.intBits,ior]⟩
 case xor=>exact⟨_,.int kd (ixor kd a b),h,fun μ=>by simp[VRel],by simp[binOp,Op.intBits,ixor]⟩
 case andNot=>exact⟨_,.int kd (kq6 kd a b),h,fun μ=>by simp[VRel],by simp[binOp,Op.intBits,kq6]⟩
 case eql=>exact⟨_,.bool (decide (a=b)),h,fun μ=>by simp[VRel],by simp[binOp,Op.intCmp];rfl⟩
 case neq=>exact⟨_,.bool (!decide (a=b)),h,fun μ=>by simp[VRel],by simp[binOp,Op.intCmp];rfl⟩
 case lss=>exact⟨_,.bool (decide (a<b)),h,fun μ=>by simp[VRel],by simp[binOp,Op.intCmp]⟩
 case leq=>exact⟨_,.bool (decide (a≤b)),h,fun μ=>by simp[VRel],by simp[binOp,Op.intCmp]⟩
 case gtr=>exact⟨_,.bool (decide (a>b)),h,fun μ=>by simp[VRel],by simp[binOp,Op.intCmp]⟩
 case geq=>exact⟨_,.bool (decide (a≥b)),h,fun μ=>by simp[VRel],by simp[binOp,Op.intCmp]⟩
theorem kkm(op:BinOp)(t:TypeId)(x y:Operand)(k k':IntKind)(a b:Int)(w:World):(eqGuard op t x y (.int k a) (.int k' b)).run P w=.ok () w:=by
 unfold eqGuard;cases op<;>rfl
theorem kel{t:TypeId}{u v:Value}{b:Bool}{w:World}(op:BinOp)(hop:op=.eql∨op=.neq)
  (hs:∀o:BinOp,(o=.eql→binOp o t u v=do pure (.bool (← Op.equal t u v)))∧(o=.neq→binOp o t u v=do pure (.bool (!(← Op.equal t u v)))))
  (he:∀n:Nat,(Op.equalIn (n+1) t u v).run P w=.ok b w):(binOp op t u v).run P w=.ok (.bool (if op=.eql then b else !b)) w:=by
 have he':(Op.equal t u v).run P w=.ok b w:=he 9999;rcases hop with rfl | rfl
 ·rw[(hs .eql).1 rfl];simp only[Sem.run_bind,he',Result.andThen_ok,Sem.run_pure,if_true]
 ·rw[(hs .neq).2 rfl];simp only[Sem.run_bind,he',Result.andThen_ok,Sem.run_pure];rfl
theorem k2t{μ:Mu}{x y:AV}{b:Bool}(h:eqCell x y=some b){u v:Value}(hx:VRel μ x u)(hy:VRel μ y v){t:TypeId}{d:TypeDesc}(hd:P.underlying t=some d)
  (hfit:fits x d=true) (op:BinOp) (hop:op=.eql∨op=.neq) (xo yo:Operand) (w:World) :
  (eqGuard op t xo yo u v).run P w=.ok () w∧(binOp op t u v).run P w=.ok (.bool (if op=.eql then b else !b)) w:=by
 unfold eqCell at h;split at h
 ·rename_i k a k' a';simp only[VRel]at hx hy;subst hx;subst hy;refine⟨kkm _ _ _ _ _ _ _ _ _,?_⟩;obtain⟨h1,h2⟩:=ki h;simp at h1 h2;subst h1;subst h2;rcases hop with rfl | rfl
  ·simp[binOp,Op.intCmp];rfl
  ·simp[binOp,Op.intCmp];rfl
 ·rename_i a a';simp only[VRel]at hx hy;subst hx;subst hy;cases h;cases d<;>simp[fits]at hfit;refine⟨by rcases hop with rfl | rfl<;>rfl,kel op hop (fun o=>⟨fun e=>by subst e;rfl,fun e=>by subst e;rfl⟩) ?_⟩;intro n;simp[Op.equalIn,run_underlying hd]
 ·rename_i a a';simp only[VRel]at hx hy;subst hx;subst hy;simp at h;rcases hop with rfl | rfl<;>exact⟨rfl,by simp[binOp,Op.stringOp,← h]⟩
 ·rename_i r n c n' c';simp only[VRel]at hy;obtain⟨_,_,rfl⟩:=hy;cases h;cases d<;>simp[fits]at hfit;cases r with
  | none =>
   simp only[VRel]at hx;obtain⟨_,_,rfl⟩:=hx;refine⟨by rcases hop with rfl | rfl<;>rfl,kel op hop (fun o=>⟨fun e=>by subst e;rfl,fun e=>by subst e;rfl⟩) ?_⟩;intro n;simp[Op.equalIn,run_underlying hd]
  | some r =>
   simp only[VRel]at hx;obtain⟨a,c,rfl,_⟩:=hx;refine⟨by rcases hop with rfl | rfl<;>rfl,kel op hop (fun o=>⟨fun e=>by subst e;rfl,fun e=>by subst e;rfl⟩) ?_⟩;intro n;simp[Op.equalIn,run_underlying hd]
 ·rename_i r;simp only[VRel]at hy;subst hy;cases h;cases d<;>simp[fits]at hfit;cases r with
  | none =>
   simp only[VRel]at hx;subst hx;refine⟨by rcases hop with rfl | rfl<;>rfl,kel op hop (fun o=>⟨fun e=>by subst e;rfl,fun e=>by subst e;rfl⟩) ?_⟩;intro n;simp[Op.equalIn,run_underlying hd]
  | some r =>
   simp only[VRel]at hx;obtain⟨a,_,rfl⟩:=hx;refine⟨by rcases hop with rfl | rfl<;>rfl,kel op hop (fun o=>⟨fun e=>by subst e;rfl,fun e=>by subst e;rfl⟩) ?_⟩;intro n;simp[Op.equalIn,run_underlying hd]
 ·rename_i r;simp only[VRel]at hy;subst hy;cases h;cases d<;>simp[fits]at hfit;cases r with
  | none =>
   simp only[VRel]at hx;subst hx;refine⟨by rcases hop with rfl | rfl<;>rfl,kel op hop (fun o=>⟨fun e=>by subst e;rfl,fun e=>by subst e;rfl⟩) ?_⟩;intro n;simp[Op.equalIn,run_underlying hd]
  | some r =>
   simp only[VRel]at hx;obtain⟨a,_,rfl⟩:=hx;refine⟨by rcases hop with rfl | rfl<;>rfl,kel op hop (fun o=>⟨fun e=>by subst e;rfl,fun e=>by subst e;rfl⟩) ?_⟩;intro n;simp[Op.equalIn,run_underlying hd]
 ·simp only[VRel]at hx hy;subst hx;subst hy;cases h;cases d<;>simp[fits]at hfit;refine⟨by rcases hop with rfl | rfl<;>rfl,kel op hop (fun o=>⟨fun e=>by subst e;rfl,fun e=>by subst e;rfl⟩) ?_⟩;intro n;simp[Op.equalIn,run_underlying hd]
 ·simp only[VRel]at hx hy;obtain⟨g,x,y,rfl,_⟩:=hx;subst hy;cases h;cases d<;>simp[fits]at hfit;refine⟨by rcases hop with rfl | rfl<;>rfl,kel op hop (fun o=>⟨fun e=>by subst e;rfl,fun e=>by subst e;rfl⟩) ?_⟩;intro n;simp[Op.equalIn,run_underlying hd]
 ·cases h
theorem kgp{μ:Mu}{t:TypeId}{cs:List AV}{off:Nat}{v:AV}(h:partA P t cs off=some v){us:Array Value}(hv:VRels μ cs us.toList)(h1:cs.all AV.one=true)(w:World) :
  ∃u,(part t us off).run P w=.ok u w∧VRel μ v u:=by
 unfold partA at h;split at h
 ·rename_i d hd;rcases kbt h with⟨hc,h⟩ | ⟨hc,h⟩
  ·obtain⟨hb,h⟩:=ki h;cases h;refine⟨.agg (us.extract off (off+P.cellsOf t)),by simp[part,klv hd,hc,kms hd],?_⟩;simp only[VRel];refine⟨_,rfl,?_,?_⟩
   ·have:=(hv.drop off).take (P.cellsOf t);rw[Array.toList_extract]
    simpa[List.extract]using this
   ·rw[List.all_eq_true]at h1⊢;exact fun x hx=>h1 x (List.mem_of_mem_drop (List.mem_of_mem_take hx))
  ·obtain⟨u,hu,hvu⟩:=hv.get off v h;refine⟨u,?_,hvu⟩;simp only[Array.getElem?_toList]at hu;simp[part,klv hd,hc,hu]
 ·cases h
theorem kbc0{μ:Mu}{x y:AV}{b:Bool}(h:eqCell x y=some b){u v:Value}(hx:VRel μ x u)(hy:VRel μ y v){t:TypeId}{d:TypeDesc}(hd:P.underlying t=some d)
  (hfit:fits x d=true) (hs:isStr x=false) (n:Nat) (w:World):(Op.equalIn (n+1) t u v).run P w=.ok b w:=by
 unfold eqCell at h;split at h
 ·rename_i k a k' a';simp only[VRel]at hx hy;subst hx;subst hy;obtain⟨h1,h2⟩:=ki h;simp at h1 h2;subst h1;subst h2;cases d<;>simp[fits]at hfit;simp[Op.equalIn,run_underlying hd];rfl
 ·rename_i a a';simp only[VRel]at hx hy;subst hx;subst hy;cases h;cases d<;>simp[fits]at hfit;simp[Op.equalIn,run_underlying hd]
 ·simp[isStr]at hs
 ·rename_i r n c n' c';simp only[VRel]at hy;obtain⟨_,_,rfl⟩:=hy;cases h;cases d<;>simp[fits]at hfit;cases r with
  | none =>
   simp only[VRel]at hx;obtain⟨_,_,rfl⟩:=hx;simp[Op.equalIn,run_underlying hd]
  | some r =>
   simp only[VRel]at hx;obtain⟨a,c,rfl,_⟩:=hx;simp[Op.equalIn,run_underlying hd]
 ·rename_i r;simp only[VRel]at hy;subst hy;cases h;cases d<;>simp[fits]at hfit;cases r with
  | none =>
   simp only[VRel]at hx;subst hx;simp[Op.equalIn,run_underlying hd]
  | some r =>
   simp only[VRel]at hx;obtain⟨a,_,rfl⟩:=hx;simp[Op.equalIn,run_underlying hd]
 ·rename_i r;simp only[VRel]at hy;subst hy;cases h;cases d<;>simp[fits]at hfit;cases r with
  | none =>
   simp only[VRel]at hx;subst hx;simp[Op.equalIn,run_underlying hd]
  | some r =>
   simp only[VRel]at hx;obtain⟨a,_,rfl⟩:=hx;simp[Op.equalIn,run_underlying hd]
 ·simp only[VRel]at hx hy;subst hx;subst hy;cases h;cases d<;>simp[fits]at hfit;simp[Op.equalIn,run_underlying hd]
 ·simp only[VRel]at hx hy;obtain⟨g,x,y,rfl,_⟩:=hx;subst hy;cases h;cases d<;>simp[fits]at hfit;simp[Op.equalIn,run_underlying hd]
 ·cases h
theorem kq7{μ:Mu}(w:World):∀(d:Nat)(t:TypeId)(x y:AV)(b:Bool),eqD P d t x y=some b→∀(u v:Value),VRel μ x u→VRel μ y v→∀n,(Op.equalIn (d+n) t u v).run P w=.ok b w
 | 0,t,x,y,b,h,_,_,_,_,_=>by simp[eqD]at h
 | d+1,t,x,y,b,h,u,v,hx,hy,n=>by
  rw[show d+1+n=(d+n)+1 from by omega];have IH:=kq7 (μ:=μ) w d;unfold eqD at h;split at h
  ·rename_i fs hd;split at h
   ·rename_i xs ys;obtain⟨hst,h'⟩:=kc2 h;clear h;have h:=h';clear h';simp only[VRel]at hx hy;obtain⟨us,rfl,hu,h1⟩:=hx;obtain⟨vs,rfl,hv,h2⟩:=hy;have hf:P.fieldsOf t=fs:=by simp[Program.fieldsOf,hd]
    rw[run_equalIn_struct w (d+n) t us vs (by rw[hf];exact hd) hst,hf];clear hd hf hst;generalize fs.toList=l at h⊢
    induction l generalizing b with
    | nil=>simp[eqFs]at h;simp[Op.eqFields,h]
    | cons f l ih =>
     simp only[eqFs]at h;obtain⟨hn,h⟩:=kc2 h;simp only[Option.bind_eq_some_iff,Option.map_eq_some_iff]at h;obtain⟨a,ha,c,hc,r,hr,s,hs,rfl⟩:=h;obtain⟨ua,ra,va⟩:=kgp ha hu h1 w;obtain⟨uc,rc,vc⟩:=kgp hc hv h2 w;have hr':=IH _ _ _ _ hr _ _ va vc n;have hn':f.name≠ "_" := by simpa using hn
     simp only[Op.eqFields,hn',ne_eq,not_false_eq_true,if_true,Sem.run_bind,ra,rc,hr',Result.andThen_ok];cases r
     ·simp
     ·simpa using ih s hs
   ·cases h
  ·rename_i m e hd;split at h
   ·rename_i de xs ys hde;simp only[VRel]at hx hy;obtain⟨us,rfl,hu,h1⟩:=hx;obtain⟨vs,rfl,hv,h2⟩:=hy;obtain⟨i,hi⟩:=kps hde;rw[run_equalIn_array w (d+n) us vs hd hi];generalize List.range m=l at h
    induction l generalizing b with
    | nil=>simp[eqIs]at h;simp[Op.eqItems,h]
    | cons f l ih =>
     simp only[eqIs,Option.bind_eq_some_iff,Option.map_eq_some_iff]at h;obtain⟨a,ha,c,hc,r,hr,s,hs,rfl⟩:=h;obtain⟨ua,ra,va⟩:=kgp ha hu h1 w;obtain⟨uc,rc,vc⟩:=kgp hc hv h2 w;have hr':=IH _ _ _ _ hr _ _ va vc n;simp only[Op.eqItems,Sem.run_bind,ra,rc,hr',Result.andThen_ok];cases r
     ·simp
     ·simpa using ih s hs
   ·cases h
  ·rename_i dd _ _ hd;obtain⟨hs,h⟩:=kc2 h;obtain⟨hf,h⟩:=ki h;exact kbc0 h hx hy hd hf hs (d+n) w
  ·cases h
end Go.Ab
namespace Go.Ab
variable{P:Program}{O:World}{R:Type}
theorem k2c{μ:Mu}{op:BinOp}{t:TypeId}{x y:AV}{k:AV→Option R}{r:R}(h:binK P op t x y k=some r){u v:Value}(hx:VRel μ x u)(hy:VRel μ y v)(xo yo:Operand)(w:World) :
  ∃z a,k z=some r∧VRel μ z a∧(eqGuard op t xo yo u v).run P w=.ok () w∧(binOp op t u v).run P w=.ok a w:=by
 have eqcase:∀(neg:Bool),(op=if neg then .neq else .eql)→(∃b,eqAV P t x y=some b∧k (.bool (if neg then !b else b))=some r)→
   ∃z a,k z=some r∧VRel μ z a∧(eqGuard op t xo yo u v).run P w=.ok () w∧(binOp op t u v).run P w=.ok a w:=by
  intro neg hop ⟨b,hb,hk⟩;have hop':op=.eql∨op=.neq:=by cases neg<;>simp at hop<;>simp[hop]
  have hval:(if op=.eql then b else !b)=(if neg then !b else b):=by cases neg<;>simp at hop<;>subst hop<;>simp
  unfold eqAV at hb;split at hb
  ·rename_i xs ys;obtain⟨hg,hb⟩:=kc2 hb;simp only[VRel]at hx hy;obtain⟨us,rfl,hu,h1⟩:=hx;obtain⟨vs,rfl,hv,h2⟩:=hy;have hE:=kq7 (P:=P) (μ:=μ) w 20 t _ _ b hb (.agg us) (.agg vs) (by simp only[VRel];exact⟨us,rfl,hu,h1⟩) (by simp only[VRel];exact⟨vs,rfl,hv,h2⟩) 9980;have hE':(Op.equal t (.agg us) (.agg vs)).run P w=.ok b w:=hE;refine⟨_,.bool (if neg then !b else b),hk,by simp[VRel],?_,?_⟩
   ·rcases hop' with rfl | rfl<;>simp[eqGuard,hg]
   ·rw[← hval];rcases hop' with rfl | rfl
    ·show(do pure (.bool (← Op.equal t (.agg us) (.agg vs))):Sem Value).run P w=_;simp only[Sem.run_bind,hE',Result.andThen_ok,Sem.run_pure,if_true]
    ·show(do pure (.bool (!(← Op.equal t (.agg us) (.agg vs)))):Sem Value).run P w=_;simp only[Sem.run_bind,hE',Result.andThen_ok,Sem.run_pure];rfl
  ·split at hb
   ·rename_i d hd;obtain⟨_,hb⟩:=kc2 hb;obtain⟨hf,hb⟩:=ki hb;obtain⟨e1,e2⟩:=k2t hb hx hy hd hf op hop' xo yo w;refine⟨_,.bool (if neg then !b else b),hk,by simp[VRel],e1,?_⟩;rw[e2,hval]
   ·cases hb
 unfold binK at h;split at h
 ·rename_i kd a _ b;obtain⟨h1,h⟩:=kc2 h;simp only[VRel]at hx hy;subst hx;subst hy;simp at h1;refine⟨_,.int kd (ishl kd a b),h,by simp[VRel],kkm _ _ _ _ _ _ _ _ _,?_⟩;have:¬b<0:=by omega
  simp[binOp,Op.shift,this,ishl]
 ·rename_i kd a _ b;obtain⟨h1,h⟩:=kc2 h;simp only[VRel]at hx hy;subst hx;subst hy;simp at h1;refine⟨_,.int kd (ishr kd a b),h,by simp[VRel],kkm _ _ _ _ _ _ _ _ _,?_⟩;have:¬b<0:=by omega
  simp[binOp,Op.shift,this,ishr]
 ·rename_i kd a kd' b _ _;obtain⟨h1,h2⟩:=ki h;simp only[VRel]at hx hy;simp at h1;subst h1;obtain⟨z,a',e1,e2,e3⟩:=k6n h2 t w;subst hx;subst hy;exact⟨z,a',e1,e2 μ,kkm _ _ _ _ _ _ _ _ _,e3⟩
 ·rw[Option.bind_eq_some_iff]at h;obtain⟨b,hb,hk⟩:=h;exact eqcase false rfl ⟨b,hb,hk⟩
 ·rw[Option.bind_eq_some_iff]at h;obtain⟨b,hb,hk⟩:=h;exact eqcase true rfl ⟨b,hb,hk⟩
 ·cases h
theorem kbdq{μ:Mu}{op:UnOp}{x:AV}{k:AV→Option R}{r:R}(h:unK op x k=some r){u:Value}(hx:VRel μ x u)(w:World) :
  ∃z a,k z=some r∧VRel μ z a∧(Op.unary op u).run P w=.ok a w:=by
 unfold unK at h;split at h
 ·rename_i kd n;simp only[VRel]at hx;subst hx;exact⟨_,.int kd (kd.wrap (0-n)),h,by simp[VRel],by simp[Op.unary,Op.intArith]⟩
 ·rename_i kd n;simp only[VRel]at hx;subst hx;refine⟨_,.int kd (ixor kd (cond kd.signed (-1) kd.max) n),h,by simp[VRel],?_⟩;simp only[Op.unary,Op.intBits,ixor];cases kd.signed<;>rfl
 ·rename_i b;simp only[VRel]at hx;subst hx;exact⟨_,.bool (!b),h,by simp[VRel],by simp[Op.unary]⟩
 ·cases h
theorem k48{μ:Mu}{s d:TypeId}{x:AV}{k:AV→Option R}{r:R}(h:kh2 P s d x k=some r){u:Value}(hx:VRel μ x u)(w:World) :
  ∃z a,k z=some r∧VRel μ z a∧(convert s d u).run P w=.ok a w:=by
 unfold kh2 at h;split at h
 ·rename_i k1 kd _ n h1 h2;simp only[VRel]at hx;subst hx;refine⟨_,.int kd (kd.wrap n),h,by simp[VRel],?_⟩;simp[convert,run_underlying h1,run_underlying h2,Conv.intToInt]
 ·rename_i s' h1 h2;simp only[VRel]at hx;subst hx;exact⟨_,.string s',h,by simp[VRel],by simp[convert,run_underlying h1,run_underlying h2]⟩
 ·cases h
theorem krm{μ:Mu}{h:AH}{w:World}(S:Sim P O μ h w){cs:List AV}{us:List Value}(hv:VRels μ cs us)(h1:cs.all AV.one=true)(e:TypeId) :
  Good P O μ h w (.ptr (some h.next)) (h.alloc (.cells cs e)) (.pointer (some ⟨w.heap.size,0,none⟩)) (w.alloc (.cells us.toArray e)):=by
 obtain⟨a,b,c⟩:=kkl (rest:=[]) S hv h1 e;simp only[List.append_nil]at a b c;refine⟨_,?_,a,b,c⟩;simp only[VRel];exact⟨_,RRel.new 0,rfl⟩
theorem kt1{μ:Mu}{i:Nat}{L:Loc}(hb:L.base=0)(n:Nat):VRel (Mu.set μ i L) (.slice (some (.new i 0)) n (.is n)) (.slice (some ⟨L.block,0,none⟩) n n):=by
 simp only[VRel];exact⟨_,n,rfl,.inr ⟨L,kdc _ _ _,by simp[hb]⟩,Nat.le_refl _,rfl⟩
theorem k7d(vs:List Value):∀(k off:Nat)(cells:Array Value),off+k+vs.length≤cells.size→
  ((vs.zipIdx k).foldl (fun cs (c:Value×Nat)=>cs.setIfInBounds (off+c.2) c.1) cells).toList=cells.toList.take (off+k)++vs++cells.toList.drop (off+k+vs.length):=by
 induction vs with
 | nil=>intro k off cells h;simp
 | cons v vs ih =>
  intro k off cells h;simp only[List.length_cons]at h;simp only[List.zipIdx_cons,List.foldl_cons];rw[ih (k+1) off _ (by simp;omega)];simp only[Array.toList_setIfInBounds]
  have h1:(cells.toList.set (off+k) v).take (off+(k+1))=cells.toList.take (off+k)++[v]:=by
   rw[show off+(k+1)=(off+k)+1 from by omega,List.take_succ_eq_append_getElem (by simp;omega)];rw[List.take_set_of_le (Nat.le_refl _)];simp
  have h2:(cells.toList.set (off+k) v).drop (off+(k+1)+vs.length)=cells.toList.drop (off+k+(vs.length+1)):=by
   rw[List.drop_set_of_lt (by omega)];congr 1;omega
  rw[h1,h2];simp
theorem k1s{cells cs:List AV}(h:cells.all AV.one=true)(k:cs.all AV.one=true)(off:Nat):(splice cells off cs).all AV.one=true:=by
 rw[List.all_eq_true]at *
 intro x hx;simp only[splice,List.mem_append]at hx;rcases hx with(hx | hx) | hx
 ·exact h x (List.mem_of_mem_take hx)
 ·exact k x hx
 ·exact h x (List.mem_of_mem_drop hx)
theorem kip{μ:Mu}{place:Nat→Option (Nat×TypeId)}{rp:Nat→Option (Nat×Nat)}(hp:∀i off t,place i=some (off,t)→rp i=some (off,P.cellsOf t)) :
  ∀{parts:List (Nat×AV)}{cells:List AV}{k:List AV→Option R}{r:R},fillK P place parts cells k=some r→
  ∀{us:List Value}{arr:Array Value},VRels μ (parts.map (·.2)) us→VRels μ cells arr.toList→cells.all AV.one=true→
  ∃cs out,k cs=some r∧Instr.fill rp arr ((parts.map (·.1)).zip us)=some out∧VRels μ cs out.toList∧cs.all AV.one=true∧out.size=arr.size
 | [],cells,k,r,h,us,arr,hu,hc,h1=>by
  have:=hu.nil_inv;subst this;exact⟨cells,arr,h,rfl,hc,h1,rfl⟩
 | (i,v)::rest,cells,k,r,h,us,arr,hu,hc,h1=>by
  obtain⟨x,xs,rfl,hx,hxs⟩:=hu.cons_inv;simp only[fillK]at h;split at h
  ·cases h
  ·rename_i off t hpl;obtain⟨cs,h,e1,e2,e3,e4,_⟩:=klb h hx;obtain⟨hb,h⟩:=ki h;have hle:off+cs.length≤cells.length:=Nat.le_of_ble_eq_true hb;have hcl:=hc.length;have hel:=e1.length;have hsz:off+x.cells.size≤arr.size:=by simp at hcl hel;omega
   have hf:=k7d x.cells.toList 0 off arr (by simp;omega)
   have hrel:VRels μ (splice cells off cs) ((x.cells.toList.zipIdx 0).foldl (fun cs (c:Value×Nat)=>cs.setIfInBounds (off+c.2) c.1) arr).toList:=by
    rw[hf];simp only[splice,Nat.add_zero];refine((hc.take off).append e1).append ?_;rw[hel];exact hc.drop _
   obtain⟨cs',out,f1,f2,f3,f4,f5⟩:=kip hp h hxs hrel (k1s h1 e2 off);refine⟨cs',out,f1,?_,f3,f4,?_⟩
   ·simp only[List.map_cons,List.zip_cons_cons,Instr.fill,hp i off t hpl];rw[if_neg (by simp[e3];rw[← e3];omega)]
    have hz:x.cells.zipIdx.foldl (fun cs (c:Value×Nat)=>cs.setIfInBounds (off+c.2) c.1) arr=(x.cells.toList.zipIdx 0).foldl (fun cs (c:Value×Nat)=>cs.setIfInBounds (off+c.2) c.1) arr:=by
     rw[← Array.foldl_toList,Array.toList_zipIdx]
    exact(congrArg (fun q=>Instr.fill rp q ((rest.map (·.1)).zip xs)) hz).trans f2
   ·rw[f5];have:=congrArg List.length hf;simp only[Array.length_toList,List.length_append,List.length_take,List.length_drop]at this;omega
end Go.Ab
namespace Go.Ab
variable{P:Program}{O:World}{R:Type}
def OpGoes(P:Program)(o:Oper)(a:Act)(w:World)(G:Value→World→Prop):Prop :=
 ∀(next:Act→World→Prop)(Q:Exit→Act→World→Prop),(∀u w',G u w'→next (a.put o.dst u) w')→o.wp P a w next Q
theorem OpGoes.of_value{o:Oper}{a:Act}{w w':World}{u:Value}{G:Value→World→Prop}(h:(execOp a.eval o).run P w=.ok (.value u) w')(g:G u w'):OpGoes P o a w G:=fun next Q hn=>by
 unfold Oper.wp;rw[h,Oper.upon_value];exact hn u w' g
theorem OpGoes.of_skip{o:Oper}{a:Act}{w w':World}{G:Value→World→Prop}(h:(execOp a.eval o).run P w=.ok .skip w')(g:G undef w'):OpGoes P o a w G:=fun next Q hn=>by
 unfold Oper.wp;rw[h,Oper.upon_skip];exact hn undef w' g
theorem OpGoes.of_call{o:Oper}{a:Act}{w w':World}{f:FuncId}{args:Array Value}{G:Value→World→Prop}(h:(execOp a.eval o).run P w=.ok (.enter f args) w')
  (g:Calls P f args w' fun e w''=>∃u,e=.returned u∧G u w''):OpGoes P o a w G:=fun next Q hn=>by
 unfold Oper.wp;rw[h,Oper.upon_enter];refine g.mono fun e w'' ⟨u,he,hg⟩=>?_;subst he;exact hn u w'' hg
theorem OpGoes.of_sem{o:Oper}{a:Act}{w w':World}{u:Value}{s:Sem Value}{G:Value→World→Prop}(he:execOp a.eval o=(do pure (.value (← s))))(h:s.run P w=.ok u w')(g:G u w'):OpGoes P o a w G :=
 OpGoes.of_value (by rw[he];simp only[Sem.run_bind,h,Result.andThen_ok,Sem.run_pure]) g
def OpOk(P:Program)(O:World)(μ:Mu)(h:AH)(w:World)(o:Oper)(a:Act)(k:AV→AH→Option R)(r:R):Prop :=
 ∃v h1,k v h1=some r∧OpGoes P o a w (Good P O μ h w v h1)
theorem kmc(n:Nat)(zs:Array Value)(hz:0<n→0<zs.size):((Array.range (n*zs.size)).map (zs[· % zs.size]!)).toList=(List.replicate n zs.toList).flatten:=by
 simp only[Array.toList_map,Array.toList_range]
 induction n with
 | zero=>simp
 | succ n ih =>
  have hpos:=hz (by omega);have ih:=ih (fun h=>hpos);rw[List.replicate_succ',List.flatten_append,← ih,show(n+1)*zs.size=n*zs.size+zs.size from by rw[Nat.succ_mul],List.range_add,List.map_append];congr 1;simp only[List.map_map,List.flatten_cons,List.flatten_nil,List.append_nil];apply List.ext_getElem
  ·simp
  ·intro i h1 h2;simp at h1;simp[Nat.mul_add_mod_self_right,Nat.mod_eq_of_lt h1,getElem!_pos,h1]
theorem kj4(l:List AV)(n:Nat):repC l n=(List.replicate n l).flatten:=by
 induction n with
 | zero=>rfl
 | succ n ih=>simp[repC,ih,List.replicate_succ]
theorem VRels.rep{μ:Mu}{vs:List AV}{us:List Value}(h:VRels μ vs us):∀n,VRels μ (List.replicate n vs).flatten (List.replicate n us).flatten
 | 0=>VRels.nil
 | n+1=>by simp only[List.replicate_succ,List.flatten_cons];exact h.append (VRels.rep h n)
theorem km1{vs:List AV}(h:vs.all AV.one=true)(n:Nat):(repC vs n).all AV.one=true:=by
 rw[kj4];simp only[List.all_eq_true]at *
 intro x hx;simp only[List.mem_flatten,List.mem_replicate]at hx;obtain⟨l,⟨_,rfl⟩,hx⟩:=hx;exact h x hx
theorem kyj(k:IntKind)(n:Int)(w:World):(asInt (.int k n)).run P w=.ok n w:=rfl
theorem kwm{μ:Mu}{r:Option Ref}{n:Nat}{i:Int}{size:Nat}{q:Ref}(h:idx r n i size=some q):∃r',r=some r'∧0≤i∧i<n∧q=r'.add (i.toNat*size):=by
 unfold idx at h;split at h
 ·rename_i r';obtain⟨h1,h2⟩:=ki h;simp at h1;cases h2;exact⟨r',rfl,h1.1,h1.2,rfl⟩
 ·cases h
theorem kz3{fs:Array Field}{pl:List (Nat×Nat)}(h:kk8 P fs=some pl)(i off:Nat)(t:TypeId)(hi:((fs.toList[i]?).map fun f=>(f.offset,f.type))=some (off,t)):pl[i]?=some (off,P.cellsOf t):=by
 unfold kk8 at h;generalize fs.toList=l at h hi
 induction l generalizing pl i with
 | nil=>simp at hi
 | cons f l ih =>
  rw[List.mapM_cons]at h;simp only[bind,Option.bind_eq_some_iff,Option.map_eq_some_iff,pure,Option.some.injEq]at h;obtain⟨p,⟨ti,hti,rfl⟩,rest,hrest,rfl⟩:=h;cases i with
  | zero =>
   simp at hi;obtain⟨rfl,rfl⟩:=hi;simp[Program.cellsOf,hti]
  | succ i =>
   have:=ih i hrest (by simpa using hi)
   simpa using this
theorem kgh{μ:Mu}{t:TypeId}{zs:List AV}(h:kbs P t=some zs) :
  ∃z i,P.info? t=some i∧i.zero=some z∧VRels μ zs z.cells.toList∧zs.all AV.one=true:=by
 unfold kbs at h;split at h
 ·rename_i i hi;split at h
  ·rename_i z hz;obtain⟨h1,h2⟩:=VRels.ofCells (μ:=μ) h;exact⟨z,i,hi,hz,h1,h2⟩
  ·cases h
 ·cases h
theorem kbaf{rec:Rec}{μ:Mu}{N:Nat}{fr:Fr}{h:AH}{w:World}{o:Oper}{a:Act}(S:Sim P O μ h w)(F:FRel μ N fr a.tmps){t:TypeId}{parts:Array (Nat×Operand)}(ho:o.op=.build t parts)
  {k:AV→AH→Option R} {r:R} (hk:opK P rec o.op o.type fr h k=some r):OpOk P O μ h w o a k r:=by
 obtain⟨dst,op,type,pos,after,guard⟩:=o;dsimp only at hk ho;subst ho;simp only[opK]at hk;have hex:execOp a.eval ⟨dst,.build t parts,type,pos,after,guard⟩=(do pure (.value (← Instr.build t (parts.map fun(i,x)=>(i,a.eval x))))):=rfl
 have hzip:(parts.map fun(i,x)=>(i,a.eval x)).toList=(parts.toList.map (·.1)).zip ((parts.toList.map (·.2)).map a.eval):=by
  simp only[Array.toList_map,List.map_map];generalize parts.toList=l
  induction l with
  | nil=>rfl
  | cons p l ih=>simp[ih]
 have hmap:∀vs:List AV,evs fr (parts.toList.map (·.2))=some vs→((parts.toList.map (·.1)).zip vs).map (·.1)=parts.toList.map (·.1)∧((parts.toList.map (·.1)).zip vs).map (·.2)=vs:=by
  intro vs hvs;have:=(kcs F hvs).length;simp only[List.length_map]at this;exact⟨List.map_fst_zip (by rw[List.length_map];omega),List.map_snd_zip (by rw[List.length_map];omega)⟩
 split at hk
 ·rename_i vs zs fs hvs hz hd;obtain⟨hp,hk2⟩:=ki hk;obtain⟨pl,hpl⟩:=Option.isSome_iff_exists.1 hp;obtain⟨z,ti,hti,hz0,h2,h3⟩:=kgh (μ:=μ) hz;obtain⟨m1,m2⟩:=hmap vs hvs;obtain⟨cs,out,hk3,f1,f2,f3,f4⟩:=kip (μ:=μ) (rp:=fun i=>pl.toArray[i]?) (fun i off t' hi=>by simpa using kz3 hpl i off t' hi) hk2 (us:=(parts.toList.map (·.2)).map a.eval) (arr:=z.cells) (by rw[m2];exact kcs F hvs) h2 h3;refine⟨_,h,hk3,OpGoes.of_sem hex (run_build w t _ out ?_) (Good.pure S (by simp only[VRel];exact⟨out,rfl,f2,f3⟩))⟩;rw[hzip];rw[m1]at f1;unfold kk8 at hpl;simp only[Program.built,hti,hd,hz0,hpl];exact f1
 ·rename_i vs zs n e hvs hz hd;obtain⟨hp,hk2⟩:=ki hk;obtain⟨ie,hie⟩:=Option.isSome_iff_exists.1 hp;obtain⟨z,ti,hti,hz0,h2,h3⟩:=kgh (μ:=μ) hz;obtain⟨m1,m2⟩:=hmap vs hvs;obtain⟨cs,out,hk3,f1,f2,f3,f4⟩:=kip (μ:=μ) (rp:=fun i=>some (i*ie.size,ie.size)) (fun i off t' hi=>by simp at hi;obtain⟨rfl,rfl⟩:=hi;simp[Program.cellsOf,hie]) hk2 (us:=(parts.toList.map (·.2)).map a.eval) (arr:=z.cells) (by rw[m2];exact kcs F hvs) h2 h3;refine⟨_,h,hk3,OpGoes.of_sem hex (run_build w t _ out ?_) (Good.pure S (by simp only[VRel];exact⟨out,rfl,f2,f3⟩))⟩;rw[hzip];rw[m1]at f1;simp only[Program.built,hti,hd,hz0,hie];exact f1
 ·cases hk
theorem kbcf{rec:Rec}{μ:Mu}{N:Nat}{fr:Fr}{h:AH}{w:World}{o:Oper}{a:Act}(S:Sim P O μ h w)(F:FRel μ N fr a.tmps){t:TypeId}{n:Nat}{parts:Array (Nat×Operand)}(ho:o.op=.buildSlice t n parts)
  {k:AV→AH→Option R} {r:R} (hk:opK P rec o.op o.type fr h k=some r):OpOk P O μ h w o a k r:=by
 obtain⟨dst,op,type,pos,after,guard⟩:=o;dsimp only at hk ho;subst ho;simp only[opK]at hk;have hex:execOp a.eval ⟨dst,.buildSlice t n parts,type,pos,after,guard⟩=(do pure (.value (← Instr.buildSlice t n (parts.map fun(i,x)=>(i,a.eval x))))):=rfl
 have hzip:(parts.map fun(i,x)=>(i,a.eval x)).toList=(parts.toList.map (·.1)).zip ((parts.toList.map (·.2)).map a.eval):=by
  simp only[Array.toList_map,List.map_map];generalize parts.toList=l
  induction l with
  | nil=>rfl
  | cons p l ih=>simp[ih]
 split at hk
 ·rename_i vs e hvs hd;split at hk
  ·rename_i zs hz;obtain⟨hb,hk2⟩:=ki hk;simp only[Bool.and_eq_true]at hb;have hb1:n*P.cellsOf e≤16777216:=Nat.le_of_ble_eq_true hb.1;have hb2:zs.length=P.cellsOf e:=Nat.eq_of_beq_eq_true hb.2;obtain⟨z,ti,hti,hz0,h2,h3⟩:=kgh (μ:=μ) hz;have hsz:z.cells.size=P.cellsOf e:=by have:=h2.length;simp at this;omega
   have hlen:=(kcs F hvs).length;simp only[List.length_map]at hlen;have m1:((parts.toList.map (·.1)).zip vs).map (·.1)=parts.toList.map (·.1):=List.map_fst_zip (by rw[List.length_map];exact Nat.le_of_eq hlen);have m2:((parts.toList.map (·.1)).zip vs).map (·.2)=vs:=List.map_snd_zip (by rw[List.length_map];exact Nat.le_of_eq hlen.symm)
   have harr:((Array.range (n*P.cellsOf e)).map (z.cells[· % z.cells.size]!)).toList=(List.replicate n z.cells.toList).flatten:=by
    by_cases h0:P.cellsOf e=0
    ·have:z.cells.toList=[]:=by apply List.eq_nil_of_length_eq_zero;rw[Array.length_toList];omega
     rw[h0,this];simp[Array.range_zero']
    ·rw[← hsz];exact kmc n z.cells (by omega)
   obtain⟨cs,out,hk3,f1,f2,f3,f4⟩:=kip (μ:=μ) (rp:=fun i=>some (i*P.cellsOf e,P.cellsOf e)) (fun i off t' hi=>by simp at hi⊢;exact⟨hi.1,by rw[hi.2]⟩) hk2 (us:=(parts.toList.map (·.2)).map a.eval) (arr:=(Array.range (n*P.cellsOf e)).map (z.cells[· % z.cells.size]!))
    (by rw[m2];exact kcs F hvs) (by rw[harr,kj4];exact h2.rep n) (km1 h3 n)
   rw[m1,← hzip]at f1;obtain⟨g1,g2,g3⟩:=kkl (rest:=[]) S (us:=out.toList) f2 f3 e;simp only[List.append_nil,Array.toArray_toList]at g1 g2 g3;refine⟨_,_,hk3,OpGoes.of_sem hex (w':=w.alloc (.cells out e)) (u:=.slice (some ⟨w.heap.size,0,none⟩) n n) ?_ ⟨_,kt1 rfl n,g1,g2,g3⟩⟩;have hs:(sizeOf e).run P w=.ok (P.cellsOf e) w:=by simp[sizeOf,typeInfo,hti,Program.cellsOf]
   have hgt:¬(16777216<n*P.cellsOf e):=by omega
   by_cases h0:n*P.cellsOf e=0
   ·have hz':∀f g:Nat→Value,(Array.range (n*P.cellsOf e)).map f=(Array.range (n*P.cellsOf e)).map g:=fun f g=>by rw[h0];simp[Array.range_zero']
    rw[hz' (z.cells[· % z.cells.size]!) ((#[]:Array Value)[· % (#[]:Array Value).size]!)]at f1;simp only[Instr.buildSlice,Sem.run_bind,run_underlying hd,Result.andThen_ok,hs,Sem.run_ite,if_neg hgt,h0,if_true,Sem.run_pure];rw[h0]at f1;simp only[f1,newRow,Sem.run_bind,run_newObj,Result.andThen_ok,Sem.run_pure];rfl
   ·simp only[Instr.buildSlice,Sem.run_bind,run_underlying hd,Result.andThen_ok,hs,Sem.run_ite,if_neg hgt,if_neg h0,zeroValue,typeInfo,run_program,hti,hz0,Sem.run_pure,f1,newRow,run_newObj];rfl
  ·cases hk
 ·cases hk
theorem kbcm{rec:Rec}{μ:Mu}{N:Nat}{fr:Fr}{h:AH}{w:World}{o:Oper}{a:Act}(S:Sim P O μ h w)(F:FRel μ N fr a.tmps){t:TypeId}{l c:Operand}(ho:o.op=.makeSlice t l c)
  {k:AV→AH→Option R} {r:R} (hk:opK P rec o.op o.type fr h k=some r):OpOk P O μ h w o a k r:=by
 obtain⟨dst,op,type,pos,after,guard⟩:=o;dsimp only at hk ho;subst ho;simp only[opK]at hk;split at hk
 ·rename_i k1 l' k2 c' e hl hc hd;split at hk
  ·rename_i zs hz;obtain⟨hb,hk2⟩:=ki hk;have hb:=Nat.eq_of_beq_eq_true hb;rw[Option.bind_eq_some_iff]at hk2;obtain⟨q,hq,hk3⟩:=hk2;unfold kbg at hq;obtain⟨hq1,hq2⟩:=ki hq;simp only[decide_eq_true_eq]at hq1;obtain⟨b1,b2,b3,b4⟩:=hq1;simp only[Option.some.injEq]at hq2;subst hq2;obtain⟨z,ti,hti,hz0,h2,h3⟩:=kgh (μ:=μ) hz;have hsz:z.cells.size=ti.size:=by have:=h2.length;simp[Program.cellsOf,hti]at this hb;omega
   have hvl:=kp F hl;have hvc:=kp F hc;simp only[VRel]at hvl hvc;have hm:(kg:Int)=70368744177664:=rfl;rw[hm]at b3 b4
   have hby:(ti.bytes:Int)*c'≤281474976710656:=by
    have hbe:P.bytesOf e=ti.bytes:=by simp[Program.bytesOf,hti]
    rw[hbe,Int.mul_comm]at b4;omega
   have hrun:=run_make (P:=P) w t e ti z hd hti hz0 k1 k2 l' c' b1 b2 hby (by omega)
   have harr:(madeCells z.cells (c'.toNat*ti.size)).toList=(List.replicate c'.toNat z.cells.toList).flatten:=by
    unfold madeCells;by_cases h0:ti.size=0
    ·have:z.cells.toList=[]:=by apply List.eq_nil_of_length_eq_zero;rw[Array.length_toList];omega
     rw[h0,this];simp[Array.range_zero']
    ·rw[← hsz];exact kmc _ z.cells (by omega)
   obtain⟨g1,g2,g3⟩:=kkl (rest:=[]) S (cs:=repC zs c'.toNat) (us:=(madeCells z.cells (c'.toNat*ti.size)).toList) (by rw[harr,kj4];exact h2.rep _) (km1 h3 _) e;simp only[List.append_nil,Array.toArray_toList]at g1 g2 g3;refine⟨_,_,hk3,OpGoes.of_sem (s:=Instr.makeSlice t (a.eval l) (a.eval c)) rfl (by rw[hvl,hvc];exact hrun) ⟨_,?_,g1,g2,g3⟩⟩;simp only[VRel,Sl.v];exact⟨_,_,rfl,.inr (RRel.new 0),by omega,rfl⟩
  ·cases hk
 ·cases hk
theorem kbcw{rec:Rec}{μ:Mu}{N:Nat}{fr:Fr}{h:AH}{w:World}{o:Oper}{a:Act}(S:Sim P O μ h w)(F:FRel μ N fr a.tmps){s:TypeId}{x:Operand}{f:Nat}(ho:o.op=.fieldAddr s x f)
  {k:AV→AH→Option R} {r:R} (hk:opK P rec o.op o.type fr h k=some r):OpOk P O μ h w o a k r:=by
 obtain⟨dst,op,type,pos,after,guard⟩:=o;dsimp only at hk ho;subst ho;simp only[opK]at hk;split at hk
 ·rename_i p fd hp hfd;obtain⟨h0,hk2⟩:=kc2 hk;rw[Option.bind_eq_some_iff]at hk2;obtain⟨q,hq,hk3⟩:=hk2;subst hq;have hr:=kp F hp;simp only[VRel]at hr;obtain⟨ad,hr,he⟩:=hr;unfold kkc at hfd;split at hfd
  ·rename_i fs hd;have hne:P.cellsOf fd.type≠0:=fun e=>by rw[e]at h0;cases h0
   have hs:∃i,P.info? fd.type=some i:=by
    cases hi:P.info? fd.type with
    | none=>simp[Program.cellsOf,hi]at hne
    | some i=>exact⟨i,rfl⟩
   obtain⟨i,hi⟩:=hs;have hsz:(sizeOf fd.type).run P w=.ok (P.cellsOf fd.type) w:=by simp[sizeOf,typeInfo,hi,Program.cellsOf]
   simp only[Array.getElem?_toList]at hfd;refine⟨_,h,hk3,OpGoes.of_sem (s:=Instr.fieldAt s (a.eval x) f) (u:=.pointer (some (ad.add fd.offset))) rfl ?_ (Good.pure S (by simp only[VRel];exact⟨_,hr.add _,rfl⟩))⟩;rw[he];simp[Instr.fieldAt,run_underlying hd,hfd,Instr.sureAddr,fieldPlace,hsz,hne]
  ·cases hfd
 ·cases hk
theorem kbe5{rec:Rec}{μ:Mu}{N:Nat}{fr:Fr}{h:AH}{w:World}{o:Oper}{a:Act}(S:Sim P O μ h w)(F:FRel μ N fr a.tmps){t:TypeId}{x:Operand}{f:Nat}(ho:o.op=.field t x f)
  {k:AV→AH→Option R} {r:R} (hk:opK P rec o.op o.type fr h k=some r):OpOk P O μ h w o a k r:=by
 obtain⟨dst,op,type,pos,after,guard⟩:=o;dsimp only at hk ho;subst ho;simp only[opK]at hk;split at hk
 ·rename_i cs fd hc hfd;rw[Option.bind_eq_some_iff]at hk;obtain⟨v,hv,hk3⟩:=hk;have hr:=kp F hc;simp only[VRel]at hr;obtain⟨us,he,hus,h1⟩:=hr;unfold kkc at hfd;split at hfd
  ·rename_i fs hd;simp only[Array.getElem?_toList]at hfd;obtain⟨u,hu,hvu⟩:=kgp hv hus h1 w;refine⟨v,h,hk3,OpGoes.of_sem (s:=Instr.field t (a.eval x) f) rfl ?_ (Good.pure S hvu)⟩;rw[he];simp[Instr.field,run_underlying hd,hfd,asAgg,hu]
  ·cases hfd
 ·cases hk
theorem kbae{rec:Rec}{μ:Mu}{N:Nat}{fr:Fr}{h:AH}{w:World}{o:Oper}{a:Act}(S:Sim P O μ h w)(F:FRel μ N fr a.tmps){t:TypeId}{x i:Operand}(ho:o.op=.indexAddr t x i)
  {k:AV→AH→Option R} {r:R} (hk:opK P rec o.op o.type fr h k=some r):OpOk P O μ h w o a k r:=by
 obtain⟨dst,op,type,pos,after,guard⟩:=o;dsimp only at hk ho;subst ho;simp only[opK]at hk;split at hk
 ·rename_i p n cp kd j e hx hi hd;obtain⟨hinf,hk1⟩:=ki hk;rw[Option.bind_eq_some_iff]at hk1;obtain⟨q,hq,hk3⟩:=hk1;obtain⟨r',rfl,j0,j1,rfl⟩:=kwm (μ:=μ) hq;have hr:=kp F hx;have hvi:=kp F hi;simp only[VRel]at hr hvi;obtain⟨ad,c,he,hcr,hcap⟩:=hr;obtain⟨ie,hie⟩:=Option.isSome_iff_exists.1 hinf;have hs:(sizeOf e).run P w=.ok (P.cellsOf e) w:=by simp[sizeOf,typeInfo,hie,Program.cellsOf]
  have hrr:RRel μ r' ad:=by
   rcases hcr with h0 | h0
   ·have:n≤c:=by cases cp<;>exact hcap.1
    omega
   ·exact h0
  refine⟨_,h,hk3,OpGoes.of_sem (s:=Instr.indexAt t (a.eval x) (a.eval i)) (u:=.pointer (some (ad.add (j.toNat*P.cellsOf e)))) rfl ?_ (Good.pure S (by simp only[VRel];exact⟨_,hrr.add _,rfl⟩))⟩;rw[he,hvi];simp[Instr.indexAt,asIntOf,run_underlying hd,j0,j1,hs]
 ·rename_i p kd j n e hx hi hd;obtain⟨hinf,hk1⟩:=ki hk;rw[Option.bind_eq_some_iff]at hk1;obtain⟨q,hq,hk3⟩:=hk1;obtain⟨r',rfl,j0,j1,rfl⟩:=kwm (μ:=μ) hq;have hr:=kp F hx;have hvi:=kp F hi;simp only[VRel]at hr hvi;obtain⟨ad,hrr,he⟩:=hr;obtain⟨ie,hie⟩:=Option.isSome_iff_exists.1 hinf;have hs:(sizeOf e).run P w=.ok (P.cellsOf e) w:=by simp[sizeOf,typeInfo,hie,Program.cellsOf]
  refine⟨_,h,hk3,OpGoes.of_sem (s:=Instr.indexAt t (a.eval x) (a.eval i)) (u:=.pointer (some (ad.add (j.toNat*P.cellsOf e)))) rfl ?_ (Good.pure S (by simp only[VRel];exact⟨_,hrr.add _,rfl⟩))⟩;rw[he,hvi];simp[Instr.indexAt,asIntOf,run_underlying hd,j0,j1,hs,Instr.sureAddr]
 ·cases hk
theorem k5e{rec:Rec}{μ:Mu}{N:Nat}{fr:Fr}{h:AH}{w:World}{o:Oper}{a:Act}(S:Sim P O μ h w)(F:FRel μ N fr a.tmps){t:TypeId}{x i:Operand}(ho:o.op=.index t x i)
  {k:AV→AH→Option R} {r:R} (hk:opK P rec o.op o.type fr h k=some r):OpOk P O μ h w o a k r:=by
 obtain⟨dst,op,type,pos,after,guard⟩:=o;dsimp only at hk ho;subst ho;simp only[opK]at hk;split at hk
 ·rename_i cs kd j n e hx hi hd;obtain⟨hj,hk2⟩:=ki hk;simp only[decide_eq_true_eq]at hj;rw[Option.bind_eq_some_iff]at hk2;obtain⟨v,hv,hk3⟩:=hk2;have hr:=kp F hx;have hvi:=kp F hi;simp only[VRel]at hr hvi;obtain⟨us,he,hus,h1⟩:=hr;obtain⟨u,hu,hvu⟩:=kgp hv hus h1 w
  have hsz:∃d,P.underlying e=some d:=by
   unfold partA at hv;split at hv
   ·exact⟨_,‹_›⟩
   ·cases hv
  obtain⟨d,hde⟩:=hsz;have hk3:=k7r hk3;refine⟨v,h,hk3,OpGoes.of_sem (s:=Instr.index t (a.eval x) (a.eval i)) rfl ?_ (Good.pure S hvu)⟩;rw[he,hvi];simp[Instr.index,asIntOf,run_underlying hd,hj.1,hj.2,kms hde,hu]
 ·rename_i s kd j hx hi hd;obtain⟨hj,hk2⟩:=ki hk;simp only[decide_eq_true_eq]at hj;rw[Option.bind_eq_some_iff]at hk2;obtain⟨b,hb,hk3⟩:=hk2;have hr:=kp F hx;have hvi:=kp F hi;simp only[VRel]at hr hvi;refine⟨_,h,hk3,OpGoes.of_sem (s:=Instr.index t (a.eval x) (a.eval i)) (u:=.int .u8 (b.toNat:Int)) rfl ?_ (Good.pure S (by simp[VRel]))⟩;rw[hr,hvi];simp[Instr.index,asIntOf,run_underlying hd,hj,hb]
 ·cases hk
theorem k95{rec:Rec}{μ:Mu}{N:Nat}{fr:Fr}{h:AH}{w:World}{o:Oper}{a:Act}(S:Sim P O μ h w)(F:FRel μ N fr a.tmps){t:TypeId}{x y:Operand}(ho:o.op=.store t x y)
  {k:AV→AH→Option R} {r:R} (hk:opK P rec o.op o.type fr h k=some r):OpOk P O μ h w o a k r:=by
 obtain⟨dst,op,type,pos,after,guard⟩:=o;dsimp only at hk ho;subst ho;simp only[opK]at hk;split at hk
 ·rename_i p v hp hv;obtain⟨cs,hk2,h1,h2,h3,h4,d,hd⟩:=klb hk (kp F hv);rw[Option.bind_eq_some_iff]at hk2;obtain⟨q,hq,hk3⟩:=hk2;subst hq;rw[Option.bind_eq_some_iff]at hk3;obtain⟨h',hp',hk4⟩:=hk3;have hr:=kp F hp;simp only[VRel]at hr;obtain⟨ad,hr,he⟩:=hr;obtain⟨w',e1,e2,e3,e4⟩:=km0 (i:=0) S (by simpa[Addr.add]using hr) h1 h2 hp';refine⟨_,h',hk4,OpGoes.of_skip (w':=w') ?_ ⟨μ,by simp[VRel,undef,VRels],e2,e3,e4⟩⟩;simp only[execOp,Sem.run_bind];rw[he];simp[Instr.storeAt,Instr.sureAddr,storeVar,kms hd,h3,e1]
 ·cases hk
theorem kgm{μ:Mu}{N:Nat}{fr:Fr}{a:Act}(F:FRel μ N fr a.tmps){x:Option Operand}{d:Int}{k:Int→Option R}{r:R}(h:boundK fr x d k=some r) :
  ∃n,k n=some r∧((x.map a.eval=none∧n=d)∨∃kd,x.map a.eval=some (.int kd n)):=by
 unfold boundK at h;split at h
 ·exact⟨d,h,.inl ⟨rfl,rfl⟩⟩
 ·split at h
  ·rename_i kd n hn;have:=kp F hn;simp only[VRel]at this;exact⟨n,h,.inr ⟨kd,by simp[this]⟩⟩
  ·cases h
theorem ke3{kd:IntKind}{n:Int}{y:Nat}{c:BoundsCode}(h0:0≤n)(h1:n≤y)(w:World):(Instr.sliceBound (.int kd n) y c).run P w=.ok n.toNat w:=by
 simp[Instr.sliceBound,asIntOf,h0,h1]
theorem krf{isS:Bool}{len cap:Nat}{lo hi:Option Value}{l h:Int}(hl:(lo=none∧l=0)∨∃kd,lo=some (.int kd l))(hh:(hi=none∧h=(len:Int))∨∃kd,hi=some (.int kd h))
  (b:0≤l∧l≤h∧h≤(cap:Int)) (w:World):(Instr.sliceBounds isS len cap lo hi none).run P w=.ok (l.toNat,h.toNat,cap) w:=by
 obtain⟨b1,b2,b3⟩:=b;rcases hl with⟨rfl,rfl⟩ | ⟨kl,rfl⟩<;>rcases hh with⟨rfl,rfl⟩ | ⟨kh,rfl⟩
 ·simp[Instr.sliceBounds]
 ·simp[Instr.sliceBounds,ke3 (P:=P) (show 0≤h by omega) b3]
 ·simp[Instr.sliceBounds,ke3 (P:=P) b1 b2]
 ·simp[Instr.sliceBounds,ke3 (P:=P) (show 0≤h by omega) b3,ke3 (P:=P) b1 (show l≤(h.toNat:Int) by omega)]
theorem kbd5{isS:Bool}{len cap:Nat}{lo hi mx:Option Value}{l h m:Int}(hl:(lo=none∧l=0)∨∃kd,lo=some (.int kd l))(hh:∃kd,hi=some (.int kd h))(hm:∃kd,mx=some (.int kd m))
  (b:0≤l∧l≤h∧h≤m∧m≤(cap:Int)) (w:World):(Instr.sliceBounds isS len cap lo hi mx).run P w=.ok (l.toNat,h.toNat,m.toNat) w:=by
 obtain⟨b1,b2,b3,b4⟩:=b;obtain⟨kh,rfl⟩:=hh;obtain⟨km,rfl⟩:=hm;rcases hl with⟨rfl,rfl⟩ | ⟨kl,rfl⟩
 ·simp[Instr.sliceBounds,ke3 (P:=P) (show 0≤m by omega) b4,ke3 (P:=P) (show 0≤h by omega) (show h≤(m.toNat:Int) by omega)]
 ·simp[Instr.sliceBounds,ke3 (P:=P) (show 0≤m by omega) b4,ke3 (P:=P) (show 0≤h by omega) (show h≤(m.toNat:Int) by omega),ke3 (P:=P) b1 (show l≤(h.toNat:Int) by omega)]
theorem kvu{μ:Mu}{r:Option Ref}{n:Nat}{c:Cap}{l h:Int}{size:Nat}{s:Sl}(hc:cutSl ⟨r,n,c⟩ l h size=some s){u:Value}(hv:VRel μ (.slice r n c) u) :
  ∃ad cap,u=.slice ad n cap∧(0≤l∧l≤h∧h≤(cap:Int))∧VRel μ s.v (.slice (if cap=l.toNat then ad else ad.map (·.add (l.toNat*size))) (h.toNat-l.toNat) (cap-l.toNat)):=by
 unfold cutSl at hc;cases c with
 | is c =>
  obtain⟨b,hs⟩:=ki hc;simp only[decide_eq_true_eq]at b;simp only[Option.some.injEq]at hs;subst hs;cases r with
  | none =>
   simp only[VRel]at hv;obtain⟨rfl,h2,rfl⟩:=hv;cases h2;have hl:l=0:=by omega
   have hh:h=0:=by omega
   subst hl;subst hh;exact⟨none,0,rfl,by simp,by simp[VRel,Sl.v]⟩
  | some r =>
   simp only[VRel]at hv;obtain⟨ad,c',rfl,hcr,hle,hcc⟩:=hv;subst hcc;refine⟨some ad,c',rfl,b,?_⟩;by_cases hcl:c'=l.toNat
   ·simp only[hcl,if_true,Sl.v,VRel];exact⟨ad,_,rfl,.inl (by omega),by omega,rfl⟩
   ·simp only[hcl,if_false,Sl.v,Option.map_some,VRel];refine⟨_,_,rfl,?_,by omega,rfl⟩;rcases hcr with h0 | h0
    ·omega
    ·exact .inr (h0.add _)
 | opn sz =>
  obtain⟨hz,hc⟩:=ki hc;have hz:=Nat.eq_of_beq_eq_true hz;subst hz;obtain⟨b,hs⟩:=ki hc;simp only[decide_eq_true_eq]at b;simp only[Option.some.injEq]at hs;subst hs;cases r with
  | none =>
   simp only[VRel]at hv;obtain⟨_,h2,_⟩:=hv;cases h2
  | some r =>
   simp only[VRel]at hv;obtain⟨ad,c',rfl,hcr,hle,i,o,L,rfl,hL,hcap⟩:=hv;refine⟨some ad,c',rfl,⟨b.1,b.2.1,by omega⟩,?_⟩;have hlc:l.toNat≤c':=by omega
   have hmul:l.toNat*sz+(c'-l.toNat)*sz=c'*sz:=by rw[← Nat.add_mul];congr 1;omega
   by_cases hcl:c'=l.toNat
   ·simp only[hcl,if_true,Sl.v,Option.map_some,VRel];exact⟨ad,_,rfl,.inl (by omega),by omega,i,_,L,rfl,hL,by rw[hcl]at hmul hcap;omega⟩
   ·simp only[hcl,if_false,Sl.v,Option.map_some,VRel];refine⟨_,_,rfl,?_,by omega,i,_,L,rfl,hL,by omega⟩;rcases hcr with h0 | h0
    ·omega
    ·exact .inr (h0.add _)
theorem k75{μ:Mu}{r:Option Ref}{n:Nat}{c:Cap}{l h m:Int}{size:Nat}{s:Sl}(hc:cutSl3 ⟨r,n,c⟩ l h m size=some s){u:Value}(hv:VRel μ (.slice r n c) u) :
  ∃ad cap,u=.slice ad n cap∧(0≤l∧l≤h∧h≤m∧m≤(cap:Int))∧VRel μ s.v (.slice (if m.toNat=l.toNat then ad else ad.map (·.add (l.toNat*size))) (h.toNat-l.toNat) (m.toNat-l.toNat)):=by
 unfold cutSl3 at hc;cases c with
 | is c =>
  obtain⟨b,hs⟩:=ki hc;simp only[decide_eq_true_eq]at b;simp only[Option.some.injEq]at hs;subst hs;cases r with
  | none =>
   simp only[VRel]at hv;obtain⟨rfl,h2,rfl⟩:=hv;cases h2;have hl:l=0:=by omega
   have hh:h=0:=by omega
   have hm:m=0:=by omega
   subst hl;subst hh;subst hm;exact⟨none,0,rfl,by simp,by simp[VRel,Sl.v]⟩
  | some r =>
   simp only[VRel]at hv;obtain⟨ad,c',rfl,hcr,hle,hcc⟩:=hv;subst hcc;refine⟨some ad,c',rfl,b,?_⟩;by_cases hcl:m.toNat=l.toNat
   ·simp only[hcl,if_true,Sl.v,VRel];exact⟨ad,_,rfl,.inl (by omega),by omega,rfl⟩
   ·simp only[hcl,if_false,Sl.v,Option.map_some,VRel];refine⟨_,_,rfl,?_,by omega,rfl⟩;rcases hcr with h0 | h0
    ·omega
    ·exact .inr (h0.add _)
 | opn sz =>
  obtain⟨b,hs⟩:=ki hc;simp only[decide_eq_true_eq]at b;simp only[Option.some.injEq]at hs;obtain⟨rfl,rfl,rfl⟩:=b;subst hs;cases r with
  | none =>
   simp only[VRel]at hv;obtain⟨_,h2,_⟩:=hv;cases h2
  | some r =>
   simp only[VRel]at hv;obtain⟨ad,c',rfl,hcr,hle,_⟩:=hv;refine⟨some ad,c',rfl,by simp,?_⟩;simp only[if_true,Sl.v,VRel];exact⟨ad,_,rfl,.inl (by simp),by simp,rfl⟩
theorem k2r{rec:Rec}{μ:Mu}{N:Nat}{fr:Fr}{h:AH}{w:World}{o:Oper}{a:Act}(S:Sim P O μ h w)(F:FRel μ N fr a.tmps){t:TypeId}{x:Operand}{lo hi mx:Option Operand}(ho:o.op=.slice t x lo hi mx)
  {k:AV→AH→Option R} {r:R} (hk:opK P rec o.op o.type fr h k=some r):OpOk P O μ h w o a k r:=by
 obtain⟨dst,op,type,pos,after,guard⟩:=o;dsimp only at hk ho;subst ho;simp only[opK]at hk;split at hk
 ·rename_i v hv;have hr:=kp F hv;unfold sliceK at hk;split at hk
  ·rename_i e q n c hd;obtain⟨l,hk1,hl⟩:=kgm F hk;obtain⟨hh,hk2,hhh⟩:=kgm F hk1;split at hk2
   ·obtain⟨hinf,hk2⟩:=ki hk2;obtain⟨ie,hie⟩:=Option.isSome_iff_exists.1 hinf;have hs:(sizeOf e).run P w=.ok (P.cellsOf e) w:=by simp[sizeOf,typeInfo,hie,Program.cellsOf]
    rw[Option.bind_eq_some_iff]at hk2;obtain⟨s,hs',hk3⟩:=hk2;obtain⟨ad,cap,he,hb,hrel⟩:=kvu hs' hr;refine⟨_,h,hk3,OpGoes.of_sem (s:=Instr.sliceAt t (a.eval x) (lo.map a.eval) (hi.map a.eval) none) rfl ?_ (Good.pure S hrel)⟩;rw[he];simp only[Instr.sliceAt,Sem.run_bind,run_underlying hd,Result.andThen_ok,Instr.slice,krf (P:=P) (isS:=true) hl hhh hb,hs,Sem.run_pure]
   ·rename_i m;obtain⟨hinf,hk2⟩:=ki hk2;simp only[Bool.and_eq_true]at hinf;obtain⟨hinf,hsome⟩:=hinf;obtain⟨ie,hie⟩:=Option.isSome_iff_exists.1 hinf;have hs:(sizeOf e).run P w=.ok (P.cellsOf e) w:=by simp[sizeOf,typeInfo,hie,Program.cellsOf]
    obtain⟨mm,hk3,hmm⟩:=kgm F hk2;rw[Option.bind_eq_some_iff]at hk3;obtain⟨s,hs',hk4⟩:=hk3;obtain⟨ad,cap,he,hb,hrel⟩:=k75 hs' hr
    have hh1:∃kd,hi.map a.eval=some (.int kd hh):=by
     rcases hhh with⟨h0,_⟩ | h0
     ·cases hi<;>simp at h0 hsome
     ·exact h0
    have hm1:∃kd,(some m).map a.eval=some (.int kd mm):=by
     rcases hmm with⟨h0,_⟩ | h0
     ·simp at h0
     ·exact h0
    refine⟨_,h,hk4,OpGoes.of_sem (s:=Instr.sliceAt t (a.eval x) (lo.map a.eval) (hi.map a.eval) ((some m).map a.eval)) rfl ?_ (Good.pure S hrel)⟩;rw[he];simp only[Instr.sliceAt,Sem.run_bind,run_underlying hd,Result.andThen_ok,Instr.slice,kbd5 (P:=P) (isS:=true) hl hh1 hm1 hb,hs,Sem.run_pure]
  ·rename_i n e q hd;obtain⟨l,hk1,hl⟩:=kgm F hk;obtain⟨hh,hk2,hhh⟩:=kgm F hk1;split at hk2
   ·obtain⟨hinf,hk2⟩:=ki hk2;obtain⟨ie,hie⟩:=Option.isSome_iff_exists.1 hinf;have hs:(sizeOf e).run P w=.ok (P.cellsOf e) w:=by simp[sizeOf,typeInfo,hie,Program.cellsOf]
    rw[Option.bind_eq_some_iff]at hk2;obtain⟨s,hs',hk3⟩:=hk2;simp only[VRel]at hr;obtain⟨ad0,hr,he0⟩:=hr;obtain⟨ad,cap,he,hb,hrel⟩:=kvu hs' (u:=.slice (some ad0) n n) (by simp only[VRel];exact⟨ad0,n,rfl,.inr hr,Nat.le_refl _,rfl⟩);cases he;refine⟨_,h,hk3,OpGoes.of_sem (s:=Instr.sliceAt t (a.eval x) (lo.map a.eval) (hi.map a.eval) none) rfl ?_ (Good.pure S hrel)⟩;rw[he0];simp only[Instr.sliceAt,Sem.run_bind,run_underlying hd,Result.andThen_ok,Instr.sureAddr,Sem.run_pure,krf (P:=P) (isS:=false) hl hhh hb,hs];by_cases hcl:n=l.toNat<;>simp[hcl]
   ·cases hk2
  ·rename_i s hd;obtain⟨l,hk1,hl⟩:=kgm F hk;obtain⟨hh,hk2,hhh⟩:=kgm F hk1;split at hk2
   ·obtain⟨hb,hk3⟩:=ki hk2;simp only[decide_eq_true_eq]at hb;simp only[VRel]at hr;refine⟨_,h,hk3,OpGoes.of_sem (s:=Instr.sliceAt t (a.eval x) (lo.map a.eval) (hi.map a.eval) none) (u:=.string (s.extract l.toNat hh.toNat)) rfl ?_ (Good.pure S (by simp[VRel]))⟩;rw[hr];simp[Instr.sliceAt,Instr.slice,run_underlying hd,krf (P:=P) (isS:=false) hl hhh hb]
   ·cases hk2
  ·cases hk
 ·cases hk
theorem k0o{rec:Rec}{μ:Mu}{N:Nat}{fr:Fr}{h:AH}{w:World}{o:Oper}{a:Act}(S:Sim P O μ h w)(F:FRel μ N fr a.tmps){t:TypeId}{x:Operand}(ho:o.op=.makeInterface t x)
  {k:AV→AH→Option R} {r:R} (hk:opK P rec (.makeInterface t x) o.type fr h k=some r):OpOk P O μ h w o a k r:=by
 simp only[opK]at hk;split at hk
 ·rename_i v d hv hd;obtain⟨hi,hk⟩:=kc2 hk
  have run:(Instr.makeInterface t (a.eval x)).run P w=.ok (.iface t (a.eval x)) w:=by
   unfold Instr.makeInterface;simp only[Sem.run_bind,run_underlying hd,Result.andThen_ok];cases d<;>first | rfl | cases hi
  refine⟨_,h,hk,OpGoes.of_sem (s:=Instr.makeInterface t (a.eval x)) (by simp only[execOp,ho]) run (Good.pure S ?_)⟩;simp only[VRel];exact⟨_,rfl,kp F hv⟩
 ·cases hk
theorem kzr{rec:Rec}{μ:Mu}{N:Nat}{fr:Fr}{h:AH}{w:World}{o:Oper}{a:Act}(S:Sim P O μ h w)(F:FRel μ N fr a.tmps){x:Operand}{xt t:TypeId}{ok:Bool}(ho:o.op=.typeAssert x xt t ok)
  {k:AV→AH→Option R} {r:R} (hk:opK P rec (.typeAssert x xt t ok) o.type fr h k=some r):OpOk P O μ h w o a k r:=by
 simp only[opK]at hk;split at hk
 ·rename_i v d hv hd;rw[Option.bind_eq_some_iff]at hk;obtain⟨⟨t',y⟩,hp,hk⟩:=hk;obtain⟨hc,hk⟩:=ki hk;have hk2:=kce hk;clear hk;rw[Bool.and_eq_true,Bool.not_eq_true']at hc;have hr:=kp F hv;rw[kx1 hp]at hr;simp only[VRel]at hr;obtain⟨u,he,hu⟩:=hr;have ht:t'=t:=Nat.eq_of_beq_eq_true hc.2;subst ht;have hi:=hc.1
  have run:(Instr.typeAssert (a.eval x) xt t' ok).run P w=.ok (if ok then .tuple #[u,.bool true]else u) w:=by
   unfold Instr.typeAssert;simp only[he,Sem.run_bind,run_underlying hd,Result.andThen_ok];cases d<;>first | (cases hi;done) | simp
  cases ok with
  | false=>exact⟨_,h,hk2,OpGoes.of_sem (s:=Instr.typeAssert (a.eval x) xt t' false) (by simp only[execOp,ho]) run (Good.pure S hu)⟩
  | true =>
   refine⟨_,h,hk2,OpGoes.of_sem (s:=Instr.typeAssert (a.eval x) xt t' true) (by simp only[execOp,ho]) run (Good.pure S ?_)⟩;simp only[VRel];exact⟨_,rfl,VRels.cons hu (VRels.cons (by simp[VRel]) VRels.nil)⟩
 ·cases hk
theorem kbct{rec:Rec}{μ:Mu}{N:Nat}{fr:Fr}{h:AH}{w:World}{o:Oper}{a:Act}(S:Sim P O μ h w)(F:FRel μ N fr a.tmps)(hnc:∀c,o.op≠.call c)
  {k:AV→AH→Option R} {r:R} (hk:opK P rec o.op o.type fr h k=some r):OpOk P O μ h w o a k r:=by
 obtain⟨dst,op,type,pos,after,guard⟩:=o;dsimp only at hk hnc;cases op<;>simp only[opK]at hk
 case call c=>exact absurd rfl (hnc c)
 case move x =>
  rw[kh9,Option.bind_eq_some_iff]at hk;obtain⟨v,hv,hk⟩:=hk;exact⟨v,h,hk,OpGoes.of_value (u:=a.eval x) rfl (Good.pure S (kp F hv))⟩
 case assign x =>
  rw[kh9,Option.bind_eq_some_iff]at hk;obtain⟨v,hv,hk⟩:=hk;exact⟨v,h,hk,OpGoes.of_value (u:=a.eval x) rfl (Good.pure S (kp F hv))⟩
 case pick c x y =>
  split at hk
  ·rename_i t ht;have hc:=kp F ht;simp only[VRel]at hc;rcases kbt hk with⟨rfl,hk2⟩ | ⟨rfl,hk2⟩<;>rw[Option.bind_eq_some_iff]at hk2<;>obtain⟨v,hv,hk2⟩:=hk2
   ·exact⟨v,h,hk2,OpGoes.of_value (u:=a.eval x) (by simp[execOp,hc,asBool]) (Good.pure S (kp F hv))⟩
   ·exact⟨v,h,hk2,OpGoes.of_value (u:=a.eval y) (by simp[execOp,hc,asBool]) (Good.pure S (kp F hv))⟩
  ·cases hk
 case alloc t =>
  split at hk
  ·rename_i zs hz;obtain⟨z,h1,h2,h3⟩:=kr8 (μ:=μ) hz w;refine⟨_,_,hk,OpGoes.of_sem (s:=Instr.alloc t true (.tuple #[])) rfl ?_ (krm S h2 h3 t)⟩;simp[Instr.alloc,h1,newVar,newRow]
  ·cases hk
 case box t x =>
  rw[Option.bind_eq_some_iff]at hk;obtain⟨v,hv,hk⟩:=hk;obtain⟨cs,hk,h1,h2,h3,_⟩:=klb hk (kp F hv);refine⟨_,_,hk,OpGoes.of_sem (s:=Instr.box t (a.eval x)) rfl ?_ (krm S h1 h2 t)⟩;simp[Instr.box,newVar,newRow]
 case build t parts=>exact kbaf (rec:=rec) S F rfl hk
 case buildSlice t n parts=>exact kbcf (rec:=rec) S F rfl hk
 case load t x =>
  split at hk
  ·rename_i q hq;have hv:=kp F hq;simp only[VRel]at hv;obtain⟨ad,hr,he⟩:=hv;obtain⟨v,u,hk,hvu,hl⟩:=kq9 S hr hk;refine⟨v,h,hk,OpGoes.of_sem (s:=Instr.loadAt t (a.eval x)) rfl ?_ (Good.pure S hvu)⟩;rw[he];simp[Instr.loadAt,Instr.sureAddr,hl]
  ·cases hk
  ·cases hk
 case store t x y=>exact k95 (rec:=rec) S F rfl hk
 case nilCheck x =>
  split at hk
  ·rename_i p hp;rw[Option.bind_eq_some_iff]at hk;obtain⟨q,rfl,hk⟩:=hk;have hr:=kp F hp;refine⟨_,h,hk,OpGoes.of_value (u:=a.eval x) ?_ (Good.pure S hr)⟩;simp only[VRel]at hr;obtain⟨ad,_,he⟩:=hr;simp only[execOp];rw[he];rfl
  ·rename_i f b c hf;have hr:=kp F hf;refine⟨_,h,hk,OpGoes.of_value (u:=a.eval x) ?_ (Good.pure S hr)⟩;simp only[VRel]at hr;obtain⟨g,x1,x2,he,hg,_⟩:=hr;simp only[FnRel]at hg;subst hg;simp only[execOp];rw[he];rfl
  ·cases hk
 case binOp op t x y yt =>
  split at hk
  ·rename_i v1 v2 h1 h2;obtain⟨z,u,hk,hz,e1,e2⟩:=k2c hk (kp F h1) (kp F h2) x y w;refine⟨z,h,hk,OpGoes.of_value (u:=u) ?_ (Good.pure S hz)⟩;simp[execOp,e1,e2]
  ·cases hk
 case unOp op t x =>
  split at hk
  ·rename_i v h1;obtain⟨z,u,hk,hz,e1⟩:=kbdq (P:=P) hk (kp F h1) w;exact⟨z,h,hk,OpGoes.of_sem rfl e1 (Good.pure S hz)⟩
  ·cases hk
 case convert s d x =>
  split at hk
  ·rename_i v h1;obtain⟨z,u,hk,hz,e1⟩:=k48 hk (kp F h1) w;exact⟨z,h,hk,OpGoes.of_sem rfl e1 (Good.pure S hz)⟩
  ·cases hk
 case makeFunc f first captured =>
  split at hk
  ·rename_i x y g h1 h2;refine⟨_,h,hk,OpGoes.of_value (u:=.func (.func g) (first.map a.eval) (captured.map a.eval)) rfl (Good.pure S ?_)⟩;simp only[VRel];exact⟨_,_,_,rfl,rfl,by simpa using kcs F h1,by simpa using kcs F h2⟩
  ·cases hk
 case makeInterface t x=>exact k0o (rec:=rec) S F rfl (by simp only[opK];exact hk)
 case typeAssert x xt t ok=>exact kzr (rec:=rec) S F rfl (by simp only[opK];exact hk)
 case makeSlice t l c=>exact kbcm (rec:=rec) S F rfl hk
 case slice t x lo hi mx=>exact k2r (rec:=rec) S F rfl hk
 case fieldAddr s x f=>exact kbcw (rec:=rec) S F rfl hk
 case field t x f=>exact kbe5 (rec:=rec) S F rfl hk
 case indexAddr t x i=>exact kbae (rec:=rec) S F rfl hk
 case index t x i=>exact k5e (rec:=rec) S F rfl hk
 case extract x i =>
  split at hk
  ·rename_i vs hv;rw[Option.bind_eq_some_iff]at hk;obtain⟨v,hvi,hk⟩:=hk;have hr:=kp F hv;simp only[VRel]at hr;obtain⟨us,he,hus⟩:=hr;obtain⟨u,hu,hvu⟩:=hus.get i v hvi;refine⟨v,h,hk,OpGoes.of_sem (s:=Instr.extract (a.eval x) i) rfl ?_ (Good.pure S hvu)⟩;rw[he];simp only[Array.getElem?_toList]at hu;simp[Instr.extract,hu]
  ·cases hk
 all_goals cases hk
end Go.Ab

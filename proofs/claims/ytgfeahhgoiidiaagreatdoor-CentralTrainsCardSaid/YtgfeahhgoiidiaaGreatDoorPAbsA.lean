/- Words and laws that the last text joins. -/
import Derived.Calls
import Derived.Orders
import Derived.KernelRfl
import Derived.Laws.Append
import Derived.Laws.CopyRow
import Derived.RangeFuncRecord
import Derived.WalkSpells
import Derived.ChangeKeysEq
import Derived.Laws.StructEq
import Derived.Laws.Tables
import Derived.Laws.MakeOwn
import Derived.Laws.BitsLemmas
set_option linter.unusedVariables false
set_option linter.unusedSimpArgs false
set_option linter.unusedSectionVars false
namespace Go.Ab
abbrev qbp:=@Nat.le_refl
abbrev qbq:=@Nat.le_trans
abbrev qbr:=@Nat.lt_of_lt_of_le
abbrev qbs:=@Nat.lt_of_le_of_lt
abbrev qbt:=@Option.bind_some
abbrev qbu:=@Option.bind_eq_some_iff
abbrev qbv:=@decide_eq_false_iff_not
abbrev qbw:=@decide_eq_true_eq
abbrev qbx:=@decide_eq_true
abbrev qby:=@decide_eq_false
abbrev qbz:=@List.length_append
abbrev qb0:=@List.length_map
abbrev qb1:=@List.length_cons
abbrev qb2:=@List.getElem_mem
abbrev qb3:=@List.getElem?_eq_getElem
abbrev qb4:=@List.mem_append
abbrev qb5:=@List.mem_cons
abbrev qb6:=@List.length_set
abbrev qb7:=@List.length_replicate
abbrev qb8:=@Bool.and_eq_true
abbrev qb9:=@Bool.or_eq_true
abbrev qca:=@Option.some.injEq
abbrev qcb:=@Prod.mk.injEq
abbrev qcc:=@Array.getElem?_eq_some_iff
abbrev qcd:=@List.getElem?_eq_some_iff
abbrev qce:=@List.length_take
abbrev qcf:=@List.drop_eq_getElem_cons
abbrev qcg:=@List.take_succ_eq_append_getElem
abbrev qch:=@Bool.not_eq_true'
abbrev qci:=@Bool.not_eq_false'
abbrev qcj:=@List.length_range
abbrev qck:=@List.mem_range
abbrev qcl:=@Bool.false_eq_true
inductive Ref where
 | old (a:Addr)
 | new (i off:Nat)
 deriving DecidableEq
def Ref.add:Ref->Nat->Ref
 | .old a,n=>.old (a.add n)
 | .new i o,n=>.new i (o+n)
inductive Cap where
 | is (c:Nat)
 | opn (size:Nat)
 deriving DecidableEq
inductive AV where
 | bool (b:Bool)
 | int (k:IntKind) (n:Int)
 | str (s:ByteArray)
 | ptr (r:Option Ref)
 | slice (r:Option Ref) (len:Nat) (cap:Cap)
 | map (r:Option Nat)
 | func (fn:Fn) (first captured:List AV)
 | nilFunc
 | iface (t:TypeId) (v:AV)
 | nilIface
 | agg (cs:List AV)
 | tup (vs:List AV)
structure Sl where
 ref:Option Ref
 len:Nat
 cap:Cap
 deriving DecidableEq
def Sl.v(s:Sl):AV:=.slice s.ref s.len s.cap
namespace AV
def asInt(k:IntKind):AV->Option Int
 | .int y n=>cond (decide (y=k)) (some n) none
 | _=>none
def asBool:AV->Option Bool
 | .bool b=>some b
 | _=>none
def asStr:AV->Option ByteArray
 | .str s=>some s
 | _=>none
def asPtr:AV->Option (Option Ref)
 | .ptr r=>some r
 | _=>none
def asSl:AV->Option Sl
 | .slice r n c=>some ⟨r,n,c⟩
 | _=>none
def asMap:AV->Option (Option Nat)
 | .map r=>some r
 | _=>none
def asAgg:AV->Option (List AV)
 | .agg cs=>some cs
 | _=>none
def one:AV->Bool
 | .agg _ | .tup _=>false
 | _=>true
def asTup0:AV->Option Unit
 | .tup []=>some ()
 | _=>none
def asTup2:AV->Option (AV×AV)
 | .tup [a,b]=>some (a,b)
 | _=>none
def asTup3:AV->Option (AV×AV×AV)
 | .tup [a,b,c]=>some (a,b,c)
 | _=>none
def asTup4:AV->Option (AV×AV×AV×AV)
 | .tup [a,b,c,d]=>some (a,b,c,d)
 | _=>none
def asIface:AV->Option (TypeId×AV)
 | .iface t v=>some (t,v)
 | _=>none
def ofCell:Value->Option AV
 | .bool b=>some (.bool b)
 | .int k n=>some (.int k n)
 | .string s=>some (.str s)
 | .pointer none=>some (.ptr none)
 | .pointer (some a)=>some (.ptr (some (.old a)))
 | .slice none n c=>cond (Nat.beq n 0&&Nat.beq c 0) (some (.slice none 0 (.is 0))) none
 | .slice (some a) n c=>cond (Nat.ble n c) (some (.slice (some (.old a)) n (.is c))) none
 | .map none=>some (.map none)
 | .nilFunc=>some .nilFunc
 | .nilIface=>some .nilIface
 | _=>none
def ofCells:List Value->Option (List AV)
 | []=>some []
 | v::vs=>match ofCell v,ofCells vs with
  | some x,some xs=>some (x::xs)
  | _,_=>none
def ofValue:Value->Option AV
 | .agg cs=>(ofCells cs.toList).map .agg
 | .tuple cs=>(ofCells cs.toList).map .tup
 | v=>ofCell v
end AV
structure AEnt where
 key:AV
 val:AV
 born:Nat
abbrev Fr:=List (Nat×AV)
inductive ABlk where
 | cells (cs:List AV) (elem:TypeId)
 | map (es:List AEnt) (clock:Nat)
 | loop (state:LoopState) (pending:Option Code) (fn:FuncId) (fr:Fr) (params:Array Tmp) (assign body:Code) (defers:Nat)
 | deferred
 | dead
structure AH where
 old:Array Obj
 blks:Array ABlk
def AH.cell(h:AH):Ref->Option AV
 | .old a=>match h.old[a.block]? with
  | some (.cells c _ _)=>if a.spot.isSome then none else(c[a.off]?).bind AV.ofCell
  | _=>none
 | .new i o=>match h.blks[i]? with
  | some (.cells cs _)=>cs[o]?
  | _=>none
def AH.put(h:AH)(r:Ref)(v:AV):Option AH :=
 match r with
 | .old _=>none
 | .new i o=>match h.blks[i]? with
  | some (.cells cs e)=>if o<cs.length then some {h with blks:=h.blks.setIfInBounds i (.cells (cs.set o v) e)}else none
  | _=>none
def AH.puts(h:AH)(r:Ref):List AV->Option AH
 | []=>some h
 | v::vs=>(h.put r v).bind λh'=>h'.puts (r.add 1) vs
def AH.gets(h:AH)(r:Ref):Nat->Option (List AV)
 | 0=>some []
 | n+1=>(h.cell r).bind λv=>(h.gets (r.add 1) n).map (v :: ·)
def AH.getsO(h:AH)(r:Option Ref)(n:Nat):Option (List AV) :=
 match r with
 | some r=>h.gets r n
 | none=>some []
@[reducible] def AH.alloc(h:AH)(b:ABlk):AH:={h with blks:=h.blks.push b}
@[reducible] def AH.next(h:AH):Ref:=.new h.blks.size 0
def AH.kill(h:AH):Option Ref->AH
 | some (.new i _)=>{h with blks:=h.blks.setIfInBounds i .dead}
 | _=>h
namespace Fr
def get:Fr->Nat->Option AV
 | [],_=>none
 | (s,v)::r,t=>cond (Nat.beq s t) (some v) (get r t)
def keep(fr:Fr):List Nat->Fr
 | []=>[]
 | t::ts=>match get fr t with
  | some v=>(t,v)::keep fr ts
  | none=>keep fr ts
end Fr
def evO(fr:Fr):Operand->Option AV
 | .tmp t=>fr.get t
 | .const v=>AV.ofValue v
 | .global g=>some (.ptr (some (.old ⟨g,0,none⟩)))
 | .func f=>some (.func (.func f) [] [])
def evs(fr:Fr):List Operand->Option (List AV)
 | []=>some []
 | x::xs=>match evO fr x,evs fr xs with
  | some v,some vs=>some (v::vs)
  | _,_=>none
inductive Leaf where
 | int (k:IntKind) | bool | str | slice | ptr | map | any
def leafOf:TypeDesc->Option Leaf
 | .int k=>some (.int k)
 | .bool=>some .bool
 | .string=>some .str
 | .slice _=>some .slice
 | .pointer _=>some .ptr
 | .map _ _=>some .map
 | .func ..=>some .any
 | .interface _=>some .any
 | _=>none
def repL(l:List Leaf):Nat->List Leaf
 | 0=>[]
 | n+1=>l++repL l n
def leaves(P:Program):Nat->TypeId->Option (List Leaf)
 | 0,_=>none
 | d+1,t=>match P.underlying t with
  | some (.struct fs)=>fs.toList.foldr (λf y=>match leaves P d f.type,y with
    | some l,some r=>some (l++r)
    | _,_=>none) (some [])
  | some (.array n e)=>(leaves P d e).map λl=>repL l n
  | some x=>(leafOf x).map λl=>[l]
  | none=>none
def isIfcD:TypeDesc->Bool
 | .interface _=>true
 | _=>false
def isAggD:TypeDesc->Bool
 | .struct _ | .array _ _=>true
 | _=>false
section
variable{R:Type}
def leafK(l:Leaf)(x:Option AV)(k:AV->Option R):Option R :=
 match l with
 | .int kd=>(x.bind (AV.asInt kd)).bind λn=>k (.int kd n)
 | .bool=>(x.bind AV.asBool).bind λb=>k (.bool b)
 | .str=>(x.bind AV.asStr).bind λs=>k (.str s)
 | .slice=>(x.bind AV.asSl).bind λs=>k (.slice s.ref s.len s.cap)
 | .ptr=>(x.bind AV.asPtr).bind λr=>k (.ptr r)
 | .map=>(x.bind AV.asMap).bind λr=>k (.map r)
 | .any=>x.bind k
def kd0(get:Nat->Option AV):List Leaf->Nat->(List AV->Option R)->Option R
 | [],_,k=>k []
 | l::ls,i,k=>leafK l (get i) λv=>kd0 get ls (i+1) λvs=>k (v::vs)
def loadK(P:Program)(t:TypeId)(r:Ref)(h:AH)(k:AV->Option R):Option R :=
 match P.underlying t with
 | some d=>cond (isAggD d)
   (match leaves P 20 t with
    | some ls=>cond (Nat.beq ls.length (P.cellsOf t)) (kd0 (λi=>h.cell (r.add i)) ls 0 λvs=>k (.agg vs)) none
    | none=>none)
   (match leafOf d with
    | some l=>leafK l (h.cell r) k
    | none=>none)
 | none=>none
def seeK(P:Program)(t:TypeId)(v:AV)(k:AV->Option R):Option R :=
 match P.underlying t with
 | some d=>cond (isAggD d)
   (match leaves P 20 t with
    | some ls=>v.asAgg.bind λcs=>cond (Nat.beq cs.length ls.length) (kd0 (λi=>cs[i]?) ls 0 λvs=>k (.agg vs)) none
    | none=>none)
   (match leafOf d with
    | some l=>leafK l (some v) k
    | none=>none)
 | none=>none
def kg4(P:Program)(t:TypeId)(v:AV)(k:AV->Option R):Option R :=
 match P.underlying t with
 | some (.tuple ts)=>match ts.toList with
  | []=>(v.asTup0).bind λ_=>k (.tup [])
  | [a,b]=>(v.asTup2).bind λp=>seeK P a p.1 λx=>seeK P b p.2 λy=>k (.tup [x,y])
  | [a,b,c]=>(v.asTup3).bind λp=>seeK P a p.1 λx=>seeK P b p.2.1 λy=>seeK P c p.2.2 λz=>k (.tup [x,y,z])
  | [a,b,c,d]=>(v.asTup4).bind λp=>seeK P a p.1 λx=>seeK P b p.2.1 λy=>seeK P c p.2.2.1 λz=>seeK P d p.2.2.2 λu=>k (.tup [x,y,z,u])
  | _=>none
 | _=>seeK P t v k
def cellsK(P:Program)(t:TypeId)(v:AV)(k:List AV->Option R):Option R :=
 match P.underlying t with
 | some d=>cond (isAggD d) (v.asAgg.bind λcs=>cond (Nat.beq cs.length (P.cellsOf t)) (k cs) none) (cond (Nat.beq (P.cellsOf t) 1) (cond v.one (k [v]) none) none)
 | none=>none
def iand(k:IntKind)(a b:Int):Int:=k.wrap ((BitVec.ofInt k.bits a&&&BitVec.ofInt k.bits b).toNat:Int)
def ior(k:IntKind)(a b:Int):Int:=k.wrap ((BitVec.ofInt k.bits a|||BitVec.ofInt k.bits b).toNat:Int)
def ixor(k:IntKind)(a b:Int):Int:=k.wrap ((BitVec.ofInt k.bits a ^^^ BitVec.ofInt k.bits b).toNat:Int)
def kkh(k:IntKind)(a b:Int):Int:=k.wrap ((BitVec.ofInt k.bits a&&&~~~ BitVec.ofInt k.bits b).toNat:Int)
def ishl(k:IntKind)(a b:Int):Int:=k.wrap (a*2^(min b.toNat k.bits))
def ishr(k:IntKind)(a b:Int):Int:=a.fdiv (2^(min b.toNat k.bits))
def high0:Nat:=0
def high1:Nat:=high0
def high2:Nat:=high1
def high3:Nat:=high2
def condH{A:Type}(b:Bool)(x y:A):A:=(λ(_:Nat)=>match b with
 | true=>x
 | false=>y) high3
def takeH{A B:Type}(o:Option A)(k:A->Option B):Option B:=(λ(_:Nat)=>match o with
 | some a=>k a
 | none=>none) high3
theorem kjt{A B:Type}(o:Option A)(k:A->Option B):takeH o k=o.bind k:=by cases o<;>rfl
theorem kd7{A:Type}(b:Bool)(x y:A):condH b x y=cond b x y:=by cases b<;>rfl
def intK(op:BinOp)(kd:IntKind)(a b:Int)(k:AV->Option R):Option R :=
 match op with
 | .add=>k (.int kd (kd.wrap (a+b)))
 | .sub=>k (.int kd (kd.wrap (a-b)))
 | .mul=>k (.int kd (kd.wrap (a*b)))
 | .quo=>cond (decide (b=0)) none (k (.int kd (kd.wrap (a.tdiv b))))
 | .rem=>cond (decide (b=0)) none (k (.int kd (a.tmod b)))
 | .and=>k (.int kd (iand kd a b))
 | .or=>k (.int kd (ior kd a b))
 | .xor=>k (.int kd (ixor kd a b))
 | .andNot=>k (.int kd (kkh kd a b))
 | .eql=>k (.bool (decide (a=b)))
 | .neq=>k (.bool (!decide (a=b)))
 | .lss=>k (.bool (decide (a<b)))
 | .leq=>k (.bool (decide (a<=b)))
 | .gtr=>k (.bool (decide (a>b)))
 | .geq=>k (.bool (decide (a>=b)))
 | .shl | .shr=>none
def eqCell:AV->AV->Option Bool
 | .int k a,.int y b=>cond (decide (k=y)) (some (decide (a=b))) none
 | .bool a,.bool b=>some (a==b)
 | .str a,.str b=>some (a.toList==b.toList)
 | .slice r _ _,.slice none _ _=>some r.isNone
 | .ptr r,.ptr none=>some r.isNone
 | .map r,.map none=>some r.isNone
 | .nilFunc,.nilFunc=>some true
 | .func _ _ _,.nilFunc=>some false
 | _,_=>none
def fits:AV->TypeDesc->Bool
 | .slice _ _ _,.slice _=>true
 | .ptr _,.pointer _=>true
 | .map _,.map _ _=>true
 | .nilFunc,.func _ _ _=>true
 | .func _ _ _,.func _ _ _=>true
 | .bool _,.bool=>true
 | .int _ _,.int _=>true
 | .str _,.string=>true
 | _,_=>false
def partA(P:Program)(t:TypeId)(cs:List AV)(off:Nat):Option AV :=
 match P.underlying t with
 | some d=>cond (isAggD d) (cond (Nat.ble (off+P.cellsOf t) cs.length) (some (.agg ((cs.drop off).take (P.cellsOf t)))) none) cs[off]?
 | none=>none
def eqFs(P:Program)(y:TypeId->AV->AV->Option Bool)(xs ys:List AV):List Field->Option Bool
 | []=>some true
 | f::fs=>cond (f.name == "_") none ((partA P f.type xs f.offset).bind λa=>(partA P f.type ys f.offset).bind λb=>(y f.type a b).bind λr=>(eqFs P y xs ys fs).map λs=>r&&s)
def eqIs(P:Program)(y:AV->AV->Option Bool)(e:TypeId)(xs ys:List AV):List Nat->Option Bool
 | []=>some true
 | i::is=>(partA P e xs (i*P.cellsOf e)).bind λa=>(partA P e ys (i*P.cellsOf e)).bind λb=>(y a b).bind λr=>(eqIs P y e xs ys is).map λs=>r&&s
def isStr:AV->Bool
 | .str _=>true
 | _=>false
def eqD(P:Program):Nat->TypeId->AV->AV->Option Bool
 | 0,_,_,_=>none
 | d+1,t,x,y=>match P.underlying t with
  | some (.struct fs)=>match x,y with
   | .agg xs,.agg ys=>cond (P.stoodInHeld t) none (eqFs P (eqD P d) xs ys fs.toList)
   | _,_=>none
  | some (.array n e)=>match P.underlying e,x,y with
   | some _,.agg xs,.agg ys=>eqIs P (eqD P d e) e xs ys (List.range n)
   | _,_,_=>none
  | some dd=>cond (isStr x) none (cond (fits x dd) (eqCell x y) none)
  | none=>none
def eqAV(P:Program)(t:TypeId)(x y:AV):Option Bool :=
 match x,y with
 | .agg _,.agg _=>cond (P.eqGuardType P.depth t) none (eqD P 20 t x y)
 | x,y=>match P.underlying t with
  | some d=>cond (isAggD d) none (cond (fits x d) (eqCell x y) none)
  | none=>none
def binK(P:Program)(op:BinOp)(t:TypeId)(x y:AV)(k:AV->Option R):Option R :=
 match op,x,y with
 | .shl,.int kd a,.int _ b=>condH (decide (b<0)) none (k (.int kd (ishl kd a b)))
 | .shr,.int kd a,.int _ b=>condH (decide (b<0)) none (k (.int kd (ishr kd a b)))
 | op,.int kd a,.int A b=>condH (decide (kd=A)) (intK op kd a b k) none
 | .eql,x,y=>(eqAV P t x y).bind λb=>k (.bool b)
 | .neq,x,y=>(eqAV P t x y).bind λb=>k (.bool (!b))
 | _,_,_=>none
def unK(op:UnOp)(x:AV)(k:AV->Option R):Option R :=
 match op,x with
 | .neg,.int kd n=>k (.int kd (kd.wrap (0-n)))
 | .xor,.int kd n=>k (.int kd (ixor kd (cond kd.signed (-1) kd.max) n))
 | .not,.bool b=>k (.bool (!b))
 | _,_=>none
def splice(cells:List AV)(off:Nat)(vs:List AV):List AV:=cells.take off++vs++cells.drop (off+vs.length)
def fillK(P:Program)(place:Nat->Option (Nat×TypeId)):List (Nat×AV)->List AV->(List AV->Option R)->Option R
 | [],cells,k=>k cells
 | (i,v)::rest,cells,k=>match place i with
  | none=>none
  | some (off,t)=>cellsK P t v λcs=>cond (Nat.ble (off+cs.length) cells.length) (fillK P place rest (splice cells off cs) k) none
def kcj(P:Program)(t:TypeId):Option (List AV) :=
 match P.info? t with
 | some i=>match i.zero with
  | some z=>AV.ofCells z.cells.toList
  | none=>none
 | none=>none
def repC(l:List AV):Nat->List AV
 | 0=>[]
 | n+1=>l++repC l n
def idx(r:Option Ref)(len:Nat)(i:Int)(size:Nat):Option Ref :=
 match r with
 | some r=>cond (decide (0<=i/\i<(len:Int))) (some (r.add (i.toNat*size))) none
 | none=>none
def cutSl(s:Sl)(l h:Int)(size:Nat):Option Sl :=
 match s.cap with
 | .is c=>cond (decide (0<=l/\l<=h/\h<=(c:Int)))
   (some {ref:=if c=l.toNat then s.ref else s.ref.map (·.add (l.toNat*size)),len:=h.toNat-l.toNat,cap:=.is (c-l.toNat)}) none
 | .opn sz=>cond (Nat.beq sz size) (cond (decide (0<=l/\l<=h/\h<=(s.len:Int)))
   (some {ref:=s.ref.map (·.add (l.toNat*size)),len:=h.toNat-l.toNat,cap:=.opn sz}) none) none
def cutSl3(s:Sl)(l h m:Int)(size:Nat):Option Sl :=
 match s.cap with
 | .is c=>cond (decide (0<=l/\l<=h/\h<=m/\m<=(c:Int)))
   (some {ref:=if m.toNat=l.toNat then s.ref else s.ref.map (·.add (l.toNat*size)),len:=h.toNat-l.toNat,cap:=.is (m.toNat-l.toNat)}) none
 | .opn _=>cond (decide (0=l/\h=0/\m=0)) (some {ref:=s.ref,len:=0,cap:=.is 0}) none
def kx:Nat:=70368744177664
def growOk(P:Program)(need:Nat)(elem:TypeId)(size:Nat):Bool :=
 decide (need*P.bytesOf elem<=kx/\need<=kx)&&(match kcj P elem with | some zs=>Nat.beq zs.length size | none=>false)
def kv(P:Program)(s:Sl)(cs:List AV)(n:Nat)(elem:TypeId)(size:Nat)(h:AH):Option (AV×AH) :=
 match s.cap with
 | .is c=>cond (Nat.ble (s.len+n) c)
   (match s.ref with
    | some r=>(h.puts (r.add (s.len*size)) cs).bind λh'=>some (.slice (some r) (s.len+n) (.is c),h')
    | none=>some (.slice none 0 (.is 0),h))
   (cond (growOk P (s.len+n) elem size)
    ((h.getsO s.ref (s.len*size)).bind λold=>some (.slice (some h.next) (s.len+n) (.opn size),h.alloc (.cells (old++cs) elem))) none)
 | .opn sz=>cond (Nat.beq n 0) (some (.slice s.ref s.len (.opn sz),h))
   (cond (Nat.beq sz size&&growOk P (s.len+n) elem size)
    (match s.ref with
     | some (.new i o)=>match h.blks[i]? with
      | some (.cells bs e)=>cond (Nat.beq e elem)
        ((h.getsO s.ref (s.len*size)).bind λold=>some (.slice (some h.next) (s.len+n) (.opn size),(h.kill s.ref).alloc (.cells (old++cs) elem))) none
      | _=>none
     | _=>none) none)
end
end Go.Ab
namespace Go.Ab
inductive Key where
 | fn (f:FuncId) (args:List AV)
 | pt (f:FuncId) (todo:List Item) (fr:Fr)
 | round (l:Nat) (args:List AV)
 | rpt (l:Nat) (f:FuncId) (todo:List Item) (fr:Fr)
abbrev Rec:=Key->AH->Option (AV×AH)
section
variable{R:Type}
def imin(a b:Int):Int:=cond (decide (b<a)) b a
def imax(a b:Int):Int:=cond (decide (a<b)) b a
def prim(name:String)(args:List AV):Option AV :=
 match args with
 | [.int _ x,.int _ y,.int _ c] =>
  cond (name == "math/bits.Add64")
   (cond (decide (0<=x/\0<=y/\0<=c/\c<=1)) (some (.tup [.int .u64 ((x+y+c)%18446744073709551616),.int .u64 ((x+y+c)/18446744073709551616)])) none)
   (cond (name == "math/bits.Sub64")
    (cond (decide (0<=x/\0<=y/\y<18446744073709551616/\0<=c/\c<=1)) (some (.tup [.int .u64 ((x-y-c)%18446744073709551616),.int .u64 (cond (decide (x<y+c)) 1 0)])) none) none)
 | _=>none
def callF(P:Program)(rec:Rec)(f:FuncId)(args:List AV)(h:AH):Option (AV×AH) :=
 match P.funcs[f]? with
 | some fn=>cond (fn.name == "runtime.NumGoroutine") none (match fn.body with
  | some _=>rec (.fn f args) h
  | none=>cond (fn.origin == "") ((prim fn.name args).map λv=>(v,h)) none)
 | none=>none
def callV(P:Program)(rec:Rec)(v:AV)(args:List AV)(h:AH):Option (AV×AH) :=
 match v with
 | .func (.func f) first captured=>callF P rec f (first++args++captured) h
 | _=>none
def lenK(P:Program)(t:TypeId)(x:AV)(k:AV->Option R):Option R :=
 match P.underlying t,x with
 | some .string,.str s=>k (.int .i64 (s.size:Int))
 | some (.array n _),_=>k (.int .i64 (n:Int))
 | some (.slice _),.slice _ n _=>k (.int .i64 (n:Int))
 | _,_=>none
def kbh(P:Program)(elem:TypeId)(x:AV)(h:AH):Option (List AV×Nat) :=
 match x with
 | .slice r n _=>(h.getsO r (n*P.cellsOf elem)).map λcs=>(cs,n)
 | _=>none
def copyH(s d:Sl)(size:Nat)(h:AH):Option AH :=
 match d.ref,s.ref with
 | some rd,some rs=>(h.gets rs (min s.len d.len*size)).bind λcs=>h.puts rd cs
 | _,_=>some h
def kf7(P:Program)(b:Builtin)(ts:List TypeId)(xs:List AV)(h:AH)(k:AV->AH->Option R):Option R :=
 match b,ts,xs with
 | .len,t::_,[x]=>lenK P t x λv=>k v h
 | .min,_,[.int kd a,.int _ b]=>k (.int kd (imin a b)) h
 | .max,_,[.int kd a,.int _ b]=>k (.int kd (imax a b)) h
 | .append,t::u::_,[.slice r n c,x]=>match P.underlying t,P.underlying u with
  | some (.slice e),some (.slice _)=>cond (P.info? e).isSome ((kbh P e x h).bind λp =>
    (kv P ⟨r,n,c⟩ p.1 p.2 e (P.cellsOf e) h).bind λq=>leafK .slice (some q.1) λv=>k v q.2) none
  | _,_=>none
 | .copy,t::_,[.slice r n c,.slice A y C]=>match P.underlying t with
  | some (.slice e)=>cond (P.info? e).isSome ((copyH ⟨A,y,C⟩ ⟨r,n,c⟩ (P.cellsOf e) h).bind λh'=>k (.int .i64 ((min y n:Nat):Int)) h') none
  | _=>none
 | _,_,_=>none
def kko(P:Program)(t:TypeId)(name:String)(v:AV)(h:AH)(k:FuncId->AV->Option R):Option R :=
 match P.info? t with
 | some i=>match i.methods.find? (λm=>m.name==name)with
  | some m=>cond m.path.isEmpty (match m.func,P.underlying t,v with
   | some (f,true),some (.pointer _),v=>k f v
   | some (f,false),some (.pointer e),.ptr (some r)=>loadK P e r h λu=>k f u
   | _,_,_=>none) none
  | none=>none
 | none=>none
def callK(P:Program)(rec:Rec)(c:Call)(ty:TypeId)(fr:Fr)(h:AH)(k:AV->AH->Option R):Option R :=
 match evs fr c.args.toList with
 | none=>none
 | some xs=>match c.callee with
  | .builtin b=>kf7 P b c.argTypes.toList xs h k
  | .value f=>match evO fr f with
   | some v=>(callV P rec v xs h).bind λq=>kg4 P ty q.1 λv=>k v q.2
   | none=>none
  | .invoke r name=>match evO fr r with
   | some v=>v.asIface.bind λp=>kko P p.1 name p.2 h λf u=>(callF P rec f (u::xs) h).bind λq=>kg4 P ty q.1 λv=>k v q.2
   | none=>none
def boundK(fr:Fr)(x:Option Operand)(y:Int)(k:Int->Option R):Option R :=
 match x with
 | none=>k y
 | some o=>match evO fr o with
  | some (.int _ n)=>k n
  | _=>none
def sliceK(P:Program)(t:TypeId)(x:AV)(fr:Fr)(lo hi A:Option Operand)(k:AV->Option R):Option R :=
 match P.underlying t,x with
 | some (.slice e),.slice r n c=>boundK fr lo 0 λl=>boundK fr hi (n:Int) λy=>match A with
  | none=>cond (P.info? e).isSome ((cutSl ⟨r,n,c⟩ l y (P.cellsOf e)).bind λs=>k s.v) none
  | some m=>cond ((P.info? e).isSome&&hi.isSome) (boundK fr (some m) 0 λC=>(cutSl3 ⟨r,n,c⟩ l y C (P.cellsOf e)).bind λs=>k s.v) none
 | some (.array n e),.ptr (some r)=>boundK fr lo 0 λl=>boundK fr hi (n:Int) λy=>match A with
  | none=>cond (P.info? e).isSome ((cutSl ⟨some r,n,.is n⟩ l y (P.cellsOf e)).bind λs=>k s.v) none
  | some _=>none
 | some .string,.str s=>boundK fr lo 0 λl=>boundK fr hi (s.size:Int) λy=>match A with
  | none=>cond (decide (0<=l/\l<=y/\y<=(s.size:Int))) (k (.str (s.extract l.toNat y.toNat))) none
  | some _=>none
 | _,_=>none
def kkt(P:Program)(y dst:TypeId)(x:AV)(k:AV->Option R):Option R :=
 match P.underlying y,P.underlying dst,x with
 | some (.int _),some (.int kd),.int _ n=>k (.int kd (kd.wrap n))
 | some .string,some .string,.str s=>k (.str s)
 | _,_,_=>none
def kq8(P:Program)(t:TypeId)(f:Nat):Option Field :=
 match P.underlying t with
 | some (.struct fs)=>fs.toList[f]?
 | _=>none
def kog(P:Program)(y:Array Field):Option (List (Nat×Nat)):=y.toList.mapM λf=>(P.info? f.type).map λi=>(f.offset,i.size)
def kby(l c:Int)(elem:TypeId)(bytes:Nat)(zs:List AV)(h:AH):Option (Sl×AH) :=
 cond (decide (0<=l/\l<=c/\c<=(kx:Int)/\c*bytes<=(kx:Int))) (some (⟨some h.next,l.toNat,.is c.toNat⟩,h.alloc (.cells (repC zs c.toNat) elem))) none
def aggK(P:Program)(t:TypeId)(v:AV)(k:AV->Option R):Option R:=match P.underlying t with
 | some d=>cond (isAggD d) (seeK P t v k) (k v)
 | none=>none
def opK(P:Program)(rec:Rec)(o:Op)(ty:TypeId)(fr:Fr)(h:AH)(k:AV->AH->Option R):Option R :=
 match o with
 | .move x | .assign x=>takeH (evO fr x) λv=>k v h
 | .pick c a b=>match evO fr c with
  | some (.bool t)=>cond t ((evO fr a).bind λv=>k v h) ((evO fr b).bind λv=>k v h)
  | _=>none
 | .alloc t=>match kcj P t with
  | some zs=>k (.ptr (some h.next)) (h.alloc (.cells zs t))
  | none=>none
 | .box t x=>(evO fr x).bind λv=>cellsK P t v λcs=>k (.ptr (some h.next)) (h.alloc (.cells cs t))
 | .build t parts=>match evs fr (parts.toList.map (·.2)),kcj P t,P.underlying t with
  | some vs,some zs,some (.struct fs)=>cond (kog P fs).isSome (fillK P (λi=>(fs.toList[i]?).map λf=>(f.offset,f.type)) ((parts.toList.map (·.1)).zip vs) zs λcs=>k (.agg cs) h) none
  | some vs,some zs,some (.array _ e)=>cond (P.info? e).isSome (fillK P (λi=>some (i*P.cellsOf e,e)) ((parts.toList.map (·.1)).zip vs) zs λcs=>k (.agg cs) h) none
  | _,_,_=>none
 | .buildSlice t n parts=>match evs fr (parts.toList.map (·.2)),P.underlying t with
  | some vs,some (.slice e)=>match kcj P e with
   | some zs=>cond (Nat.ble (n*P.cellsOf e) 16777216&&Nat.beq zs.length (P.cellsOf e))
     (fillK P (λi=>some (i*P.cellsOf e,e)) ((parts.toList.map (·.1)).zip vs) (repC zs n) λcs=>k (.slice (some h.next) n (.is n)) (h.alloc (.cells cs e))) none
   | none=>none
  | _,_=>none
 | .load t a=>match evO fr a with
  | some (.ptr (some r))=>loadK P t r h λv=>k v h
  | some (.ptr none)=>none
  | _=>none
 | .store t a x=>match evO fr a,evO fr x with
  | some (.ptr p),some v=>cellsK P t v λcs=>p.bind λr=>(h.puts r cs).bind λh'=>k (.tup []) h'
  | _,_=>none
 | .nilCheck x=>match evO fr x with
  | some (.ptr p)=>p.bind λr=>k (.ptr (some r)) h
  | some (.func (.func f) a b)=>k (.func (.func f) a b) h
  | _=>none
 | .binOp op t x y _=>match evO fr x,evO fr y with
  | some a,some b=>binK P op t a b λv=>k v h
  | _,_=>none
 | .unOp op _ x=>match evO fr x with
  | some a=>unK op a λv=>k v h
  | none=>none
 | .convert s d x=>match evO fr x with
  | some a=>kkt P s d a λv=>k v h
  | none=>none
 | .makeFunc f first captured=>match evs fr first.toList,evs fr captured.toList,f with
  | some a,some b,.func g=>k (.func (.func g) a b) h
  | _,_,_=>none
 | .makeSlice t l c=>match evO fr l,evO fr c,P.underlying t with
  | some (.int _ l),some (.int _ c),some (.slice e)=>match kcj P e with
   | some zs=>cond (Nat.beq zs.length (P.cellsOf e)) ((kby l c e (P.bytesOf e) zs h).bind λq=>k q.1.v q.2) none
   | none=>none
  | _,_,_=>none
 | .slice t x lo hi mx=>match evO fr x with
  | some a=>sliceK P t a fr lo hi mx λv=>k v h
  | none=>none
 | .fieldAddr s x f=>match evO fr x,kq8 P s f with
  | some (.ptr p),some fd=>cond (Nat.beq (P.cellsOf fd.type) 0) none (p.bind λr=>k (.ptr (some (r.add fd.offset))) h)
  | _,_=>none
 | .field t x f=>match evO fr x,kq8 P t f with
  | some (.agg cs),some fd=>(partA P fd.type cs fd.offset).bind λv=>k v h
  | _,_=>none
 | .indexAddr t x i=>match evO fr x,evO fr i,P.underlying t with
  | some (.slice r n _),some (.int _ j),some (.slice e)=>condH (P.info? e).isSome ((idx r n j (P.cellsOf e)).bind λq=>k (.ptr (some q)) h) none
  | some (.ptr r),some (.int _ j),some (.array n e)=>condH (P.info? e).isSome ((idx r n j (P.cellsOf e)).bind λq=>k (.ptr (some q)) h) none
  | _,_,_=>none
 | .index t x i=>match evO fr x,evO fr i,P.underlying t with
  | some (.agg cs),some (.int _ j),some (.array n e)=>cond (decide (0<=j/\j<(n:Int))) ((partA P e cs (j.toNat*P.cellsOf e)).bind λv=>aggK P e v λv'=>k v' h) none
  | some (.str s),some (.int _ j),some .string=>cond (decide (0<=j)) ((s[j.toNat]?).bind λb=>k (.int .u8 (b.toNat:Int)) h) none
  | _,_,_=>none
 | .extract x i=>match evO fr x with
  | some (.tup vs)=>(vs[i]?).bind λv=>k v h
  | _=>none
 | .makeInterface t x=>match evO fr x,P.underlying t with
  | some v,some d=>cond (isIfcD d) none (k (.iface t v) h)
  | _,_=>none
 | .typeAssert x _ t ok=>match evO fr x,P.underlying t with
  | some v,some d=>v.asIface.bind λp=>cond (!isIfcD d&&Nat.beq p.1 t) (seeK P t p.2 λu=>cond ok (k (.tup [u,.bool true]) h) (k u h)) none
  | _,_=>none
 | .call c=>callK P rec c ty fr h k
 | _=>none
end
abbrev Keep:=FuncId->Nat->Option (List Nat)
def putT{R:Type}(n:Nat)(d:Option Tmp)(v:AV)(fr:Fr)(k:Fr->Option R):Option R :=
 match d with
 | none=>k fr
 | some t=>condH (Nat.blt t n) (k ((t,v)::fr)) none
theorem kiw{R:Type}(n:Nat)(d:Option Tmp)(v:AV)(fr:Fr)(k:Fr->Option R):putT n d v fr k=match d with
 | none=>k fr
 | some t=>cond (Nat.blt t n) (k ((t,v)::fr)) none:=by cases d<;>simp only[putT,kd7]
def opsK{R:Type}(P:Program)(rec:Rec)(N:Nat)(ops:Array Oper):List Nat->Fr->AH->(Fr->AH->Option R)->Option R
 | [],fr,h,k=>k fr h
 | i::is,fr,h,k=>match ops[i]? with
  | none=>none
  | some o =>
   let go:=λfr=>opK P rec o.op o.type fr h λv h'=>putT N o.dst v fr λy=>opsK P rec N ops is y h' k
   let skip:=λfr=>putT N o.dst (.tup []) fr λy=>opsK P rec N ops is y h k
   match o.guard with
   | none=>go fr
   | some (j,b)=>match ((ops[j]?).bind (·.dst))with
    | none=>none
    | some t=>match fr.get t with
     | some (.bool c)=>cond c
       (cond b (go ((t,.bool true)::fr)) (skip ((t,.bool true)::fr)))
       (cond b (skip ((t,.bool false)::fr)) (go ((t,.bool false)::fr)))
     | some (.tup [])=>skip fr
     | _=>none
structure Look where
 at_:Nat
 ref:Ref
 size:Nat
def nonEff:Op->Bool
 | .move _ | .assign _ | .pick _ _ _ | .build _ _ | .load _ _ | .nilCheck _ | .binOp _ _ _ _ _ | .unOp _ _ _ | .convert _ _ _ | .makeFunc _ _ _
 | .slice _ _ _ _ _ | .fieldAddr _ _ _ | .field _ _ _ | .indexAddr _ _ _ | .index _ _ _ | .extract _ _ | .makeInterface _ _ | .typeAssert _ _ _ _=>true
 | .call c=>match c.callee with
  | .builtin .len | .builtin .min | .builtin .max=>true
  | _=>false
 | _=>false
def kb4(P:Program)(i:Nat)(o:Op)(fr:Fr):List Look :=
 match o with
 | .load t a=>match evO fr a with
  | some (.ptr (some r))=>match P.underlying t with
   | some d=>[⟨i,r,cond (isAggD d) (P.cellsOf t) 1⟩]
   | none=>[]
  | _=>[]
 | _=>[]
def SameBlk(h h':AH):Ref->Prop
 | .new i _=>h'.blks[i]?=h.blks[i]?
 | .old _=>True
def SameAt(h h':AH)(r:Ref)(n:Nat):Prop:=(∀j,j<n->h'.cell (r.add j)=h.cell (r.add j))/\(n=0->SameBlk h h' r)
open Classical in
noncomputable def whenK{R:Type}(p:Prop)(x:Option R):Option R:=if p then x else none
noncomputable def checkP{R:Type}(m:Nat)(h h':AH)(x:Option R):List Look->Option R
 | []=>x
 | p::ps=>cond (m.testBit p.at_) (checkP m h h' x ps) (whenK (SameAt h h' p.ref p.size) (checkP m h h' x ps))
def depsOf(o:Oper):Nat:=o.after.toList.foldl (λm e=>cond (Region.binds .any e) (m|||1 <<< e.on) m) 0
def orBits(d:Nat):List Nat->Nat->Nat
 | [],_=>0
 | a::as,i=>cond (d.testBit i) (a|||orBits d as (i+1)) (orBits d as (i+1))
def ancsOf:List Nat->List Nat->List Nat
 | acc,[]=>acc
 | acc,d::ds=>ancsOf (acc++[d|||orBits d acc 0]) ds
def readyB(y:List Nat)(m i:Nat):Bool:=match y[i]? with
 | some d=>Nat.beq (d&&&m) d&&!m.testBit i
 | none=>false
def onlyB(n:Nat)(y:List Nat)(m i:Nat):Bool:=(List.range n).all λj=>Nat.beq j i||!readyB y m j
def freeB(ops:Array Oper)(y:List Nat)(m i:Nat)(o:Oper):Bool:=(List.range ops.size).all λj =>
 Nat.beq j i||m.testBit j||(match y[j]? with | some d=>d.testBit i | none=>false)||(match ops[j]? with | some oj=>o.apart ops oj | none=>false)
noncomputable def opsD{R:Type}(P:Program)(rec:Rec)(N:Nat)(ops:Array Oper)(y A:List Nat):List Nat->Nat->List Look->Fr->AH->(Fr->AH->Option R)->Option R
 | [],m,_,fr,h,k=>cond (Nat.beq m (2^ops.size-1)) (k fr h) none
 | i::c,m,ps,fr,h,k=>match ops[i]?,A[i]? with
  | some o,some an=>cond (readyB y m i)
   (cond (nonEff o.op)
    (cond (freeB ops y m i o) (opsK P rec N ops [i] fr h λC h'=>opsD P rec N ops y A c (m|||1 <<< i) (kb4 P i o.op fr++ps) C h' k) none)
    (cond (onlyB ops.size y m i) (opsK P rec N ops [i] fr h λC h'=>checkP an h h' (opsD P rec N ops y A c (m|||1 <<< i) ps C h' k) ps) none)) none
  | _,_=>none
noncomputable def drawK{R:Type}(P:Program)(rec:Rec)(N:Nat)(ops:Array Oper)(y:List Nat)(fr:Fr)(h:AH)(k:Fr->AH->Option R):Option R :=
 cond (Nat.beq y.length ops.size) (opsD P rec N ops (ops.toList.map depsOf) (ancsOf [] (ops.toList.map depsOf)) y 0 [] fr h k) none
def Fr.low(N:Nat)(fr:Fr):Fr:=fr.filter λp=>Nat.blt p.1 N
def lowB(N:Nat)(ops:Array Oper):Bool:=ops.toList.all λo=>(o.looksAt ops).all λt=>Nat.blt t N
def layB:Op->Bool
 | .alloc _ | .box _ _ | .buildSlice _ _ _=>true
 | _=>false
def isTmp(t:Tmp):Operand->Bool
 | .tmp s=>Nat.beq s t
 | _=>false
def heldB(ops:Array Oper)(o:Oper):Bool:=(List.range ops.size).all λj=>match (ops[j]?).bind (·.dst)with
 | some t=>!(o.op.operands.toList.any (isTmp t))||(depsOf o).testBit j
 | none=>true
noncomputable def finK{R:Type}(cs:List Operand)(a b:Fr)(x:Option R):Option R:=match cs with
 | []=>x
 | c::cs=>whenK ((c::cs).map (evO a)=(c::cs).map (evO b)) x
noncomputable def drawR{R:Type}(P:Program)(rec:Rec)(N:Nat)(y:List Nat)(fp:Fr):List Nat->List Operand->Array Oper->List Look->Fr->AH->(Fr->AH->Option R)->Option R
 | [],cs,ops,ps,fr,h,k=>cond (Nat.beq y.length ops.size) (opsD P rec N ops (ops.toList.map depsOf) (ancsOf [] (ops.toList.map depsOf)) y 0 ps fr h λA h'=>finK cs (A.low N) fp (k (A.low N) h')) none
 | i::is,cs,ops,ps,fr,h,k=>match ops[i]? with
  | some o=>cond (layB o.op&&heldB ops o) (opK P rec o.op o.type fp h λv h'=>drawR P rec N y fp is (o.op.operands.toList++cs) (ops.setIfInBounds i {o with op:=.move (.tmp (N+i))}) (⟨i,h.next,0⟩::ps) ((N+i,v)::fr) h' k) none
  | none=>none
noncomputable def drawX{R:Type}(P:Program)(rec:Rec)(N:Nat)(ops:Array Oper)(y A C:List Nat)(fr:Fr)(h:AH)(k:Fr->AH->Option R):Option R :=
 match A with
 | []=>drawK P rec N ops y fr h k
 | i::is=>cond (lowB N ops) (opsK P rec N ops C fr h λfp _=>drawR P rec N y fp (i::is) [] ops [] fr h k) none
def resK(P:Program)(fr:Fr)(h:AH):List ResultVar->(List AV->Option (AV×AH))->Option (AV×AH)
 | [],k=>k []
 | .tmp t::rs,k=>(fr.get t).bind λv=>resK P fr h rs λvs=>k (v::vs)
 | .cell a t::rs,k=>match fr.get a with
  | some (.ptr (some r))=>loadK P t r h λv=>resK P fr h rs λvs=>k (v::vs)
  | _=>none
def kib(P:Program)(fn:Func)(fr:Fr)(h:AH):Option (AV×AH) :=
 resK P fr h fn.results.toList λvs=>match vs with
  | [v]=>some (v,h)
  | vs=>some (.tup vs,h)
def learn(c:Operand)(b:Bool)(fr:Fr):Fr :=
 match c with
 | .tmp t=>(t,.bool b)::fr
 | _=>fr
def ksl(K:Keep)(f:FuncId)(id n:Nat):List Nat:=match K f (1000000+id)with
 | some l=>l
 | none=>List.range n
def resvOf(K:Keep)(f:FuncId)(id:Nat):List Nat:=match K f (2000000+id)with
 | some l=>l
 | none=>[]
def preOf(K:Keep)(f:FuncId)(id:Nat):List Nat:=match K f (3000000+id)with
 | some l=>l
 | none=>[]
def AH.setBlk(h:AH)(i:Nat)(b:ABlk):AH:={h with blks:=h.blks.setIfInBounds i b}
def findA(kd:IntKind)(n:Int):List AEnt->Nat->Option (Option (Nat×AV))
 | [],_=>some none
 | e::es,i=>match e.key with
  | .int y m=>cond (decide (y=kd)) (cond (decide (n=m)) (some (some (i,e.val))) (findA kd n es (i+1))) none
  | _=>none
def AH.mapAt(h:AH)(i:Nat):Option (List AEnt×Nat):=match h.blks[i]? with
 | some (.map es ck)=>some (es,ck)
 | _=>none
def mapGet(h:AH)(r:Option Nat)(kd:IntKind)(n:Int):Option (Option AV):=match r with
 | none=>some none
 | some i=>(h.mapAt i).bind λp=>(findA kd n p.1 0).map λq=>q.map Prod.snd
def mapPut(h:AH)(i:Nat)(kd:IntKind)(n:Int)(v:AV):Option AH:=(h.mapAt i).bind λp=>(findA kd n p.1 0).map λq=>match q with
 | some x=>h.setBlk i (.map (p.1.modify x.1 λe=>⟨.int kd n,v,e.born⟩) p.2)
 | none=>h.setBlk i (.map (p.1++[⟨.int kd n,v,p.2⟩]) (p.2+1))
def mapDel(h:AH)(r:Option Nat)(kd:IntKind)(n:Int):Option AH:=match r with
 | none=>some h
 | some i=>(h.mapAt i).bind λp=>(findA kd n p.1 0).map λq=>match q with
  | some x=>h.setBlk i (.map (p.1.eraseIdx x.1) p.2)
  | none=>h.setBlk i (.map p.1 p.2)
def mapLen(h:AH)(r:Option Nat):Option Nat:=match r with
 | none=>some 0
 | some i=>(h.mapAt i).map λp=>p.1.length
def kud(h:AH)(r:Option Nat):Option AH:=match r with
 | none=>some h
 | some i=>(h.mapAt i).map λp=>h.setBlk i (.map [] p.2)
def mapEnt(h:AH)(i:Nat)(kd:IntKind)(n:Int)(z:AV):Option (AV×Int×AH):=(h.mapAt i).bind λp=>(findA kd n p.1 0).bind λq=>match q with
 | some x=>(p.1[x.1]?).map λe=>(x.2,(e.born:Int),h.setBlk i (.map (p.1.modify x.1 λe=>⟨.int kd n,e.val,e.born⟩) p.2))
 | none=>some (z,(p.2:Int),h.setBlk i (.map (p.1++[⟨.int kd n,z,p.2⟩]) (p.2+1)))
def mapSet(h:AH)(i:Nat)(born:Int)(v:AV):Option AH:=(h.mapAt i).bind λp=>(p.1.findIdx? λe=>decide ((e.born:Int)=born)).map λj=>h.setBlk i (.map (p.1.modify j λe=>⟨e.key,v,e.born⟩) p.2)
def zeroA(P:Program)(t:TypeId):Option AV:=(P.info? t).bind λi=>i.zero.bind AV.ofValue
def opM{R:Type}(P:Program)(rec:Rec)(o:Op)(ty:TypeId)(fr:Fr)(h:AH)(k:AV->AH->Option R):Option R :=
 match o with
 | .makeMap _ none=>k (.map (some h.blks.size)) (h.alloc (.map [] 0))
 | .mapUpdate t m x v=>match P.underlying t,evO fr m,evO fr x,evO fr v with
  | some (.map kt _),some (.map (some i)),some (.int kd n),some val=>match P.underlying kt with
   | some (.int y)=>cond (decide (kd=y)) ((mapPut h i kd n val).bind λh'=>k (.tup []) h') none
   | _=>none
  | _,_,_,_=>none
 | .insert t m x v=>match P.underlying t,evO fr m,evO fr x,evO fr v with
  | some (.map kt _),some (.map (some i)),some (.int kd n),some val=>match P.underlying kt with
   | some (.int y)=>cond (decide (kd=y)) ((mapPut h i kd n val).bind λh'=>k (.tup []) h') none
   | _=>none
  | _,_,_,_=>none
 | .lookup t m x ok=>match P.underlying t,evO fr m,evO fr x with
  | some (.map kt et),some (.map r),some (.int kd n)=>match P.underlying kt,zeroA P et with
   | some (.int y),some z=>cond (decide (kd=y)) ((mapGet h r kd n).bind λq=>seeK P et (q.getD z) λv=>cond ok (k (.tup [v,.bool q.isSome]) h) (k v h)) none
   | _,_=>none
  | _,_,_=>none
 | .mapEntry t m x=>match P.underlying t,evO fr m,evO fr x with
  | some (.map kt et),some (.map (some i)),some (.int kd n)=>match P.underlying kt,zeroA P et with
   | some (.int y),some z=>cond (decide (kd=y)) ((mapEnt h i kd n z).bind λq=>seeK P et q.1 λv=>k (.tup [v,.int .i64 q.2.1]) q.2.2) none
   | _,_=>none
  | _,_,_=>none
 | .entryStore _ m s v=>match evO fr m,evO fr s,evO fr v with
  | some (.map (some i)),some (.int _ n),some val=>(mapSet h i n val).bind λh'=>k (.tup []) h'
  | _,_,_=>none
 | .call c=>match c.callee,evs fr c.args.toList,c.argTypes.toList with
  | .builtin .len,some [.map r],t::_=>match P.underlying t with
   | some (.map _ _)=>(mapLen h r).bind λn=>k (.int .i64 (n:Int)) h
   | _=>none
  | .builtin .delete,some [.map r,.int kd n],t::_=>match P.underlying t with
   | some (.map kt _)=>match P.underlying kt with
    | some (.int y)=>cond (decide (kd=y)) ((mapDel h r kd n).bind λh'=>k (.tup []) h') none
    | _=>none
   | _=>none
  | .builtin .clear,some [.map r],t::_=>match P.underlying t with
   | some (.map _ _)=>(kud h r).bind λh'=>k (.tup []) h'
   | _=>none
  | _,_,_=>opK P rec o ty fr h k
 | _=>opK P rec o ty fr h k
def kj2(o:Op)(fr:Fr):Option (Nat×List AV):=match o with
 | .call c=>match c.callee,evs fr c.args.toList with
  | .value f,some xs=>match evO fr f with
   | some (.func (.yield l) [] [])=>some (l,xs)
   | _=>none
  | _,_=>none
 | _=>none
def opY{R:Type}(P:Program)(rec:Rec)(o:Op)(ty:TypeId)(fr:Fr)(h:AH)(k:AV->AH->Option R):Option R :=
 match kj2 o fr with
 | some p=>(rec (.round p.1 p.2) h).bind λq=>kg4 P ty q.1 λv=>k v q.2
 | none=>opM P rec o ty fr h k
def opsY{R:Type}(P:Program)(rec:Rec)(N:Nat)(ops:Array Oper):List Nat->Fr->AH->(Fr->AH->Option R)->Option R
 | [],fr,h,k=>k fr h
 | i::is,fr,h,k=>match ops[i]? with
  | none=>none
  | some o =>
   let go:=λfr=>opY P rec o.op o.type fr h λv h'=>putT N o.dst v fr λy=>opsY P rec N ops is y h' k
   let skip:=λfr=>putT N o.dst (.tup []) fr λy=>opsY P rec N ops is y h k
   match o.guard with
   | none=>go fr
   | some (j,b)=>match ((ops[j]?).bind (·.dst))with
    | none=>none
    | some t=>match fr.get t with
     | some (.bool c)=>cond c
       (cond b (go ((t,.bool true)::fr)) (skip ((t,.bool true)::fr)))
       (cond b (skip ((t,.bool false)::fr)) (go ((t,.bool false)::fr)))
     | some (.tup [])=>skip fr
     | _=>none
def khp(l:Nat)(y:Option Code)(h:AH):Option (AV×AH) :=
 match h.blks[l]? with
 | some (.loop _ _ f fr ps as bd d)=>some (.bool y.isNone,h.setBlk l (.loop (cond y.isNone .ready .done) y f fr ps as bd d))
 | _=>none
def leaveA(P:Program)(fn:Func)(ro:Option Nat)(y:Option Code)(fr:Fr)(h:AH):Option (AV×AH) :=
 match ro with
 | some l=>khp l y h
 | none=>match y with
  | none=>kib P fn fr h
  | some .ret=>kib P fn fr h
  | some _=>none
def beginA(l:Nat)(h:AH):Option AH :=
 match h.blks[l]? with
 | some (.loop .ready pe f fr ps as bd d)=>some (h.setBlk l (.loop .busy pe f fr ps as bd d))
 | _=>none
def kku(l:Nat)(h:AH):Option (Option Code×AH) :=
 match h.blks[l]? with
 | some (.loop st pe _ _ _ _ _ _)=>cond (st==.busy) none (some (pe,h.setBlk l .dead))
 | _=>none
def khr(ops:Array Oper):Bool:=ops.toList.any λo=>match o.op with
 | .defer _=>true
 | _=>false
noncomputable def execA(P:Program)(K:Keep)(rec:Rec)(ro:Option Nat)(f:FuncId)(fn:Func):Nat->Bool->List Item->Fr->AH->Option (AV×AH)
 | 0,_,_,_,_=>none
 | n+1,fresh,todo,fr,h=>match todo with
  | []=>leaveA P fn ro none fr h
  | .code .ret::_=>leaveA P fn ro (some .ret) fr h
  | .code .skip::k=>execA P K rec ro f fn n fresh k fr h
  | .code (.label _)::k=>execA P K rec ro f fn n fresh k fr h
  | .inBlock _::k=>execA P K rec ro f fn n fresh k fr h
  | .inScope _::k=>execA P K rec ro f fn n fresh k fr h
  | .code (.seq a b)::k=>execA P K rec ro f fn n fresh (.code a::.code b::k) fr h
  | .code (.cond c a b)::k=>match evO fr c with
   | some (.bool t)=>cond t (execA P K rec ro f fn n fresh (.code a::k) (learn c true fr) h) (execA P K rec ro f fn n fresh (.code b::k) (learn c false fr) h)
   | _=>none
  | .code (.block id body)::k=>execA P K rec ro f fn n fresh (.code body::.inBlock id::k) fr h
  | .code (.loop body)::k=>execA P K rec ro f fn n fresh (.code body::.inLoop body::k) fr h
  | .inLoop body::k=>execA P K rec ro f fn n fresh (.code body::.inLoop body::k) fr h
  | .code (.scope body)::k=>execA P K rec ro f fn n fresh (.code body::.inScope body::k) fr h
  | .code (.exit id)::k=>match exitTo id k with
   | some A=>execA P K rec ro f fn n fresh A fr h
   | none=>leaveA P fn ro (some (.exit id)) fr h
  | .code (.goto l)::k=>match gotoIn l k with
   | some A=>execA P K rec ro f fn n fresh A fr h
   | none=>leaveA P fn ro (some (.goto l)) fr h
  | .code (.region id ops draw)::k =>
   condH fresh
    (condH draw (condH (ro.isSome&&khr ops) none (drawX P rec fn.ntmps ops (ksl K f id ops.size) (resvOf K f id) (preOf K f id) fr h λy h'=>execA P K rec ro f fn n false k y h')) (opsY P rec fn.ntmps ops (List.range ops.size) fr h λy h'=>execA P K rec ro f fn n false k y h'))
    (match K f id with
     | some L=>match ro with
      | none=>rec (.pt f todo (fr.keep L)) h
      | some l=>rec (.rpt l f todo (fr.keep L)) h
     | none=>condH draw (condH (ro.isSome&&khr ops) none (drawX P rec fn.ntmps ops (ksl K f id ops.size) (resvOf K f id) (preOf K f id) fr h λy h'=>execA P K rec ro f fn n false k y h')) (opsY P rec fn.ntmps ops (List.range ops.size) fr h λy h'=>execA P K rec ro f fn n false k y h'))
  | .beginRound::k=>match ro with
   | some l=>(beginA l h).bind λh'=>execA P K rec ro f fn n fresh k fr h'
   | none=>none
  | .code (.rangeFunc g ps as bd)::k=>match ro with
   | some _=>none
   | none=>condH fresh (match evO fr g with
    | some (.func (.func gf) first captured)=>(callF P rec gf (first++[.func (.yield h.blks.size) [] []]++captured) (h.alloc (.loop .ready none f (fr.keep (List.range fn.ntmps)) ps as bd 0))).bind λq =>
      (kku h.blks.size q.2).bind λp=>rec (.pt f ((p.1.map Item.code).toList++k) (fr.keep (List.range fn.ntmps))) p.2
    | _=>none) (rec (.pt f todo (fr.keep (List.range fn.ntmps))) h)
  | _=>none
def kk2:Nat->List AV->Fr
 | _,[]=>[]
 | i,v::vs=>(i,v)::kk2 (i+1) vs
def handed:List Tmp->List AV->Fr->Fr
 | t::ts,v::vs,fr=>handed ts vs ((t,v)::fr)
 | _,_,fr=>fr
noncomputable def stepA(P:Program)(K:Keep)(rec:Rec)(key:Key)(h:AH):Option (AV×AH) :=
 match key with
 | .fn f args=>match P.funcs[f]? with
  | some fn=>match fn.body with
   | some c=>condH (Nat.ble args.length fn.ntmps) (execA P K rec none f fn 4000 false [.code c] (kk2 0 args) h) none
   | none=>none
  | none=>none
 | .pt f todo fr=>match P.funcs[f]? with
  | some fn=>execA P K rec none f fn 4000 true todo fr h
  | none=>none
 | .round l args=>match h.blks[l]? with
  | some (.loop _ _ f fr ps as bd _)=>match P.funcs[f]? with
   | some fn=>condH (Nat.beq ps.size args.length&&ps.toList.all λt=>Nat.blt t fn.ntmps) (execA P K rec (some l) f fn 4000 false [.code as,.beginRound,.code bd] (handed ps.toList args fr) h) none
   | none=>none
  | _=>none
 | .rpt l f todo fr=>match P.funcs[f]? with
  | some fn=>execA P K rec (some l) f fn 4000 true todo fr h
  | none=>none
noncomputable def runF(P:Program)(K:Keep):Nat->Rec
 | 0=>λ_ _=>none
 | n+1=>stepA P K (runF P K n)
open Classical in
noncomputable def run(P:Program)(K:Keep):Rec:=λkey h =>
 if y:∃n r,runF P K n key h=some r then some (Classical.choose (Classical.choose_spec y))else none
structure Loc where
 block:Nat
 base:Nat
 total:Nat
abbrev Mu:=Nat->Option Loc
def RRel(μ:Mu):Ref->Addr->Prop
 | .old a,b=>b=a
 | .new i o,b=>∃L,μ i=some L/\b=⟨L.block,L.base+o,none⟩
def CapRel(μ:Mu)(r:Ref)(n c:Nat):Cap->Prop
 | .is k=>n<=c/\c=k
 | .opn sz=>n<=c/\∃i o L,r=.new i o/\μ i=some L/\o+c*sz<=L.total
def FnRel(μ:Mu):Fn->Fn->Prop
 | .yield i,g=>∃L,μ i=some L/\g=.yield L.block
 | f,g=>g=f
mutual
def VRel(μ:Mu):AV->Value->Prop
 | .bool b,u=>u=.bool b
 | .int k n,u=>u=.int k n
 | .str s,u=>u=.string s
 | .ptr none,u=>u=.pointer none
 | .ptr (some r),u=>∃a,RRel μ r a/\u=.pointer (some a)
 | .slice none n c,u=>n=0/\c=.is 0/\u=.slice none 0 0
 | .slice (some r) n cap,u=>∃a c,u=.slice (some a) n c/\(c=0\/RRel μ r a)/\CapRel μ r n c cap
 | .map none,u=>u=.map none
 | .map (some i),u=>∃L,μ i=some L/\u=.map (some L.block)
 | .func f a b,u=>∃g x y,u=.func g x y/\FnRel μ f g/\VRels μ a x.toList/\VRels μ b y.toList
 | .nilFunc,u=>u=.nilFunc
 | .iface t v,u=>∃x,u=.iface t x/\VRel μ v x
 | .nilIface,u=>u=.nilIface
 | .agg cs,u=>∃us:Array Value,u=.agg us/\VRels μ cs us.toList/\cs.all AV.one=true
 | .tup cs,u=>∃us:Array Value,u=.tuple us/\VRels μ cs us.toList
def VRels(μ:Mu):List AV->List Value->Prop
 | [],us=>us=[]
 | v::vs,us=>∃x xs,us=x::xs/\VRel μ v x/\VRels μ vs xs
end
def Mu.le(μ ν:Mu):Prop:=∀i L,μ i=some L->ν i=some L
theorem Mu.le_refl(μ:Mu):μ.le μ:=λ_ _ h=>h
theorem Mu.le_trans{a b c:Mu}(h:a.le b)(k:b.le c):a.le c:=λi L e=>k i L (h i L e)
theorem RRel.mono{μ ν:Mu}(h:μ.le ν):∀{r:Ref}{a:Addr},RRel μ r a->RRel ν r a
 | .old _,_,e=>e
 | .new _ _,_,⟨L,e,f⟩=>⟨L,h _ _ e,f⟩
theorem CapRel.mono{μ ν:Mu}(h:μ.le ν){r:Ref}{n c:Nat}:∀{k:Cap},CapRel μ r n c k->CapRel ν r n c k
 | .is _,e=>e
 | .opn _,⟨e,i,o,L,y,A,C⟩=>⟨e,i,o,L,y,h _ _ A,C⟩
theorem FnRel.mono{μ ν:Mu}(h:μ.le ν):∀{f g:Fn},FnRel μ f g->FnRel ν f g
 | .yield _,_,⟨L,e,f⟩=>⟨L,h _ _ e,f⟩
 | .func _,_,e=>e
 | .method _,_,e=>e
 | .methodOf _ _,_,e=>e
 | .via _ _ _ _,_,e=>e
mutual
theorem VRel.mono{μ ν:Mu}(h:μ.le ν):∀{v:AV}{u:Value},VRel μ v u->VRel ν v u
 | .bool _,_,e=>by simpa only[VRel]using e
 | .int _ _,_,e=>by simpa only[VRel]using e
 | .str _,_,e=>by simpa only[VRel]using e
 | .ptr none,_,e=>by simpa only[VRel]using e
 | .ptr (some r),_,e=>by
  simp only[VRel]at e|-;obtain⟨a,A,C⟩:=e;exact⟨a,A.mono h,C⟩
 | .slice none _ _,_,e=>by simpa only[VRel]using e
 | .slice (some r) _ _,_,e=>by
  simp only[VRel]at e|-;obtain⟨a,c,A,C,F⟩:=e;exact⟨a,c,A,C.imp id (RRel.mono h),F.mono h⟩
 | .map none,_,e=>by simpa only[VRel]using e
 | .map (some _),_,e=>by
  simp only[VRel]at e|-;obtain⟨L,A,C⟩:=e;exact⟨L,h _ _ A,C⟩
 | .func f a b,_,e=>by
  simp only[VRel]at e|-;obtain⟨g,x,y,A,C,F,H⟩:=e;exact⟨g,x,y,A,C.mono h,VRels.mono h F,VRels.mono h H⟩
 | .nilFunc,_,e=>by simpa only[VRel]using e
 | .iface t v,_,e=>by
  simp only[VRel]at e|-;obtain⟨x,A,C⟩:=e;exact⟨x,A,VRel.mono h C⟩
 | .nilIface,_,e=>by simpa only[VRel]using e
 | .agg cs,_,e=>by
  simp only[VRel]at e|-;obtain⟨us,A,C,F⟩:=e;exact⟨us,A,VRels.mono h C,F⟩
 | .tup cs,_,e=>by
  simp only[VRel]at e|-;obtain⟨us,A,C⟩:=e;exact⟨us,A,VRels.mono h C⟩
theorem VRels.mono{μ ν:Mu}(h:μ.le ν):∀{v:List AV}{u:List Value},VRels μ v u->VRels ν v u
 | [],_,e=>by simpa only[VRels]using e
 | v::vs,_,e=>by
  simp only[VRels]at e|-;obtain⟨x,xs,y,A,C⟩:=e;exact⟨x,xs,y,VRel.mono h A,VRels.mono h C⟩
end
theorem VRels.length{μ:Mu}:∀{vs:List AV}{us:List Value},VRels μ vs us->us.length=vs.length
 | [],us,h=>by simp only[VRels]at h;simp[h]
 | v::vs,us,h=>by
  simp only[VRels]at h;obtain⟨x,xs,rfl,_,y⟩:=h;simp[VRels.length y]
theorem VRels.get{μ:Mu}:∀{vs:List AV}{us:List Value},VRels μ vs us->∀(i:Nat)(v:AV),vs[i]?=some v->∃u,us[i]?=some u/\VRel μ v u
 | [],us,h,i,v,e=>by simp at e
 | w::vs,us,h,i,v,e=>by
  simp only[VRels]at h;obtain⟨x,xs,rfl,y,A⟩:=h;cases i with
  | zero=>simp at e;subst e;exact⟨x,by simp,y⟩
  | succ i=>simp at e|-;exact VRels.get A i v e
theorem VRels.append{μ:Mu}{vs ws:List AV}{us xs:List Value}(h:VRels μ vs us)(k:VRels μ ws xs):VRels μ (vs++ws) (us++xs):=by
 induction vs generalizing us with
 | nil=>simp only[VRels]at h;subst h;simpa using k
 | cons v vs ih =>
  simp only[VRels]at h;obtain⟨x,r,rfl,y,A⟩:=h;simp only[List.cons_append,VRels];exact⟨x,r++xs,rfl,y,ih A⟩
theorem VRels.take{μ:Mu}{vs:List AV}{us:List Value}(h:VRels μ vs us)(n:Nat):VRels μ (vs.take n) (us.take n):=by
 induction vs generalizing us n with
 | nil=>simp only[VRels]at h;subst h;simp[VRels]
 | cons v vs ih =>
  simp only[VRels]at h;obtain⟨x,r,rfl,y,A⟩:=h;cases n with
  | zero=>simp[VRels]
  | succ n=>simp only[List.take_succ_cons,VRels];exact⟨x,_,rfl,y,ih A n⟩
theorem VRels.drop{μ:Mu}{vs:List AV}{us:List Value}(h:VRels μ vs us)(n:Nat):VRels μ (vs.drop n) (us.drop n):=by
 induction vs generalizing us n with
 | nil=>simp only[VRels]at h;subst h;simp[VRels]
 | cons v vs ih =>
  cases n with
  | zero=>simpa using h
  | succ n =>
   simp only[VRels]at h;obtain⟨x,r,rfl,A,y⟩:=h
   simpa using ih y n
theorem VRels.nil{μ:Mu}:VRels μ [] []:=by simp[VRels]
abbrev qb:=@VRels.nil
theorem VRels.cons{μ:Mu}{v:AV}{u:Value}{vs:List AV}{us:List Value}(h:VRel μ v u)(k:VRels μ vs us):VRels μ (v::vs) (u::us):=by
 simp only[VRels];exact⟨u,us,rfl,h,k⟩
abbrev qc:=@VRels.cons
theorem VRels.cons_inv{μ:Mu}{v:AV}{vs:List AV}{us:List Value}(h:VRels μ (v::vs) us):∃x xs,us=x::xs/\VRel μ v x/\VRels μ vs xs:=by
 simpa only[VRels]using h
theorem VRels.nil_inv{μ:Mu}{us:List Value}(h:VRels μ [] us):us=[]:=by simpa only[VRels]using h
theorem VRel.one{μ:Mu}{v:AV}{u:Value}(h:VRel μ v u)(h1:v.one=true):u.oneCell'=true:=by
 cases v with
 | bool b=>simp only[VRel]at h;subst h;rfl
 | int k n=>simp only[VRel]at h;subst h;rfl
 | str s=>simp only[VRel]at h;subst h;rfl
 | ptr r =>
  cases r<;>simp only[VRel]at h
  ·subst h;rfl
  ·obtain⟨a,_,rfl⟩:=h;rfl
 | slice r n c =>
  cases r<;>simp only[VRel]at h
  ·obtain⟨_,_,rfl⟩:=h;rfl
  ·obtain⟨a,c,rfl,_⟩:=h;rfl
 | map r =>
  cases r<;>simp only[VRel]at h
  ·subst h;rfl
  ·obtain⟨a,_,rfl⟩:=h;rfl
 | func f a b=>simp only[VRel]at h;obtain⟨g,x,y,rfl,_⟩:=h;rfl
 | nilFunc=>simp only[VRel]at h;subst h;rfl
 | iface t v=>simp only[VRel]at h;obtain⟨x,rfl,_⟩:=h;rfl
 | nilIface=>simp only[VRel]at h;subst h;rfl
 | agg cs=>simp[AV.one]at h1
 | tup cs=>simp[AV.one]at h1
theorem VRel.cells_one{μ:Mu}{v:AV}{u:Value}(h:VRel μ v u)(h1:v.one=true):u.cells=#[u]:=by
 have:=h.one h1;cases u<;>first | rfl | simp[Value.oneCell']at this
theorem VRel.ofCell{μ:Mu}{v:AV}{u:Value}(h:AV.ofCell u=some v):VRel μ v u/\v.one=true:=by
 cases u with
 | bool b=>simp only[AV.ofCell,qca]at h;subst h;simp[VRel,AV.one]
 | int k n=>simp only[AV.ofCell,qca]at h;subst h;simp[VRel,AV.one]
 | string s=>simp only[AV.ofCell,qca]at h;subst h;simp[VRel,AV.one]
 | pointer a=>cases a<;>(simp only[AV.ofCell,qca]at h;subst h;simp[VRel,AV.one,RRel])
 | slice a n c =>
  cases a with
  | none =>
   simp only[AV.ofCell]at h;cases y:Nat.beq n 0<;>cases A:Nat.beq c 0<;>simp[y,A]at h;have h1:n=0:=Nat.eq_of_beq_eq_true y;have C:c=0:=Nat.eq_of_beq_eq_true A;subst h;subst h1;subst C;simp[VRel,AV.one]
  | some a =>
   simp only[AV.ofCell]at h;cases y:Nat.ble n c<;>simp[y]at h;have:=Nat.le_of_ble_eq_true y;subst h;refine⟨?_,rfl⟩;simp only[VRel];exact⟨a,c,rfl,.inr rfl,this,rfl⟩
 | map r=>cases r<;>simp[AV.ofCell]at h;subst h;simp[VRel,AV.one]
 | nilFunc=>simp only[AV.ofCell,qca]at h;subst h;simp[VRel,AV.one]
 | nilIface=>simp only[AV.ofCell,qca]at h;subst h;simp[VRel,AV.one]
 | _=>simp[AV.ofCell]at h
theorem VRels.ofCells{μ:Mu}:∀{us:List Value}{vs:List AV},AV.ofCells us=some vs->VRels μ vs us/\vs.all AV.one=true
 | [],vs,h=>by simp[AV.ofCells]at h;subst h;simp[VRels]
 | u::us,vs,h=>by
  simp only[AV.ofCells]at h;split at h
  ·rename_i x xs A y;simp at h;subst h;obtain⟨h1,C⟩:=VRel.ofCell (μ:=μ) A;obtain⟨F,H⟩:=VRels.ofCells (μ:=μ) y;exact⟨qc h1 F,by simp[C];simpa using H⟩
  ·simp at h
theorem VRel.ofValue{μ:Mu}{v:AV}{u:Value}(h:AV.ofValue u=some v):VRel μ v u:=by
 unfold AV.ofValue at h;split at h
 ·rename_i cs;simp only[Option.map_eq_some_iff]at h;obtain⟨x,h1,rfl⟩:=h;obtain⟨y,A⟩:=VRels.ofCells (μ:=μ) h1;simp only[VRel];exact⟨cs,rfl,y,A⟩
 ·rename_i cs;simp only[Option.map_eq_some_iff]at h;obtain⟨x,h1,rfl⟩:=h;obtain⟨y,A⟩:=VRels.ofCells (μ:=μ) h1;simp only[VRel];exact⟨cs,rfl,y⟩
 ·exact(VRel.ofCell h).1
structure FRel(μ:Mu)(N:Nat)(fr:Fr)(tmps:Array Value):Prop where
 size:tmps.size=N
 get:∀t v,fr.get t=some v->∃u,tmps[t]?=some u/\VRel μ v u
theorem FRel.mono{μ ν:Mu}{N:Nat}{fr:Fr}{tmps:Array Value}(h:FRel μ N fr tmps)(y:Mu.le μ ν):FRel ν N fr tmps :=
 ⟨h.size,λt v e=>let ⟨u,a,b⟩:=h.get t v e;⟨u,a,b.mono y⟩⟩
def BRel(P:Program)(μ:Mu)(L:Loc)(w:World):ABlk->Prop
 | .cells cs e=>(∃c:Array Value,w.heap[L.block]?=some (.cells c e (0,0))/\c.size=L.base+L.total/\cs.length<=L.total/\
   ∀(j:Nat)(v:AV),cs[j]?=some v->∃u,c[L.base+j]?=some u/\VRel μ v u)/\cs.all AV.one=true
 | .map es clock=>∃us:Array MapEntry,w.heap[L.block]?=some (.map us clock)/\us.size=es.length/\
   ∀(j:Nat)(e:AEnt),es[j]?=some e->∃u:MapEntry,us[j]?=some u/\VRel μ e.key u.key/\VRel μ e.val u.val/\u.born=e.born
 | .loop st pe f fr ps as bd _=>∃(tmps:Array Value)(d:Nat),w.heap[L.block]?=some (.loop {state:=st,pending:=pe,fn:=f,tmps,params:=ps,assign:=as,body:=bd,defers:=d})/\∀fn,P.funcs[f]?=some fn->FRel μ fn.ntmps fr tmps
 | .deferred=>False
 | .dead=>True
def Live(h:AH)(i:Nat):Prop:=∀b,h.blks[i]?=some b->b≠.dead
structure Sim(P:Program)(O:World)(μ:Mu)(h:AH)(w:World):Prop where
 old:h.old=O.heap
 os:w.os=O.os
 tape:w.tape=O.tape
 output:w.output=O.output
 base:O.heap.size<=w.heap.size
 keep:∀b,b<O.heap.size->w.heap[b]?=O.heap[b]?
 dom:∀i L,μ i=some L->i<h.blks.size
 place:∀i L,μ i=some L->O.heap.size<=L.block/\L.block<w.heap.size
 blk:∀i L b,μ i=some L->h.blks[i]?=some b->BRel P μ L w b
 inj:∀i j L M,μ i=some L->μ j=some M->Live h i->Live h j->L.block=M.block->i=j
def Frm(μ:Mu)(h:AH)(w w':World):Prop :=
 w.heap.size<=w'.heap.size/\∀b,b<w.heap.size->(∀i L,i<h.blks.size->Live h i->μ i=some L->L.block≠b)->w'.heap[b]?=w.heap[b]?
def Ext(μ:Mu)(h:AH)(w:World)(ν:Mu)(h':AH):Prop :=
 h.blks.size<=h'.blks.size/\μ.le ν/\(∀i,i<h.blks.size->ν i=μ i)/\
 (∀i,i<h.blks.size->Live h' i->Live h i)/\
 (∀i L,h.blks.size<=i->i<h'.blks.size->ν i=some L->w.heap.size<=L.block\/∃j M,j<h.blks.size/\Live h j/\μ j=some M/\M.block=L.block)
theorem Frm.refl(μ:Mu)(h:AH)(w:World):Frm μ h w w:=⟨qbp _,λ_ _ _=>rfl⟩
theorem Ext.refl(μ:Mu)(h:AH)(w:World):Ext μ h w μ h:=⟨qbp _,Mu.le_refl μ,λ_ _=>rfl,λ_ _ h=>h,λi L h1 y=>by omega⟩
theorem Ext.trans{μ ν ξ:Mu}{h h' A:AH}{w w':World}(a:Ext μ h w ν h')(b:Ext ν h' w' ξ A)(hw:w.heap.size<=w'.heap.size):Ext μ h w ξ A:=by
 obtain⟨a1,a2,a3,a4,a5⟩:=a;obtain⟨b1,b2,b3,b4,b5⟩:=b;refine⟨qbq a1 b1,Mu.le_trans a2 b2,λi hi=>?_,λi hi F=>a4 i hi (b4 i (by omega) F),λi L H I K=>?_⟩
 ·rw[b3 i (by omega),a3 i (by omega)]
 ·rcases Nat.lt_or_ge i h'.blks.size with y | Q
  ·rw[b3 i y]at K;exact a5 i L H y K
  ·rcases b5 i L Q I K with h1 | ⟨j,M,hj,F,U,hb⟩
   ·exact .inl (qbq hw h1)
   ·rcases Nat.lt_or_ge j h.blks.size with y | C
    ·rw[a3 j y]at U;exact .inr ⟨j,M,y,a4 j y F,U,hb⟩
    ·rcases a5 j M C hj U with h1 | ⟨j',M',V,X,Y,Z⟩
     ·exact .inl (by omega)
     ·exact .inr ⟨j',M',V,X,Y,Z.trans hb⟩
theorem Frm.trans{μ ν:Mu}{h h':AH}{w w' A:World}(a:Frm μ h w w')(e:Ext μ h w ν h')(b:Frm ν h' w' A):Frm μ h w A:=by
 obtain⟨e1,e2,U,V,X⟩:=e;refine⟨qbq a.1 b.1,λk I C=>(b.2 k (qbr I a.1) λi L hi Y K Q=>?_).trans (a.2 k I C)⟩;rcases Nat.lt_or_ge i h.blks.size with y | F
 ·exact C i L y (V i y Y) (by rw[<- U i y];exact K) Q
 ·rcases X i L F hi K with h1 | ⟨j,M,Z,H,hM,hb⟩
  ·omega
  ·exact C j M Z H hM (hb.trans Q)
end Go.Ab
namespace Go.Ab
variable{P:Program}{O:World}
theorem kua(b o n:Nat):(⟨b,o,none⟩:Addr).add n=⟨b,o+n,none⟩:=by unfold Addr.add;split<;>simp_all
theorem Addr.add_add(a:Addr)(m n:Nat):(a.add m).add n=a.add (m+n):=by
 unfold Addr.add;by_cases y:m=0<;>by_cases A:n=0<;>simp[y,A];omega
theorem Ref.add_add(r:Ref)(m n:Nat):(r.add m).add n=r.add (m+n):=by
 cases r with
 | old a=>simp[Ref.add,Addr.add_add]
 | new i o=>simp[Ref.add,Nat.add_assoc]
theorem Ref.add_zero(r:Ref):r.add 0=r:=by
 cases r<;>simp[Ref.add,Addr.add]
theorem RRel.add{μ:Mu}{r:Ref}{a:Addr}(h:RRel μ r a)(n:Nat):RRel μ (r.add n) (a.add n):=by
 cases r with
 | old b=>simp only[RRel,Ref.add]at *;rw[h]
 | new i o =>
  obtain⟨L,h1,rfl⟩:=h;exact⟨L,h1,by rw[kua,Nat.add_assoc]⟩
theorem ke3{h:AH}{i:Nat}{cs:List AV}{e:TypeId}(A:h.blks[i]?=some (.cells cs e)):Live h i:=λb y=>by
 rw[A]at y;cases y;simp
theorem kzi{μ:Mu}{h:AH}{w:World}(S:Sim P O μ h w){r:Ref}{a:Addr}(C:RRel μ r a){v:AV}(y:h.cell r=some v) :
  ∃u,w.cell? a=some u/\VRel μ v u/\v.one=true:=by
 cases r with
 | old b =>
  simp only[RRel]at C;subst C;simp only[AH.cell]at y;split at y
  ·rename_i c t f A;split at y
   ·simp at y
   ·rename_i Q;rw[qbu]at y;obtain⟨u,F,y⟩:=y;obtain⟨h1,K⟩:=VRel.ofCell (μ:=μ) y;refine⟨u,?_,h1,K⟩;rw[S.old]at A
    have H:a.block<O.heap.size:=by
     rcases Nat.lt_or_ge a.block O.heap.size with h' | h'
     ·exact h'
     ·simp[Array.getElem?_eq_none h']at A
    simp only[World.cell?,S.keep _ H,A];simp[Q,F]
  ·simp at y
 | new i o =>
  obtain⟨L,U,rfl⟩:=C;simp only[AH.cell]at y;split at y
  ·rename_i cs e A;obtain⟨⟨c,h1,K,Y,V⟩,X⟩:=S.blk i L _ U A;obtain⟨u,F,I⟩:=V o v y;refine⟨u,?_,I,?_⟩
   ·simp[World.cell?,h1,F]
   ·have:=List.all_eq_true.1 X v (List.mem_of_getElem? y);exact this
  ·simp at y
theorem kqk{μ:Mu}{h:AH}{w:World}(S:Sim P O μ h w):∀(n:Nat){r:Ref}{a:Addr},RRel μ r a->∀{vs:List AV},h.gets r n=some vs->
  ∃us:List Value,us.length=n/\(∀j u,us[j]?=some u->w.cell? (a.add j)=some u)/\VRels μ vs us/\vs.all AV.one=true
 | 0,r,a,C,vs,y=>by
  simp only[AH.gets,qca]at y;subst y;exact⟨[],rfl,by simp,qb,rfl⟩
 | n+1,r,a,C,vs,y=>by
  simp only[AH.gets,qbu,Option.map_eq_some_iff]at y;obtain⟨v,h1,ws,I,rfl⟩:=y;obtain⟨u,K,F,A⟩:=kzi S C h1;obtain⟨us,Q,U,V,X⟩:=kqk S n (C.add 1) I;refine⟨u::us,by simp[Q],λj x H=>?_,qc F V,by simp[A];simpa using X⟩;cases j with
  | zero=>simp at H;subst H;simpa[Addr.add]using K
  | succ j =>
   have:=U j x (by simpa using H);rw[Addr.add_add]at this;rw[Nat.add_comm j 1];exact this
theorem kbbk{cs:List AV}{v:AV}(h:cs.all AV.one=true)(y:v.one=true)(o:Nat):(cs.set o v).all AV.one=true:=by
 rw[List.all_eq_true]at *
 intro x A;rcases List.mem_or_eq_of_mem_set A with h' | rfl
 ·exact h x h'
 ·exact y
theorem k9l{μ:Mu}{h h':AH}{w:World}(S:Sim P O μ h w){r:Ref}{a:Addr}(hr:RRel μ r a){v:AV}{u:Value}(hv:VRel μ v u)(h1:v.one=true)(X:h.put r v=some h') :
  (store a u).run P w=.ok () (w.setCell a u)/\Sim P O μ h' (w.setCell a u)/\Ext μ h w μ h'/\Frm μ h w (w.setCell a u):=by
 cases r with
 | old b=>simp[AH.put]at X
 | new i o =>
  obtain⟨L,Z,rfl⟩:=hr;simp only[AH.put]at X;split at X
  ·rename_i cs e U;split at X
   ·rename_i af;simp only[qca]at X;subst X;obtain⟨⟨c,hc,ag,ah,ai⟩,ac⟩:=S.blk i L _ Z U
    have ad:i<h.blks.size:=by
     rcases Nat.lt_or_ge i h.blks.size with h' | h'
     ·exact h'
     ·simp[Array.getElem?_eq_none h']at U
    have Y:L.base+o<c.size:=by omega
    have am:=S.place i L Z;have aa:w.cell? ⟨L.block,L.base+o,none⟩=some c[L.base+o]:=by simp[World.cell?,hc,Y]
    have aj:w.frozen? ⟨L.block,L.base+o,none⟩=false:=by simp[World.frozen?,hc]
    have ae:(w.setCell ⟨L.block,L.base+o,none⟩ u).heap[L.block]?=some (.cells (c.setIfInBounds (L.base+o) u) e (0,0)):=by
     simp[World.setCell,Array.getElem?_modify,hc]
    have C:∀b,b≠L.block->(w.setCell ⟨L.block,L.base+o,none⟩ u).heap[b]?=w.heap[b]?:=λb U=>by
     simp only[World.setCell,Array.getElem?_modify];rw[if_neg (by simpa using λh=>U h.symm)]
    have H:∀j,Live {h with blks:=h.blks.setIfInBounds i (.cells (cs.set o v) e)} j->Live h j:=λj hj b A=>by
     by_cases F:i=j
     ·subst F;rw[U]at A;cases A;simp
     ·exact hj b (by rw[Array.getElem?_setIfInBounds_ne F];exact A)
    refine⟨?_,?_,?_,?_⟩
    ·rw[run_store P w _ u _ (hv.one h1),aa,aj];rfl
    ·refine{old:=S.old,os:=S.os,tape:=S.tape,output:=S.output,base:=by simpa using S.base,dom:=λj M I=>by simpa using S.dom j M I,keep:=λb A=>?_,place:=λj M I=>by simpa using S.place j M I,blk:=λj M b I A=>?_,inj:=λj k M N I hN lj lk V=>S.inj j k M N I hN (H j lj) (H k lk) V}
     ·rw[C b (by omega)];exact S.keep b A
     ·by_cases F:i=j
      ·subst F;rw[Z]at I;cases I;simp[ad]at A;subst A;refine⟨⟨_,ae,by simpa using ag,by simpa using ah,λk x hx=>?_⟩,kbbk ac h1 o⟩;by_cases hk:o=k
       ·subst hk;have ak:x=v:=by simpa[List.getElem?_set_self af]using hx.symm
        subst ak;exact⟨u,by simp[Y],hv⟩
       ·rw[List.getElem?_set_ne hk]at hx;obtain⟨y,hy,al⟩:=ai k x hx;exact⟨y,by rw[Array.getElem?_setIfInBounds_ne (by omega)];exact hy,al⟩
      ·rw[Array.getElem?_setIfInBounds_ne F]at A;have hB:=S.blk j M b I A;cases b with
       | dead=>trivial
       | loop st pe f fr ps as bd n =>
        have K:M.block≠L.block:=λV=>F (S.inj i j L M Z I (ke3 U) (λb' Q=>by rw[A]at Q;cases Q;simp) V.symm);obtain⟨tmps,d,k1,k2⟩:=hB;exact⟨tmps,d,by rw[C _ K];exact k1,k2⟩
       | deferred=>exact hB
       | cells ds f =>
        have K:M.block≠L.block:=λV=>F (S.inj i j L M Z I (ke3 U) (ke3 A) V.symm);obtain⟨⟨d,k1,k2⟩,k3⟩:=hB;exact⟨⟨d,by rw[C _ K];exact k1,k2⟩,k3⟩
       | map es ck =>
        have K:M.block≠L.block:=λV=>F (S.inj i j L M Z I (ke3 U) (λb' Q=>by rw[A]at Q;cases Q;simp) V.symm);obtain⟨us,k1,k2⟩:=hB;exact⟨us,by rw[C _ K];exact k1,k2⟩
    ·exact⟨by simp,Mu.le_refl μ,λ_ _=>rfl,λj _ hj=>H j hj,λj M h1 h2=>by simp at h2;omega⟩
    ·refine⟨by simp,λb A hn=>C b λV=>hn i L ad (ke3 U) Z V.symm⟩
   ·simp at X
  ·simp at X
theorem kn8:∀{vs:List AV}{us:List Value}{μ:Mu}{h h':AH}{w:World}(S:Sim P O μ h w){r:Ref}{a:Addr}{i:Nat}(A:RRel μ r (a.add i))(C:VRels μ vs us)(h1:vs.all AV.one=true)(y:h.puts r vs=some h'),
  ∃w',(storeCells a us i).run P w=.ok () w'/\Sim P O μ h' w'/\Ext μ h w μ h'/\Frm μ h w w'
 | [],us,μ,h,h',w,S,r,a,i,A,C,h1,y=>by
  simp only[AH.puts,qca]at y;subst y;have:=C.nil_inv;subst this;exact⟨w,rfl,S,Ext.refl _ _ _,Frm.refl _ _ _⟩
 | v::vs,us,μ,h,h',w,S,r,a,i,A,C,h1,y=>by
  obtain⟨x,xs,rfl,U,F⟩:=C.cons_inv;simp only[AH.puts,qbu]at y;obtain⟨Y,H,I⟩:=y;simp only[List.all_cons,qb8]at h1;obtain⟨s1,s2,s3,Q⟩:=k9l S A U h1.1 H
  have K:RRel μ (r.add 1) (a.add (i+1)):=by
   have:=A.add 1;rwa[Addr.add_add]at this
  obtain⟨w',t1,t2,V,X⟩:=kn8 s2 K F h1.2 I;refine⟨w',?_,t2,s3.trans V Q.1,Q.trans s3 X⟩;simp only[storeCells,Sem.run_bind,s1,Result.andThen_ok,t1]
def Mu.set(μ:Mu)(i:Nat)(L:Loc):Mu:=λj=>if j=i then some L else μ j
theorem Mu.le_set{μ:Mu}{i:Nat}{L:Loc}(h:μ i=none):Mu.le μ (Mu.set μ i L):=λj M y=>by
 unfold Mu.set;split
 ·subst_vars;rw[h]at y;cases y
 ·exact y
theorem kdy(w:World)(o:Obj)(k:Nat)(h:k<w.heap.size):(w.alloc o).heap[k]?=w.heap[k]?:=by
 show(w.heap.push o)[k]?=_;rw[Array.getElem?_push,if_neg (by omega)]
theorem kl9(w:World)(o:Obj):(w.alloc o).heap[w.heap.size]?=some o:=by
 show(w.heap.push o)[w.heap.size]?=_;simp
theorem kgq{h:AH}{i:Nat}{b:ABlk}(hi:i≠h.blks.size):Live {h with blks:=h.blks.push b} i->Live h i:=λA c y=>A c (by
 have:i<h.blks.size:=by
  rcases Nat.lt_or_ge i h.blks.size with h' | h'
  ·exact h'
  ·simp[Array.getElem?_eq_none h']at y
 rw[Array.getElem?_push,if_neg (by omega)];exact y)
theorem BRel.step{μ ν:Mu}{L:Loc}{w w':World}{b:ABlk}(h:BRel P μ L w b)(y:Mu.le μ ν)(A:b≠.dead->w'.heap[L.block]?=w.heap[L.block]?):BRel P ν L w' b:=by
 cases b with
 | dead=>trivial
 | loop st pe f fr ps as bd n =>
  have A:=A (by simp);obtain⟨tmps,d,h1,C⟩:=h;exact⟨tmps,d,by rw[A];exact h1,λfn I=>(C fn I).mono y⟩
 | deferred=>exact h
 | cells cs e =>
  have A:=A (by simp);obtain⟨⟨c,h1,C,F,K⟩,Q⟩:=h;exact⟨⟨c,by rw[A];exact h1,C,F,λj v H=>let ⟨u,a,b⟩:=K j v H;⟨u,a,b.mono y⟩⟩,Q⟩
 | map es ck =>
  have A:=A (by simp);obtain⟨us,h1,C,F⟩:=h;exact⟨us,by rw[A];exact h1,C,λj e H=>let ⟨u,a,b,c,d⟩:=F j e H;⟨u,a,b.mono y,c.mono y,d⟩⟩
theorem kpw{μ:Mu}{h:AH}{w:World}(S:Sim P O μ h w){cs:List AV}{us rest:List Value}(U:VRels μ cs us)(h1:cs.all AV.one=true)(e:TypeId) :
  Sim P O (Mu.set μ h.blks.size ⟨w.heap.size,0,us.length+rest.length⟩) (h.alloc (.cells cs e)) (w.alloc (.cells (us++rest).toArray e))/\
  Ext μ h w (Mu.set μ h.blks.size ⟨w.heap.size,0,us.length+rest.length⟩) (h.alloc (.cells cs e))/\
  Frm μ h w (w.alloc (.cells (us++rest).toArray e)):=by
 have X:μ h.blks.size=none:=by
  cases Y:μ h.blks.size with
  | none=>rfl
  | some L=>have:=S.dom _ _ Y;omega
 have C:=Mu.le_set (L:=⟨w.heap.size,0,us.length+rest.length⟩) X;refine⟨{old:=S.old,os:=S.os,tape:=S.tape,output:=S.output,base:=by have:=S.base;simp;omega,dom:=λi L y=>?_,keep:=λb A=>?_,place:=λi L y=>?_,blk:=λi L b y A=>?_,inj:=λi j L M y F Z lj H=>?_},?_,?_⟩
 ·rw[kdy _ _ _ (qbr A S.base)];exact S.keep b A
 ·unfold Mu.set at y;split at y
  ·subst_vars;simp
  ·have:=S.dom i L y;simp;omega
 ·unfold Mu.set at y;split at y
  ·cases y;have:=S.base;simp;omega
  ·have:=S.place i L y;simp;omega
 ·unfold Mu.set at y;split at y
  ·rename_i hi;subst hi;cases y;simp at A;subst A;refine⟨⟨_,kl9 _ _,by simp,by simp;have:=U.length;omega,λj v hj=>?_⟩,h1⟩;obtain⟨u,V,I⟩:=U.get j v hj
   have K:j<us.length:=by
    rcases Nat.lt_or_ge j us.length with h' | h'
    ·exact h'
    ·simp[List.getElem?_eq_none h']at V
   exact⟨u,by simp[List.getElem?_append_left K,V],I.mono C⟩
  ·rename_i hi
   have Q:h.blks[i]?=some b:=by
    simp only[Array.getElem?_push]at A
    simpa[hi]using A
   exact(S.blk i L b y Q).step C λ_=>kdy _ _ _ (S.place i L y).2
 ·unfold Mu.set at y F;split at y<;>split at F
  ·omega
  ·cases y;have:=S.place j M F;simp at H;omega
  ·cases F;have:=S.place i L y;simp at H;omega
  ·exact S.inj i j L M y F (kgq (by assumption) Z) (kgq (by assumption) lj) H
 ·refine⟨by simp,C,λi hi=>?_,λi hi hl=>kgq (by omega) hl,λi L h2 h3 y=>.inl ?_⟩
  ·unfold Mu.set;rw[if_neg];omega
  ·simp at h3;have:i=h.blks.size:=by omega
   subst this;simp[Mu.set]at y;subst y;exact qbp _
 ·exact⟨by simp,λb A _=>kdy _ _ _ A⟩
theorem kfk(μ:Mu)(i:Nat)(L:Loc):Mu.set μ i L i=some L:=by simp[Mu.set]
theorem RRel.new{μ:Mu}{i:Nat}{L:Loc}(o:Nat):RRel (Mu.set μ i L) (.new i o) ⟨L.block,L.base+o,none⟩:=⟨L,kfk _ _ _,rfl⟩
theorem kw1{μ:Mu}{h:AH}{w:World}(S:Sim P O μ h w){b:ABlk}{o:Obj}{n:Nat}(K:∀ν,Mu.le μ ν->BRel P ν ⟨w.heap.size,0,n⟩ (w.alloc o) b) :
  Sim P O (Mu.set μ h.blks.size ⟨w.heap.size,0,n⟩) (h.alloc b) (w.alloc o)/\Ext μ h w (Mu.set μ h.blks.size ⟨w.heap.size,0,n⟩) (h.alloc b)/\Frm μ h w (w.alloc o):=by
 have Q:μ h.blks.size=none:=by
  cases U:μ h.blks.size with
  | none=>rfl
  | some L=>have:=S.dom _ _ U;omega
 have C:=Mu.le_set (L:=⟨w.heap.size,0,n⟩) Q;refine⟨{old:=S.old,os:=S.os,tape:=S.tape,output:=S.output,base:=by have:=S.base;simp;omega,dom:=λi L y=>?_,keep:=λb A=>?_,place:=λi L y=>?_,blk:=λi L b y A=>?_,inj:=λi j L M y F V X H=>?_},?_,?_⟩
 ·rw[kdy _ _ _ (qbr A S.base)];exact S.keep b A
 ·unfold Mu.set at y;split at y
  ·subst_vars;simp
  ·have:=S.dom i L y;simp;omega
 ·unfold Mu.set at y;split at y
  ·cases y;have:=S.base;simp;omega
  ·have:=S.place i L y;simp;omega
 ·unfold Mu.set at y;split at y
  ·rename_i hi;subst hi;cases y;simp at A;subst A;exact K _ C
  ·rename_i hi
   have I:h.blks[i]?=some b:=by
    simp only[Array.getElem?_push]at A
    simpa[hi]using A
   exact(S.blk i L b y I).step C λ_=>kdy _ _ _ (S.place i L y).2
 ·unfold Mu.set at y F;split at y<;>split at F
  ·omega
  ·cases y;have:=S.place j M F;simp at H;omega
  ·cases F;have:=S.place i L y;simp at H;omega
  ·exact S.inj i j L M y F (kgq (by assumption) V) (kgq (by assumption) X) H
 ·refine⟨by simp,C,λi hi=>?_,λi hi Y=>kgq (by omega) Y,λi L h2 Z y=>.inl ?_⟩
  ·unfold Mu.set;rw[if_neg];omega
  ·simp at Z;have:i=h.blks.size:=by omega
   subst this;simp[Mu.set]at y;subst y;exact qbp _
 ·exact⟨by simp,λb A _=>kdy _ _ _ A⟩
theorem kbk9{μ:Mu}{h:AH}{w:World}(S:Sim P O μ h w)(o:Obj):Sim P O μ h (w.alloc o)/\Ext μ h w μ h/\Frm μ h w (w.alloc o):=by
 refine⟨{old:=S.old,os:=S.os,tape:=S.tape,output:=S.output,base:=by have:=S.base;simp;omega,dom:=S.dom,keep:=λb y=>?_,place:=λi L A=>?_,blk:=λi L b A y=>?_,inj:=S.inj},Ext.refl _ _ _,by simp,λb y _=>kdy _ _ _ y⟩
 ·rw[kdy _ _ _ (qbr y S.base)];exact S.keep b y
 ·have:=S.place i L A;simp;omega
 ·exact(S.blk i L b A y).step (Mu.le_refl _) λ_=>kdy _ _ _ (S.place i L A).2
theorem knw{h:AH}{i:Nat}{b:ABlk}(A:h.blks[i]?=some b)(C:b≠.dead):Live h i:=λb' y=>by
 rw[A]at y;cases y;exact C
theorem koc{μ:Mu}{h:AH}{w:World}(S:Sim P O μ h w){i:Nat}{L:Loc}(H:μ i=some L){b b':ABlk}(Q:h.blks[i]?=some b)(U:b≠.dead){o:Obj}(Y:BRel P μ L (w.putObj L.block o) b') :
  Sim P O μ (h.setBlk i b') (w.putObj L.block o)/\Ext μ h w μ (h.setBlk i b')/\Frm μ h w (w.putObj L.block o):=by
 have I:=S.dom i L H;have Z:=S.place i L H
 have y:∀j,Live (h.setBlk i b') j->Live h j:=λj V c C=>by
  by_cases A:i=j
  ·subst A;rw[Q]at C;cases C;exact U
  ·exact V c (by simp only[AH.setBlk];rw[Array.getElem?_setIfInBounds_ne A];exact C)
 refine⟨{old:=S.old,os:=S.os,tape:=S.tape,output:=S.output,base:=by simpa using S.base,dom:=λj M F=>by simpa[AH.setBlk]using S.dom j M F,keep:=λc C=>?_,place:=λj M F=>by simpa using S.place j M F,blk:=λj M c F C=>?_,inj:=λj k M N F hN lj lk K=>S.inj j k M N F hN (y j lj) (y k lk) K},?_,?_⟩
 ·rw[World.putObj_heap_other (by omega)];exact S.keep c C
 ·by_cases A:i=j
  ·subst A;rw[H]at F;cases F;simp[AH.setBlk,I]at C;subst C;exact Y
  ·simp only[AH.setBlk]at C;rw[Array.getElem?_setIfInBounds_ne A]at C;refine(S.blk j M c F C).step (Mu.le_refl _) λX=>World.putObj_heap_other λK=>A ?_;exact(S.inj j i M L F H (knw C X) (knw Q U) K).symm
 ·exact⟨by simp[AH.setBlk],Mu.le_refl μ,λ_ _=>rfl,λj _ V=>y j V,λj M h1 h2=>by simp[AH.setBlk]at h2;omega⟩
 ·exact⟨by simp,λc _ hn=>World.putObj_heap_other λK=>hn i L I (knw Q U) H K.symm⟩
theorem kbgt{μ:Mu}{h:AH}{w:World}(S:Sim P O μ h w){r:Nat}(H:O.heap.size<=r)(F:∀i L,Live h i->μ i=some L->L.block≠r)(o:Obj):Sim P O μ h (w.putObj r o):=by
 refine{old:=S.old,os:=S.os,tape:=S.tape,output:=S.output,base:=by simpa using S.base,dom:=S.dom,keep:=λc y=>?_,place:=λj M A=>by simpa using S.place j M A,blk:=λj M c A y=>?_,inj:=S.inj}
 ·rw[World.putObj_heap_other (by omega)];exact S.keep c y
 ·exact(S.blk j M c A y).step (Mu.le_refl _) λC=>World.putObj_heap_other (F j M (knw y C) A)
end Go.Ab
namespace Go.Ab
variable{P:Program}{O:World}{R:Type}
theorem kck{c:Bool}{x y:Option R}{r:R}(h:cond c x y=some r):(c=true/\x=some r)\/(c=false/\y=some r):=by
 cases c
 ·exact .inr ⟨rfl,h⟩
 ·exact .inl ⟨rfl,h⟩
theorem kz{c:Bool}{x:Option R}{r:R}(h:cond c x none=some r):c=true/\x=some r:=by
 cases c
 ·cases h
 ·exact⟨rfl,h⟩
theorem kef{c:Bool}{x:Option R}{r:R}(h:cond c none x=some r):c=false/\x=some r:=by
 cases c
 ·exact⟨rfl,h⟩
 ·cases h
theorem kbiz{k:IntKind}{v:AV}{n:Int}(h:v.asInt k=some n):v=.int k n:=by
 cases v<;>simp[AV.asInt]at h;obtain⟨h1,y⟩:=kz h;simp at h1 y;rw[h1,y]
theorem kbc6{v:AV}{b:Bool}(h:v.asBool=some b):v=.bool b:=by cases v<;>simp[AV.asBool]at h;rw[h]
theorem k4t{v:AV}{b:ByteArray}(h:v.asStr=some b):v=.str b:=by cases v<;>simp[AV.asStr]at h;rw[h]
theorem kba7{v:AV}{b:Option Ref}(h:v.asPtr=some b):v=.ptr b:=by cases v<;>simp[AV.asPtr]at h;rw[h]
theorem k38{v:AV}{b:Option Nat}(h:v.asMap=some b):v=.map b:=by cases v<;>simp[AV.asMap]at h;rw[h]
theorem k9i{v:AV}{s:Sl}(h:v.asSl=some s):v=.slice s.ref s.len s.cap:=by cases v<;>simp[AV.asSl]at h;rw[<- h]
theorem kw8{v:AV}{s:List AV}(h:v.asAgg=some s):v=.agg s:=by cases v<;>simp[AV.asAgg]at h;rw[h]
theorem k1n{v:AV}{p:TypeId×AV}(h:v.asIface=some p):v=.iface p.1 p.2:=by cases v<;>simp[AV.asIface]at h;rw[<- h]
theorem kqr{l:Leaf}{x:Option AV}{k:AV->Option R}{r:R}(h:leafK l x k=some r):∃v,x=some v/\k v=some r:=by
 cases l<;>simp only[leafK,qbu]at h
 case any=>exact h
 all_goals
  obtain⟨y,⟨v,F,A⟩,C⟩:=h;refine⟨v,F,?_⟩
 ·rw[kbiz A];exact C
 ·rw[kbc6 A];exact C
 ·rw[k4t A];exact C
 ·rw[k9i A];exact C
 ·rw[kba7 A];exact C
 ·rw[k38 A];exact C
theorem ks0{get:Nat->Option AV}:∀{ls:List Leaf}{i:Nat}{k:List AV->Option R}{r:R},kd0 get ls i k=some r->
  ∃vs,vs.length=ls.length/\(∀j v,vs[j]?=some v->get (i+j)=some v)/\k vs=some r
 | [],i,k,r,h=>⟨[],rfl,by simp,h⟩
 | l::ls,i,k,r,h=>by
  simp only[kd0]at h;obtain⟨v,A,C⟩:=kqr h;obtain⟨vs,h1,F,H⟩:=ks0 C;refine⟨v::vs,by simp[h1],λj x y=>?_,H⟩;cases j with
  | zero=>simp at y;subst y;simpa using A
  | succ j =>
   have:=F j x (by simpa using y);rw[show i+(j+1)=i+1+j from by omega];exact this
theorem k25{t:TypeId}{d:TypeDesc}(h:P.underlying t=some d):∃i,P.info? t=some i:=by
 unfold Program.underlying at h;split at h
 ·rename_i u _ _ _ _ _ _ _ _ _ hi;exact⟨_,hi⟩
 ·rename_i i _ hi;exact⟨_,hi⟩
 ·cases h
theorem knz{t:TypeId}{d:TypeDesc}(h:P.underlying t=some d)(w:World):(sizeOf t).run P w=.ok (P.cellsOf t) w:=by
 obtain⟨i,hi⟩:=k25 h;simp[sizeOf,typeInfo,hi,Program.cellsOf]
theorem kn0{t:TypeId}{d:TypeDesc}(h:P.underlying t=some d)(w:World):(isAgg t).run P w=.ok (isAggD d) w:=by
 unfold isAgg;simp only[Sem.run_bind,run_underlying h,Result.andThen_ok];cases d<;>rfl
theorem ks5{μ:Mu}{h:AH}{w:World}(S:Sim P O μ h w){r:Ref}{a:Addr}(V:RRel μ r a){t:TypeId}{k:AV->Option R}{res:R}
  (y:loadK P t r h k=some res):∃v u,k v=some res/\VRel μ v u/\(loadVar t a).run P w=.ok u w:=by
 unfold loadK at y;split at y
 ·rename_i d F;rcases kck y with⟨H,y⟩ | ⟨H,y⟩
  ·split at y
   ·rename_i ls X;obtain⟨Y,y⟩:=kz y;obtain⟨vs,h1,Z,h3⟩:=ks0 y;have C:vs.length=P.cellsOf t:=by rw[h1];exact Nat.eq_of_beq_eq_true Y
    have hg:∀(vs:List AV)(r:Ref),(∀(j:Nat)(v:AV),vs[j]?=some v->h.cell (r.add j)=some v)->h.gets r vs.length=some vs:=by
     intro vs
     induction vs with
     | nil=>intro r _;rfl
     | cons v vs ih =>
      intro r A;have h0:=A 0 v (by simp);rw[Ref.add_zero]at h0;have I:=ih (r.add 1) (λj x hx=>by rw[Ref.add_add,Nat.add_comm];exact A (j+1) x (by simpa using hx));simp[AH.gets,h0,I]
    obtain⟨us,k1,k2,k3,k4⟩:=kqk S vs.length V (hg vs r (λj v K=>by have:=Z j v K;simpa using this));refine⟨.agg vs,.agg us.toArray,h3,?_,?_⟩
    ·simp only[VRel];exact⟨us.toArray,rfl,by simpa using k3,k4⟩
    ·have Q:=run_loadCells_list (P:=P) w a us (λj v K=>k2 j v K);rw[k1,C]at Q;simp[loadVar,kn0 F,H,knz F,Q]
   ·cases y
  ·split at y
   ·rename_i l Q;obtain⟨v,hv,y⟩:=kqr y;obtain⟨u,hu,U,_⟩:=kzi S V hv;refine⟨v,u,y,U,?_⟩;simp[loadVar,kn0 F,H,hu]
   ·cases y
 ·cases y
theorem kdl{t:TypeId}{v:AV}{k:AV->Option R}{r:R}(h:seeK P t v k=some r):k v=some r:=by
 unfold seeK at h;split at h
 ·rcases kck h with⟨_,h⟩ | ⟨_,h⟩
  ·split at h
   ·rename_i ls _;rw[qbu]at h;obtain⟨cs,A,h⟩:=h;obtain⟨C,h⟩:=kz h;obtain⟨vs,h1,F,H⟩:=ks0 h;rw[kw8 A]
    have:vs=cs:=by
     have C:=Nat.eq_of_beq_eq_true C;apply List.ext_getElem?;intro j;rcases Nat.lt_or_ge j vs.length with y | y
     ·have:=F j vs[j] (by simp[y]);simp[qb3 y]
      simpa using this.symm
     ·rw[List.getElem?_eq_none y,List.getElem?_eq_none (by omega)]
    rw[<- this];exact H
   ·cases h
  ·split at h
   ·obtain⟨x,I,h⟩:=kqr h;cases I;exact h
   ·cases h
 ·cases h
theorem kbcz{t:TypeId}{v:AV}{k:AV->Option R}{r:R}(h:aggK P t v k=some r):k v=some r:=by
 unfold aggK at h;split at h
 ·rename_i d A;cases y:isAggD d with
  | true=>rw[y,cond_true]at h;exact kdl h
  | false=>rw[y,cond_false]at h;exact h
 ·cases h
theorem k9a{v:AV}{x:Unit}(h:v.asTup0=some x):v=.tup []:=by
 unfold AV.asTup0 at h;split at h
 ·rfl
 ·cases h
theorem kbjm{v:AV}{p:AV×AV}(h:v.asTup2=some p):v=.tup [p.1,p.2]:=by
 unfold AV.asTup2 at h;split at h
 ·cases h;rfl
 ·cases h
theorem kbaq{v:AV}{p:AV×AV×AV}(h:v.asTup3=some p):v=.tup [p.1,p.2.1,p.2.2]:=by
 unfold AV.asTup3 at h;split at h
 ·cases h;rfl
 ·cases h
theorem kbdq{v:AV}{p:AV×AV×AV×AV}(h:v.asTup4=some p):v=.tup [p.1,p.2.1,p.2.2.1,p.2.2.2]:=by
 unfold AV.asTup4 at h;split at h
 ·cases h;rfl
 ·cases h
theorem ksb{t:TypeId}{v:AV}{k:AV->Option R}{r:R}(h:kg4 P t v k=some r):k v=some r:=by
 unfold kg4 at h;split at h
 ·split at h
  case h_5=>cases h
  all_goals
   simp only[qbu]at h;obtain⟨p,h1,C⟩:=h
  ·rw[k9a h1];exact C
  ·rw[kbjm h1];have y:=kdl C;have A:=kdl y;exact A
  ·rw[kbaq h1];have y:=kdl C;have A:=kdl y;have F:=kdl A;exact F
  ·rw[kbdq h1];have y:=kdl C;have A:=kdl y;have F:=kdl A;have H:=kdl F;exact H
 ·exact kdl h
theorem kp9{μ:Mu}{t:TypeId}{v:AV}{k:List AV->Option R}{r:R}(h:cellsK P t v k=some r){u:Value}(A:VRel μ v u) :
  ∃cs,k cs=some r/\VRels μ cs u.cells.toList/\cs.all AV.one=true/\u.cells.size=P.cellsOf t/\cs.length=P.cellsOf t/\∃d,P.underlying t=some d:=by
 unfold cellsK at h;split at h
 ·rename_i d F;rcases kck h with⟨_,h⟩ | ⟨_,h⟩
  ·rw[qbu]at h;obtain⟨cs,C,h⟩:=h;obtain⟨y,h⟩:=kz h;have y:=Nat.eq_of_beq_eq_true y;rw[kw8 C]at A;simp only[VRel]at A;obtain⟨us,rfl,H,I⟩:=A;refine⟨cs,h,H,I,?_,y,d,F⟩;have:=H.length;simp[Value.cells]at *
   omega
  ·obtain⟨y,h⟩:=kz h;obtain⟨h1,h⟩:=kz h;have y:=Nat.eq_of_beq_eq_true y;have:=A.cells_one h1;refine⟨[v],h,?_,by simp[h1],by rw[this];simp[y],by simp[y],d,F⟩;rw[this];exact qc A qb
 ·cases h
theorem kya{μ:Mu}{t:TypeId}{zs:List AV}(h:kcj P t=some zs)(w:World) :
  ∃z,(zeroValue t).run P w=.ok z w/\VRels μ zs z.cells.toList/\zs.all AV.one=true:=by
 unfold kcj at h;split at h
 ·rename_i i hi;split at h
  ·rename_i z y;obtain⟨h1,A⟩:=VRels.ofCells (μ:=μ) h;exact⟨z,by simp[zeroValue,typeInfo,hi,y],h1,A⟩
  ·cases h
 ·cases h
theorem Fr.get_cons(s:Nat)(v:AV)(fr:Fr)(t:Nat):Fr.get ((s,v)::fr) t=if s=t then some v else Fr.get fr t:=by
 simp only[Fr.get];by_cases h:s=t
 ·subst h;simp
 ·have:Nat.beq s t=false:=by
   cases y:Nat.beq s t with
   | false=>rfl
   | true=>exact absurd (Nat.eq_of_beq_eq_true y) h
  simp[this,h]
theorem FRel.put{μ:Mu}{N:Nat}{fr:Fr}{a:Act}(h:FRel μ N fr a.tmps){t:Nat}(H:t<N){v:AV}{u:Value}(I:VRel μ v u):FRel μ N ((t,v)::fr) (a.put (some t) u).tmps:=by
 refine⟨by simp[Act.put,h.size],λs x A=>?_⟩;rw[Fr.get_cons]at A;split at A
 ·rename_i C;subst C;cases A;exact⟨u,by simp[Act.put,h.size,H],I⟩
 ·rename_i C;obtain⟨y,K,F⟩:=h.get s x A;exact⟨y,by simp only[Act.put];rw[Array.getElem?_setIfInBounds_ne C];exact K,F⟩
theorem FRel.learn{μ:Mu}{N:Nat}{fr:Fr}{tmps:Array Value}(h:FRel μ N fr tmps){t:Nat}{v x:AV}(C:fr.get t=some x)(F:∀u,VRel μ x u->VRel μ v u):FRel μ N ((t,v)::fr) tmps:=by
 refine⟨h.size,λs y A=>?_⟩;rw[Fr.get_cons]at A;split at A
 ·rename_i H;subst H;cases A;obtain⟨u,h1,I⟩:=h.get t x C;exact⟨u,h1,F u I⟩
 ·exact h.get s y A
theorem FRel.keep{μ:Mu}{N:Nat}{fr:Fr}{tmps:Array Value}(h:FRel μ N fr tmps)(L:List Nat):FRel μ N (fr.keep L) tmps:=by
 refine⟨h.size,λt v y=>h.get t v ?_⟩
 induction L with
 | nil=>simp[Fr.keep,Fr.get]at y
 | cons s L ih =>
  simp only[Fr.keep]at y;split at y
  ·rename_i x A;rw[Fr.get_cons]at y;split at y
   ·rename_i C;subst C;cases y;exact A
   ·exact ih y
  ·exact ih y
theorem kbc{μ:Mu}{N:Nat}{fr:Fr}{a:Act}(h:FRel μ N fr a.tmps){x:Operand}{v:AV}(y:evO fr x=some v):VRel μ v (a.eval x):=by
 cases x with
 | tmp t =>
  simp only[evO]at y;obtain⟨u,C,A⟩:=h.get t v y;simp only[Act.eval,Array.getD_eq_getD_getElem?,C,Option.getD_some];exact A
 | const c=>exact VRel.ofValue y
 | global g =>
  simp only[evO,qca]at y;subst y;simp[VRel,RRel,Act.eval]
 | func f =>
  simp only[evO,qca]at y;subst y;simp only[VRel,Act.eval];exact⟨.func f,#[],#[],rfl,rfl,qb,qb⟩
theorem kdp{μ:Mu}{N:Nat}{fr:Fr}{a:Act}(h:FRel μ N fr a.tmps):∀{xs:List Operand}{vs:List AV},evs fr xs=some vs->VRels μ vs (xs.map a.eval)
 | [],vs,y=>by simp only[evs,qca]at y;subst y;exact qb
 | x::xs,vs,y=>by
  simp only[evs]at y;split at y
  ·rename_i v ws h1 A;simp only[qca]at y;subst y;exact qc (kbc h h1) (kdp h A)
  ·cases y
end Go.Ab
namespace Go.Ab
variable{P:Program}{O:World}{R:Type}
def Good(P:Program)(O:World)(μ:Mu)(h:AH)(w:World)(v:AV)(h':AH)(u:Value)(w':World):Prop :=
 ∃ν,VRel ν v u/\Sim P O ν h' w'/\Ext μ h w ν h'/\Frm μ h w w'
theorem Good.pure{μ:Mu}{h:AH}{w:World}(S:Sim P O μ h w){v:AV}{u:Value}(y:VRel μ v u):Good P O μ h w v h u w :=
 ⟨μ,y,S,Ext.refl _ _ _,Frm.refl _ _ _⟩
abbrev qd:=@Good.pure
def Yields(P:Program)(s:Sem Value)(w:World)(G:Value->World->Prop):Prop:=∃u w',s.run P w=.ok u w'/\G u w'
theorem kbc1{op:BinOp}{kd:IntKind}{a b:Int}{k:AV->Option R}{r:R}(h:intK op kd a b k=some r)(t:TypeId)(w:World) :
  ∃v u,k v=some r/\(∀μ,VRel μ v u)/\(binOp op t (.int kd a) (.int kd b)).run P w=.ok u w:=by
 cases op<;>simp only[intK]at h
 case shl=>cases h
 case shr=>cases h
 case quo =>
  obtain⟨h1,y⟩:=kef h;refine⟨_,.int kd (kd.wrap (a.tdiv b)),y,λμ=>by simp[VRel],?_⟩;simp at h1;simp[binOp,Op.intDiv,h1]
 case rem =>
  obtain⟨h1,y⟩:=kef h;refine⟨_,.int kd (a.tmod b),y,λμ=>by simp[VRel],?_⟩;simp at h1;simp[binOp,Op.intDiv,h1]
 case add=>exact⟨_,.int kd (kd.wrap (a+b)),h,λμ=>by simp[VRel],by simp[binOp,Op.intArith]⟩
 case sub=>exact⟨_,.int kd (kd.wrap (a-b)),h,λμ=>by simp[VRel],by simp[binOp,Op.intArith]⟩
 case mul=>exact⟨_,.int kd (kd.wrap (a*b)),h,λμ=>by simp[VRel],by simp[binOp,Op.intArith]⟩
 case and=>exact⟨_,.int kd (iand kd a b),h,λμ=>by simp[VRel],by simp[binOp,Op.intBits,iand]⟩
 case or=>exact⟨_,.int kd (ior kd a b),h,λμ=>by simp[VRel],by simp[binOp,Op.intBits,ior]⟩
 case xor=>exact⟨_,.int kd (ixor kd a b),h,λμ=>by simp[VRel],by simp[binOp,Op.intBits,ixor]⟩
 case andNot=>exact⟨_,.int kd (kkh kd a b),h,λμ=>by simp[VRel],by simp[binOp,Op.intBits,kkh]⟩
 case eql=>exact⟨_,.bool (decide (a=b)),h,λμ=>by simp[VRel],by simp[binOp,Op.intCmp];rfl⟩
 case neq=>exact⟨_,.bool (!decide (a=b)),h,λμ=>by simp[VRel],by simp[binOp,Op.intCmp];rfl⟩
 case lss=>exact⟨_,.bool (decide (a<b)),h,λμ=>by simp[VRel],by simp[binOp,Op.intCmp]⟩
 case leq=>exact⟨_,.bool (decide (a<=b)),h,λμ=>by simp[VRel],by simp[binOp,Op.intCmp]⟩
 case gtr=>exact⟨_,.bool (decide (a>b)),h,λμ=>by simp[VRel],by simp[binOp,Op.intCmp]⟩
 case geq=>exact⟨_,.bool (decide (a>=b)),h,λμ=>by simp[VRel],by simp[binOp,Op.intCmp]⟩
theorem kri(op:BinOp)(t:TypeId)(x y:Operand)(k A:IntKind)(a b:Int)(w:World):(eqGuard op t x y (.int k a) (.int A b)).run P w=.ok () w:=by
 unfold eqGuard;cases op<;>rfl
theorem kgg{t:TypeId}{u v:Value}{b:Bool}{w:World}(op:BinOp)(A:op=.eql\/op=.neq)
  (C:∀o:BinOp,(o=.eql->binOp o t u v=do pure (.bool (<- Op.equal t u v)))/\(o=.neq->binOp o t u v=do pure (.bool (!(<- Op.equal t u v)))))
  (F:∀n:Nat,(Op.equalIn (n+1) t u v).run P w=.ok b w):(binOp op t u v).run P w=.ok (.bool (if op=.eql then b else !b)) w:=by
 have y:(Op.equal t u v).run P w=.ok b w:=F 9999;rcases A with rfl | rfl
 ·rw[(C .eql).1 rfl];simp only[Sem.run_bind,y,Result.andThen_ok,Sem.run_pure,if_true]
 ·rw[(C .neq).2 rfl];simp only[Sem.run_bind,y,Result.andThen_ok,Sem.run_pure];rfl
theorem kbln{μ:Mu}{x y:AV}{b:Bool}(h:eqCell x y=some b){u v:Value}(C:VRel μ x u)(H:VRel μ y v){t:TypeId}{d:TypeDesc}(I:P.underlying t=some d)
  (F:fits x d=true) (op:BinOp) (A:op=.eql\/op=.neq) (Q U:Operand) (w:World) :
  (eqGuard op t Q U u v).run P w=.ok () w/\(binOp op t u v).run P w=.ok (.bool (if op=.eql then b else !b)) w:=by
 unfold eqCell at h;split at h
 ·rename_i k a V a';simp only[VRel]at C H;subst C;subst H;refine⟨kri _ _ _ _ _ _ _ _ _,?_⟩;obtain⟨h1,K⟩:=kz h;simp at h1 K;subst h1;subst K;rcases A with rfl | rfl
  ·simp[binOp,Op.intCmp];rfl
  ·simp[binOp,Op.intCmp];rfl
 ·rename_i a a';simp only[VRel]at C H;subst C;subst H;cases h;cases d<;>simp[fits]at F;refine⟨by rcases A with rfl | rfl<;>rfl,kgg op A (λo=>⟨λe=>by subst e;rfl,λe=>by subst e;rfl⟩) ?_⟩;intro n;simp[Op.equalIn,run_underlying I]
 ·rename_i a a';simp only[VRel]at C H;subst C;subst H;simp at h;rcases A with rfl | rfl<;>exact⟨rfl,by simp[binOp,Op.stringOp,<- h]⟩
 ·rename_i r n c X Y;simp only[VRel]at H;obtain⟨_,_,rfl⟩:=H;cases h;cases d<;>simp[fits]at F;cases r with
  | none =>
   simp only[VRel]at C;obtain⟨_,_,rfl⟩:=C;refine⟨by rcases A with rfl | rfl<;>rfl,kgg op A (λo=>⟨λe=>by subst e;rfl,λe=>by subst e;rfl⟩) ?_⟩;intro n;simp[Op.equalIn,run_underlying I]
  | some r =>
   simp only[VRel]at C;obtain⟨a,c,rfl,_⟩:=C;refine⟨by rcases A with rfl | rfl<;>rfl,kgg op A (λo=>⟨λe=>by subst e;rfl,λe=>by subst e;rfl⟩) ?_⟩;intro n;simp[Op.equalIn,run_underlying I]
 ·rename_i r;simp only[VRel]at H;subst H;cases h;cases d<;>simp[fits]at F;cases r with
  | none =>
   simp only[VRel]at C;subst C;refine⟨by rcases A with rfl | rfl<;>rfl,kgg op A (λo=>⟨λe=>by subst e;rfl,λe=>by subst e;rfl⟩) ?_⟩;intro n;simp[Op.equalIn,run_underlying I]
  | some r =>
   simp only[VRel]at C;obtain⟨a,_,rfl⟩:=C;refine⟨by rcases A with rfl | rfl<;>rfl,kgg op A (λo=>⟨λe=>by subst e;rfl,λe=>by subst e;rfl⟩) ?_⟩;intro n;simp[Op.equalIn,run_underlying I]
 ·rename_i r;simp only[VRel]at H;subst H;cases h;cases d<;>simp[fits]at F;cases r with
  | none =>
   simp only[VRel]at C;subst C;refine⟨by rcases A with rfl | rfl<;>rfl,kgg op A (λo=>⟨λe=>by subst e;rfl,λe=>by subst e;rfl⟩) ?_⟩;intro n;simp[Op.equalIn,run_underlying I]
  | some r =>
   simp only[VRel]at C;obtain⟨a,_,rfl⟩:=C;refine⟨by rcases A with rfl | rfl<;>rfl,kgg op A (λo=>⟨λe=>by subst e;rfl,λe=>by subst e;rfl⟩) ?_⟩;intro n;simp[Op.equalIn,run_underlying I]
 ·simp only[VRel]at C H;subst C;subst H;cases h;cases d<;>simp[fits]at F;refine⟨by rcases A with rfl | rfl<;>rfl,kgg op A (λo=>⟨λe=>by subst e;rfl,λe=>by subst e;rfl⟩) ?_⟩;intro n;simp[Op.equalIn,run_underlying I]
 ·simp only[VRel]at C H;obtain⟨g,x,y,rfl,_⟩:=C;subst H;cases h;cases d<;>simp[fits]at F;refine⟨by rcases A with rfl | rfl<;>rfl,kgg op A (λo=>⟨λe=>by subst e;rfl,λe=>by subst e;rfl⟩) ?_⟩;intro n;simp[Op.equalIn,run_underlying I]
 ·cases h
theorem kkb{μ:Mu}{t:TypeId}{cs:List AV}{off:Nat}{v:AV}(h:partA P t cs off=some v){us:Array Value}(F:VRels μ cs us.toList)(h1:cs.all AV.one=true)(w:World) :
  ∃u,(part t us off).run P w=.ok u w/\VRel μ v u:=by
 unfold partA at h;split at h
 ·rename_i d y;rcases kck h with⟨A,h⟩ | ⟨A,h⟩
  ·obtain⟨K,h⟩:=kz h;cases h;refine⟨.agg (us.extract off (off+P.cellsOf t)),by simp[part,kn0 y,A,knz y],?_⟩;simp only[VRel];refine⟨_,rfl,?_,?_⟩
   ·have:=(F.drop off).take (P.cellsOf t);rw[Array.toList_extract]
    simpa[List.extract]using this
   ·rw[List.all_eq_true]at h1|-;exactλx I=>h1 x (List.mem_of_mem_drop (List.mem_of_mem_take I))
  ·obtain⟨u,H,C⟩:=F.get off v h;refine⟨u,?_,C⟩;simp only[Array.getElem?_toList]at H;simp[part,kn0 y,A,H]
 ·cases h
theorem kbha{μ:Mu}{x y:AV}{b:Bool}(h:eqCell x y=some b){u v:Value}(C:VRel μ x u)(F:VRel μ y v){t:TypeId}{d:TypeDesc}(H:P.underlying t=some d)
  (A:fits x d=true) (K:isStr x=false) (n:Nat) (w:World):(Op.equalIn (n+1) t u v).run P w=.ok b w:=by
 unfold eqCell at h;split at h
 ·rename_i k a Q a';simp only[VRel]at C F;subst C;subst F;obtain⟨h1,I⟩:=kz h;simp at h1 I;subst h1;subst I;cases d<;>simp[fits]at A;simp[Op.equalIn,run_underlying H];rfl
 ·rename_i a a';simp only[VRel]at C F;subst C;subst F;cases h;cases d<;>simp[fits]at A;simp[Op.equalIn,run_underlying H]
 ·simp[isStr]at K
 ·rename_i r n c U V;simp only[VRel]at F;obtain⟨_,_,rfl⟩:=F;cases h;cases d<;>simp[fits]at A;cases r with
  | none =>
   simp only[VRel]at C;obtain⟨_,_,rfl⟩:=C;simp[Op.equalIn,run_underlying H]
  | some r =>
   simp only[VRel]at C;obtain⟨a,c,rfl,_⟩:=C;simp[Op.equalIn,run_underlying H]
 ·rename_i r;simp only[VRel]at F;subst F;cases h;cases d<;>simp[fits]at A;cases r with
  | none =>
   simp only[VRel]at C;subst C;simp[Op.equalIn,run_underlying H]
  | some r =>
   simp only[VRel]at C;obtain⟨a,_,rfl⟩:=C;simp[Op.equalIn,run_underlying H]
 ·rename_i r;simp only[VRel]at F;subst F;cases h;cases d<;>simp[fits]at A;cases r with
  | none =>
   simp only[VRel]at C;subst C;simp[Op.equalIn,run_underlying H]
  | some r =>
   simp only[VRel]at C;obtain⟨a,_,rfl⟩:=C;simp[Op.equalIn,run_underlying H]
 ·simp only[VRel]at C F;subst C;subst F;cases h;cases d<;>simp[fits]at A;simp[Op.equalIn,run_underlying H]
 ·simp only[VRel]at C F;obtain⟨g,x,y,rfl,_⟩:=C;subst F;cases h;cases d<;>simp[fits]at A;simp[Op.equalIn,run_underlying H]
 ·cases h
theorem k0a{μ:Mu}(w:World):∀(d:Nat)(t:TypeId)(x y:AV)(b:Bool),eqD P d t x y=some b->∀(u v:Value),VRel μ x u->VRel μ y v->∀n,(Op.equalIn (d+n) t u v).run P w=.ok b w
 | 0,t,x,y,b,h,_,_,_,_,_=>by simp[eqD]at h
 | d+1,t,x,y,b,h,u,v,F,H,n=>by
  rw[show d+1+n=(d+n)+1 from by omega];have IH:=k0a (μ:=μ) w d;unfold eqD at h;split at h
  ·rename_i fs A;split at h
   ·rename_i xs ys;obtain⟨I,h'⟩:=kef h;clear h;have h:=h';clear h';simp only[VRel]at F H;obtain⟨us,rfl,U,h1⟩:=F;obtain⟨vs,rfl,V,X⟩:=H;have K:P.fieldsOf t=fs:=by simp[Program.fieldsOf,A]
    rw[run_equalIn_struct w (d+n) t us vs (by rw[K];exact A) I,K];clear A K I;generalize fs.toList=l at h|-
    induction l generalizing b with
    | nil=>simp[eqFs]at h;simp[Op.eqFields,h]
    | cons f l ih =>
     simp only[eqFs]at h;obtain⟨hn,h⟩:=kef h;simp only[qbu,Option.map_eq_some_iff]at h;obtain⟨a,Y,c,Z,r,hr,s,Q,rfl⟩:=h;obtain⟨ua,ra,va⟩:=kkb Y U h1 w;obtain⟨uc,rc,vc⟩:=kkb Z V X w;have C:=IH _ _ _ _ hr _ _ va vc n;have aa:f.name≠ "_" := by simpa using hn
     simp only[Op.eqFields,aa,ne_eq,not_false_eq_true,if_true,Sem.run_bind,ra,rc,C,Result.andThen_ok];cases r
     ·simp
     ·simpa using ih s Q
   ·cases h
  ·rename_i m e A;split at h
   ·rename_i de xs ys ac;simp only[VRel]at F H;obtain⟨us,rfl,U,h1⟩:=F;obtain⟨vs,rfl,V,X⟩:=H;obtain⟨i,hi⟩:=k25 ac;rw[run_equalIn_array w (d+n) us vs A hi];generalize List.range m=l at h
    induction l generalizing b with
    | nil=>simp[eqIs]at h;simp[Op.eqItems,h]
    | cons f l ih =>
     simp only[eqIs,qbu,Option.map_eq_some_iff]at h;obtain⟨a,Y,c,Z,r,hr,s,Q,rfl⟩:=h;obtain⟨ua,ra,va⟩:=kkb Y U h1 w;obtain⟨uc,rc,vc⟩:=kkb Z V X w;have C:=IH _ _ _ _ hr _ _ va vc n;simp only[Op.eqItems,Sem.run_bind,ra,rc,C,Result.andThen_ok];cases r
     ·simp
     ·simpa using ih s Q
   ·cases h
  ·rename_i dd _ _ A;obtain⟨Q,h⟩:=kef h;obtain⟨K,h⟩:=kz h;exact kbha h F H A K Q (d+n) w
  ·cases h
end Go.Ab
namespace Go.Ab
variable{P:Program}{O:World}{R:Type}
theorem k4v{μ:Mu}{op:BinOp}{t:TypeId}{x y:AV}{k:AV->Option R}{r:R}(h:binK P op t x y k=some r){u v:Value}(H:VRel μ x u)(I:VRel μ y v)(X Y:Operand)(w:World) :
  ∃z a,k z=some r/\VRel μ z a/\(eqGuard op t X Y u v).run P w=.ok () w/\(binOp op t u v).run P w=.ok a w:=by
 have C:∀(neg:Bool),(op=if neg then .neq else .eql)->(∃b,eqAV P t x y=some b/\k (.bool (if neg then !b else b))=some r)->
   ∃z a,k z=some r/\VRel μ z a/\(eqGuard op t X Y u v).run P w=.ok () w/\(binOp op t u v).run P w=.ok a w:=by
  intro neg K ⟨b,A,U⟩;have F:op=.eql\/op=.neq:=by cases neg<;>simp at K<;>simp[K]
  have Q:(if op=.eql then b else !b)=(if neg then !b else b):=by cases neg<;>simp at K<;>subst K<;>simp
  unfold eqAV at A;split at A
  ·rename_i xs ys;obtain⟨hg,A⟩:=kef A;simp only[VRel]at H I;obtain⟨us,rfl,hu,h1⟩:=H;obtain⟨vs,rfl,hv,Z⟩:=I;have hE:=k0a (P:=P) (μ:=μ) w 20 t _ _ b A (.agg us) (.agg vs) (by simp only[VRel];exact⟨us,rfl,hu,h1⟩) (by simp only[VRel];exact⟨vs,rfl,hv,Z⟩) 9980;have V:(Op.equal t (.agg us) (.agg vs)).run P w=.ok b w:=hE;refine⟨_,.bool (if neg then !b else b),U,by simp[VRel],?_,?_⟩
   ·rcases F with rfl | rfl<;>simp[eqGuard,hg]
   ·rw[<- Q];rcases F with rfl | rfl
    ·show(do pure (.bool (<- Op.equal t (.agg us) (.agg vs))):Sem Value).run P w=_;simp only[Sem.run_bind,V,Result.andThen_ok,Sem.run_pure,if_true]
    ·show(do pure (.bool (!(<- Op.equal t (.agg us) (.agg vs)))):Sem Value).run P w=_;simp only[Sem.run_bind,V,Result.andThen_ok,Sem.run_pure];rfl
  ·split at A
   ·rename_i d hd;obtain⟨_,A⟩:=kef A;obtain⟨hf,A⟩:=kz A;obtain⟨e1,e2⟩:=kbln A H I hd hf op F X Y w;refine⟨_,.bool (if neg then !b else b),U,by simp[VRel],e1,?_⟩;rw[e2,Q]
   ·cases A
 unfold binK at h;split at h
 ·rename_i kd a _ b;obtain⟨h1,h⟩:=kef h;simp only[VRel]at H I;subst H;subst I;simp at h1;refine⟨_,.int kd (ishl kd a b),h,by simp[VRel],kri _ _ _ _ _ _ _ _ _,?_⟩;have:¬b<0:=by omega
  simp[binOp,Op.shift,this,ishl]
 ·rename_i kd a _ b;obtain⟨h1,h⟩:=kef h;simp only[VRel]at H I;subst H;subst I;simp at h1;refine⟨_,.int kd (ishr kd a b),h,by simp[VRel],kri _ _ _ _ _ _ _ _ _,?_⟩;have:¬b<0:=by omega
  simp[binOp,Op.shift,this,ishr]
 ·rename_i kd a aa b _ _;obtain⟨h1,Z⟩:=kz h;simp only[VRel]at H I;simp at h1;subst h1;obtain⟨z,a',e1,e2,e3⟩:=kbc1 Z t w;subst H;subst I;exact⟨z,a',e1,e2 μ,kri _ _ _ _ _ _ _ _ _,e3⟩
 ·rw[qbu]at h;obtain⟨b,A,U⟩:=h;exact C false rfl ⟨b,A,U⟩
 ·rw[qbu]at h;obtain⟨b,A,U⟩:=h;exact C true rfl ⟨b,A,U⟩
 ·cases h
theorem kbhm{μ:Mu}{op:UnOp}{x:AV}{k:AV->Option R}{r:R}(h:unK op x k=some r){u:Value}(y:VRel μ x u)(w:World) :
  ∃z a,k z=some r/\VRel μ z a/\(Op.unary op u).run P w=.ok a w:=by
 unfold unK at h;split at h
 ·rename_i kd n;simp only[VRel]at y;subst y;exact⟨_,.int kd (kd.wrap (0-n)),h,by simp[VRel],by simp[Op.unary,Op.intArith]⟩
 ·rename_i kd n;simp only[VRel]at y;subst y;refine⟨_,.int kd (ixor kd (cond kd.signed (-1) kd.max) n),h,by simp[VRel],?_⟩;simp only[Op.unary,Op.intBits,ixor];cases kd.signed<;>rfl
 ·rename_i b;simp only[VRel]at y;subst y;exact⟨_,.bool (!b),h,by simp[VRel],by simp[Op.unary]⟩
 ·cases h
theorem kblg{μ:Mu}{s d:TypeId}{x:AV}{k:AV->Option R}{r:R}(h:kkt P s d x k=some r){u:Value}(y:VRel μ x u)(w:World) :
  ∃z a,k z=some r/\VRel μ z a/\(convert s d u).run P w=.ok a w:=by
 unfold kkt at h;split at h
 ·rename_i C kd _ n h1 A;simp only[VRel]at y;subst y;refine⟨_,.int kd (kd.wrap n),h,by simp[VRel],?_⟩;simp[convert,run_underlying h1,run_underlying A,Conv.intToInt]
 ·rename_i s' h1 A;simp only[VRel]at y;subst y;exact⟨_,.string s',h,by simp[VRel],by simp[convert,run_underlying h1,run_underlying A]⟩
 ·cases h
theorem k1e{μ:Mu}{h:AH}{w:World}(S:Sim P O μ h w){cs:List AV}{us:List Value}(y:VRels μ cs us)(h1:cs.all AV.one=true)(e:TypeId) :
  Good P O μ h w (.ptr (some h.next)) (h.alloc (.cells cs e)) (.pointer (some ⟨w.heap.size,0,none⟩)) (w.alloc (.cells us.toArray e)):=by
 obtain⟨a,b,c⟩:=kpw (rest:=[]) S y h1 e;simp only[List.append_nil]at a b c;refine⟨_,?_,a,b,c⟩;simp only[VRel];exact⟨_,RRel.new 0,rfl⟩
theorem kwp{μ:Mu}{i:Nat}{L:Loc}(y:L.base=0)(n:Nat):VRel (Mu.set μ i L) (.slice (some (.new i 0)) n (.is n)) (.slice (some ⟨L.block,0,none⟩) n n):=by
 simp only[VRel];exact⟨_,n,rfl,.inr ⟨L,kfk _ _ _,by simp[y]⟩,qbp _,rfl⟩
theorem k4u(vs:List Value):∀(k off:Nat)(cells:Array Value),off+k+vs.length<=cells.size->
  ((vs.zipIdx k).foldl (λcs (c:Value×Nat)=>cs.setIfInBounds (off+c.2) c.1) cells).toList=cells.toList.take (off+k)++vs++cells.toList.drop (off+k+vs.length):=by
 induction vs with
 | nil=>intro k off cells h;simp
 | cons v vs ih =>
  intro k off cells h;simp only[qb1]at h;simp only[List.zipIdx_cons,List.foldl_cons];rw[ih (k+1) off _ (by simp;omega)];simp only[Array.toList_setIfInBounds]
  have h1:(cells.toList.set (off+k) v).take (off+(k+1))=cells.toList.take (off+k)++[v]:=by
   rw[show off+(k+1)=(off+k)+1 from by omega,qcg (by simp;omega)];rw[List.take_set_of_le (qbp _)];simp
  have y:(cells.toList.set (off+k) v).drop (off+(k+1)+vs.length)=cells.toList.drop (off+k+(vs.length+1)):=by
   rw[List.drop_set_of_lt (by omega)];congr 1;omega
  rw[h1,y];simp
theorem k72{cells cs:List AV}(h:cells.all AV.one=true)(k:cs.all AV.one=true)(off:Nat):(splice cells off cs).all AV.one=true:=by
 rw[List.all_eq_true]at *
 intro x y;simp only[splice,qb4]at y;rcases y with(y | y) | y
 ·exact h x (List.mem_of_mem_take y)
 ·exact k x y
 ·exact h x (List.mem_of_mem_drop y)
theorem knj{μ:Mu}{place:Nat->Option (Nat×TypeId)}{rp:Nat->Option (Nat×Nat)}(U:∀i off t,place i=some (off,t)->rp i=some (off,P.cellsOf t)) :
  ∀{y:List (Nat×AV)}{cells:List AV}{k:List AV->Option R}{r:R},fillK P place y cells k=some r->
  ∀{us:List Value}{arr:Array Value},VRels μ (y.map (·.2)) us->VRels μ cells arr.toList->cells.all AV.one=true->
  ∃cs out,k cs=some r/\Instr.fill rp arr ((y.map (·.1)).zip us)=some out/\VRels μ cs out.toList/\cs.all AV.one=true/\out.size=arr.size
 | [],cells,k,r,h,us,arr,H,A,h1=>by
  have:=H.nil_inv;subst this;exact⟨cells,arr,h,rfl,A,h1,rfl⟩
 | (i,v)::rest,cells,k,r,h,us,arr,H,A,h1=>by
  obtain⟨x,xs,rfl,Z,I⟩:=H.cons_inv;simp only[fillK]at h;split at h
  ·cases h
  ·rename_i off t K;obtain⟨cs,h,V,e2,X,e4,_⟩:=kp9 h Z;obtain⟨hb,h⟩:=kz h;have aa:off+cs.length<=cells.length:=Nat.le_of_ble_eq_true hb;have Q:=A.length;have C:=V.length;have ac:off+x.cells.size<=arr.size:=by simp at Q C;omega
   have Y:=k4u x.cells.toList 0 off arr (by simp;omega)
   have F:VRels μ (splice cells off cs) ((x.cells.toList.zipIdx 0).foldl (λcs (c:Value×Nat)=>cs.setIfInBounds (off+c.2) c.1) arr).toList:=by
    rw[Y];simp only[splice,Nat.add_zero];refine((A.take off).append V).append ?_;rw[C];exact A.drop _
   obtain⟨cs',out,f1,f2,f3,f4,f5⟩:=knj U h I F (k72 h1 e2 off);refine⟨cs',out,f1,?_,f3,f4,?_⟩
   ·simp only[List.map_cons,List.zip_cons_cons,Instr.fill,U i off t K];rw[if_neg (by simp[X];rw[<- X];omega)]
    have hz:x.cells.zipIdx.foldl (λcs (c:Value×Nat)=>cs.setIfInBounds (off+c.2) c.1) arr=(x.cells.toList.zipIdx 0).foldl (λcs (c:Value×Nat)=>cs.setIfInBounds (off+c.2) c.1) arr:=by
     rw[<- Array.foldl_toList,Array.toList_zipIdx]
    exact(congrArg (λq=>Instr.fill rp q ((rest.map (·.1)).zip xs)) hz).trans f2
   ·rw[f5];have:=congrArg List.length Y;simp only[Array.length_toList,qbz,qce,List.length_drop]at this;omega
end Go.Ab
namespace Go.Ab
variable{P:Program}{O:World}{R:Type}
def OpGoes(P:Program)(o:Oper)(a:Act)(w:World)(G:Value->World->Prop):Prop :=
 ∀(next:Act->World->Prop)(Q:Exit->Act->World->Prop),(∀u w',G u w'->next (a.put o.dst u) w')->o.wp P a w next Q
theorem OpGoes.of_value{o:Oper}{a:Act}{w w':World}{u:Value}{G:Value->World->Prop}(h:(execOp a.eval o).run P w=.ok (.value u) w')(g:G u w'):OpGoes P o a w G:=λnext Q y=>by
 unfold Oper.wp;rw[h,Oper.upon_value];exact y u w' g
abbrev qe:=@OpGoes.of_value
theorem OpGoes.of_skip{o:Oper}{a:Act}{w w':World}{G:Value->World->Prop}(h:(execOp a.eval o).run P w=.ok .skip w')(g:G undef w'):OpGoes P o a w G:=λnext Q y=>by
 unfold Oper.wp;rw[h,Oper.upon_skip];exact y undef w' g
theorem OpGoes.of_call{o:Oper}{a:Act}{w w':World}{f:FuncId}{args:Array Value}{G:Value->World->Prop}(h:(execOp a.eval o).run P w=.ok (.enter f args) w')
  (g:Calls P f args w' λe y=>∃u,e=.returned u/\G u y):OpGoes P o a w G:=λnext Q A=>by
 unfold Oper.wp;rw[h,Oper.upon_enter];refine g.mono λe y ⟨u,C,F⟩=>?_;subst C;exact A u y F
theorem OpGoes.of_sem{o:Oper}{a:Act}{w w':World}{u:Value}{s:Sem Value}{G:Value->World->Prop}(y:execOp a.eval o=(do pure (.value (<- s))))(h:s.run P w=.ok u w')(g:G u w'):OpGoes P o a w G :=
 qe (by rw[y];simp only[Sem.run_bind,h,Result.andThen_ok,Sem.run_pure]) g
abbrev qf:=@OpGoes.of_sem
def OpOk(P:Program)(O:World)(μ:Mu)(h:AH)(w:World)(o:Oper)(a:Act)(k:AV->AH->Option R)(r:R):Prop :=
 ∃v h1,k v h1=some r/\OpGoes P o a w (Good P O μ h w v h1)
theorem ksv(n:Nat)(zs:Array Value)(A:0<n->0<zs.size):((Array.range (n*zs.size)).map (zs[· % zs.size]!)).toList=(List.replicate n zs.toList).flatten:=by
 simp only[Array.toList_map,Array.toList_range]
 induction n with
 | zero=>simp
 | succ n ih =>
  have y:=A (by omega);have ih:=ih (λh=>y);rw[List.replicate_succ',List.flatten_append,<- ih,show(n+1)*zs.size=n*zs.size+zs.size from by rw[Nat.succ_mul],List.range_add,List.map_append];congr 1;simp only[List.map_map,List.flatten_cons,List.flatten_nil,List.append_nil];apply List.ext_getElem
  ·simp
  ·intro i h1 C;simp at h1;simp[Nat.mul_add_mod_self_right,Nat.mod_eq_of_lt h1,getElem!_pos,h1]
theorem kol(l:List AV)(n:Nat):repC l n=(List.replicate n l).flatten:=by
 induction n with
 | zero=>rfl
 | succ n ih=>simp[repC,ih,List.replicate_succ]
theorem VRels.rep{μ:Mu}{vs:List AV}{us:List Value}(h:VRels μ vs us):∀n,VRels μ (List.replicate n vs).flatten (List.replicate n us).flatten
 | 0=>qb
 | n+1=>by simp only[List.replicate_succ,List.flatten_cons];exact h.append (VRels.rep h n)
theorem kte{vs:List AV}(h:vs.all AV.one=true)(n:Nat):(repC vs n).all AV.one=true:=by
 rw[kol];simp only[List.all_eq_true]at *
 intro x y;simp only[List.mem_flatten,List.mem_replicate]at y;obtain⟨l,⟨_,rfl⟩,y⟩:=y;exact h x y
theorem kbdb(k:IntKind)(n:Int)(w:World):(asInt (.int k n)).run P w=.ok n w:=rfl
theorem kxm{μ:Mu}{r:Option Ref}{n:Nat}{i:Int}{size:Nat}{q:Ref}(h:idx r n i size=some q):∃y,r=some y/\0<=i/\i<n/\q=y.add (i.toNat*size):=by
 unfold idx at h;split at h
 ·rename_i y;obtain⟨h1,A⟩:=kz h;simp at h1;cases A;exact⟨y,rfl,h1.1,h1.2,rfl⟩
 ·cases h
theorem kbjp{A:Array Field}{C:List (Nat×Nat)}(h:kog P A=some C)(i off:Nat)(t:TypeId)(hi:((A.toList[i]?).map λf=>(f.offset,f.type))=some (off,t)):C[i]?=some (off,P.cellsOf t):=by
 unfold kog at h;generalize A.toList=l at h hi
 induction l generalizing C i with
 | nil=>simp at hi
 | cons f l ih =>
  rw[List.mapM_cons]at h;simp only[bind,qbu,Option.map_eq_some_iff,pure,qca]at h;obtain⟨p,⟨H,F,rfl⟩,rest,y,rfl⟩:=h;cases i with
  | zero =>
   simp at hi;obtain⟨rfl,rfl⟩:=hi;simp[Program.cellsOf,F]
  | succ i =>
   have:=ih i y (by simpa using hi)
   simpa using this
theorem kjk{μ:Mu}{t:TypeId}{zs:List AV}(h:kcj P t=some zs) :
  ∃z i,P.info? t=some i/\i.zero=some z/\VRels μ zs z.cells.toList/\zs.all AV.one=true:=by
 unfold kcj at h;split at h
 ·rename_i i hi;split at h
  ·rename_i z y;obtain⟨h1,A⟩:=VRels.ofCells (μ:=μ) h;exact⟨z,i,hi,y,h1,A⟩
  ·cases h
 ·cases h
theorem k8t{rec:Rec}{μ:Mu}{N:Nat}{fr:Fr}{h:AH}{w:World}{o:Oper}{a:Act}(S:Sim P O μ h w)(F:FRel μ N fr a.tmps){t:TypeId}{y:Array (Nat×Operand)}(ho:o.op=.build t y)
  {k:AV->AH->Option R} {r:R} (Y:opK P rec o.op o.type fr h k=some r):OpOk P O μ h w o a k r:=by
 obtain⟨dst,op,type,pos,I,guard⟩:=o;dsimp only at Y ho;subst ho;simp only[opK]at Y;have Z:execOp a.eval ⟨dst,.build t y,type,pos,I,guard⟩=(do pure (.value (<- Instr.build t (y.map λ(i,x)=>(i,a.eval x))))):=rfl
 have C:(y.map λ(i,x)=>(i,a.eval x)).toList=(y.toList.map (·.1)).zip ((y.toList.map (·.2)).map a.eval):=by
  simp only[Array.toList_map,List.map_map];generalize y.toList=l
  induction l with
  | nil=>rfl
  | cons p l ih=>simp[ih]
 have H:∀vs:List AV,evs fr (y.toList.map (·.2))=some vs->((y.toList.map (·.1)).zip vs).map (·.1)=y.toList.map (·.1)/\((y.toList.map (·.1)).zip vs).map (·.2)=vs:=by
  intro vs A;have:=(kdp F A).length;simp only[qb0]at this;exact⟨List.map_fst_zip (by rw[qb0];omega),List.map_snd_zip (by rw[qb0];omega)⟩
 split at Y
 ·rename_i vs zs fs A hz hd;obtain⟨hp,K⟩:=kz Y;obtain⟨pl,Q⟩:=Option.isSome_iff_exists.1 hp;obtain⟨z,ti,U,V,h2,h3⟩:=kjk (μ:=μ) hz;obtain⟨m1,m2⟩:=H vs A;obtain⟨cs,out,X,f1,f2,f3,f4⟩:=knj (μ:=μ) (rp:=λi=>pl.toArray[i]?) (λi off t' hi=>by simpa using kbjp Q i off t' hi) K (us:=(y.toList.map (·.2)).map a.eval) (arr:=z.cells) (by rw[m2];exact kdp F A) h2 h3;refine⟨_,h,X,qf Z (run_build w t _ out ?_) (qd S (by simp only[VRel];exact⟨out,rfl,f2,f3⟩))⟩;rw[C];rw[m1]at f1;unfold kog at Q;simp only[Program.built,U,hd,V,Q];exact f1
 ·rename_i vs zs n e A hz hd;obtain⟨hp,K⟩:=kz Y;obtain⟨ie,aa⟩:=Option.isSome_iff_exists.1 hp;obtain⟨z,ti,U,V,h2,h3⟩:=kjk (μ:=μ) hz;obtain⟨m1,m2⟩:=H vs A;obtain⟨cs,out,X,f1,f2,f3,f4⟩:=knj (μ:=μ) (rp:=λi=>some (i*ie.size,ie.size)) (λi off t' hi=>by simp at hi;obtain⟨rfl,rfl⟩:=hi;simp[Program.cellsOf,aa]) K (us:=(y.toList.map (·.2)).map a.eval) (arr:=z.cells) (by rw[m2];exact kdp F A) h2 h3;refine⟨_,h,X,qf Z (run_build w t _ out ?_) (qd S (by simp only[VRel];exact⟨out,rfl,f2,f3⟩))⟩;rw[C];rw[m1]at f1;simp only[Program.built,U,hd,V,aa];exact f1
 ·cases Y
theorem k5f{rec:Rec}{μ:Mu}{N:Nat}{fr:Fr}{h:AH}{w:World}{o:Oper}{a:Act}(S:Sim P O μ h w)(F:FRel μ N fr a.tmps){t:TypeId}{n:Nat}{y:Array (Nat×Operand)}(ho:o.op=.buildSlice t n y)
  {k:AV->AH->Option R} {r:R} (C:opK P rec o.op o.type fr h k=some r):OpOk P O μ h w o a k r:=by
 obtain⟨dst,op,type,pos,H,guard⟩:=o;dsimp only at C ho;subst ho;simp only[opK]at C;have Y:execOp a.eval ⟨dst,.buildSlice t n y,type,pos,H,guard⟩=(do pure (.value (<- Instr.buildSlice t n (y.map λ(i,x)=>(i,a.eval x))))):=rfl
 have I:(y.map λ(i,x)=>(i,a.eval x)).toList=(y.toList.map (·.1)).zip ((y.toList.map (·.2)).map a.eval):=by
  simp only[Array.toList_map,List.map_map];generalize y.toList=l
  induction l with
  | nil=>rfl
  | cons p l ih=>simp[ih]
 split at C
 ·rename_i vs e K hd;split at C
  ·rename_i zs hz;obtain⟨Z,aa⟩:=kz C;simp only[qb8]at Z;have ag:n*P.cellsOf e<=16777216:=Nat.le_of_ble_eq_true Z.1;have ah:zs.length=P.cellsOf e:=Nat.eq_of_beq_eq_true Z.2;obtain⟨z,ti,Q,ac,h2,h3⟩:=kjk (μ:=μ) hz;have ad:z.cells.size=P.cellsOf e:=by have:=h2.length;simp at this;omega
   have A:=(kdp F K).length;simp only[qb0]at A;have m1:((y.toList.map (·.1)).zip vs).map (·.1)=y.toList.map (·.1):=List.map_fst_zip (by rw[qb0];exact Nat.le_of_eq A);have m2:((y.toList.map (·.1)).zip vs).map (·.2)=vs:=List.map_snd_zip (by rw[qb0];exact Nat.le_of_eq A.symm)
   have U:((Array.range (n*P.cellsOf e)).map (z.cells[· % z.cells.size]!)).toList=(List.replicate n z.cells.toList).flatten:=by
    by_cases h0:P.cellsOf e=0
    ·have:z.cells.toList=[]:=by apply List.eq_nil_of_length_eq_zero;rw[Array.length_toList];omega
     rw[h0,this];simp[Array.range_zero']
    ·rw[<- ad];exact ksv n z.cells (by omega)
   obtain⟨cs,out,ae,V,f2,f3,f4⟩:=knj (μ:=μ) (rp:=λi=>some (i*P.cellsOf e,P.cellsOf e)) (λi off t' hi=>by simp at hi|-;exact⟨hi.1,by rw[hi.2]⟩) aa (us:=(y.toList.map (·.2)).map a.eval) (arr:=(Array.range (n*P.cellsOf e)).map (z.cells[· % z.cells.size]!))
    (by rw[m2];exact kdp F K) (by rw[U,kol];exact h2.rep n) (kte h3 n)
   rw[m1,<- I]at V;obtain⟨g1,g2,g3⟩:=kpw (rest:=[]) S (us:=out.toList) f2 f3 e;simp only[List.append_nil,Array.toArray_toList]at g1 g2 g3;refine⟨_,_,ae,qf Y (w':=w.alloc (.cells out e)) (u:=.slice (some ⟨w.heap.size,0,none⟩) n n) ?_ ⟨_,kwp rfl n,g1,g2,g3⟩⟩;have hs:(sizeOf e).run P w=.ok (P.cellsOf e) w:=by simp[sizeOf,typeInfo,Q,Program.cellsOf]
   have X:¬(16777216<n*P.cellsOf e):=by omega
   by_cases h0:n*P.cellsOf e=0
   ·have af:∀f g:Nat->Value,(Array.range (n*P.cellsOf e)).map f=(Array.range (n*P.cellsOf e)).map g:=λf g=>by rw[h0];simp[Array.range_zero']
    rw[af (z.cells[· % z.cells.size]!) ((#[]:Array Value)[· % (#[]:Array Value).size]!)]at V;simp only[Instr.buildSlice,Sem.run_bind,run_underlying hd,Result.andThen_ok,hs,Sem.run_ite,if_neg X,h0,if_true,Sem.run_pure];rw[h0]at V;simp only[V,newRow,Sem.run_bind,run_newObj,Result.andThen_ok,Sem.run_pure];rfl
   ·simp only[Instr.buildSlice,Sem.run_bind,run_underlying hd,Result.andThen_ok,hs,Sem.run_ite,if_neg X,if_neg h0,zeroValue,typeInfo,run_program,Q,ac,Sem.run_pure,V,newRow,run_newObj];rfl
  ·cases C
 ·cases C
theorem k4a{rec:Rec}{μ:Mu}{N:Nat}{fr:Fr}{h:AH}{w:World}{o:Oper}{a:Act}(S:Sim P O μ h w)(F:FRel μ N fr a.tmps){t:TypeId}{l c:Operand}(ho:o.op=.makeSlice t l c)
  {k:AV->AH->Option R} {r:R} (y:opK P rec o.op o.type fr h k=some r):OpOk P O μ h w o a k r:=by
 obtain⟨dst,op,type,pos,Z,guard⟩:=o;dsimp only at y ho;subst ho;simp only[opK]at y;split at y
 ·rename_i k1 l' k2 H e hl hc hd;split at y
  ·rename_i zs hz;obtain⟨hb,I⟩:=kz y;have hb:=Nat.eq_of_beq_eq_true hb;rw[qbu]at I;obtain⟨q,hq,aa⟩:=I;unfold kby at hq;obtain⟨K,Q⟩:=kz hq;simp only[qbw]at K;obtain⟨b1,b2,b3,b4⟩:=K;simp only[qca]at Q;subst Q;obtain⟨z,A,C,ac,h2,h3⟩:=kjk (μ:=μ) hz;have ad:z.cells.size=A.size:=by have:=h2.length;simp[Program.cellsOf,C]at this hb;omega
   have U:=kbc F hl;have V:=kbc F hc;simp only[VRel]at U V;have hm:(kx:Int)=70368744177664:=rfl;rw[hm]at b3 b4
   have ae:(A.bytes:Int)*H<=281474976710656:=by
    have af:P.bytesOf e=A.bytes:=by simp[Program.bytesOf,C]
    rw[af,Int.mul_comm]at b4;omega
   have X:=run_make (P:=P) w t e A z hd C ac k1 k2 l' H b1 b2 ae (by omega)
   have Y:(madeCells z.cells (H.toNat*A.size)).toList=(List.replicate H.toNat z.cells.toList).flatten:=by
    unfold madeCells;by_cases h0:A.size=0
    ·have:z.cells.toList=[]:=by apply List.eq_nil_of_length_eq_zero;rw[Array.length_toList];omega
     rw[h0,this];simp[Array.range_zero']
    ·rw[<- ad];exact ksv _ z.cells (by omega)
   obtain⟨g1,g2,g3⟩:=kpw (rest:=[]) S (cs:=repC zs H.toNat) (us:=(madeCells z.cells (H.toNat*A.size)).toList) (by rw[Y,kol];exact h2.rep _) (kte h3 _) e;simp only[List.append_nil,Array.toArray_toList]at g1 g2 g3;refine⟨_,_,aa,qf (s:=Instr.makeSlice t (a.eval l) (a.eval c)) rfl (by rw[U,V];exact X) ⟨_,?_,g1,g2,g3⟩⟩;simp only[VRel,Sl.v];exact⟨_,_,rfl,.inr (RRel.new 0),by omega,rfl⟩
  ·cases y
 ·cases y
theorem k8h{rec:Rec}{μ:Mu}{N:Nat}{fr:Fr}{h:AH}{w:World}{o:Oper}{a:Act}(S:Sim P O μ h w)(F:FRel μ N fr a.tmps){s:TypeId}{x:Operand}{f:Nat}(X:o.op=.fieldAddr s x f)
  {k:AV->AH->Option R} {r:R} (C:opK P rec o.op o.type fr h k=some r):OpOk P O μ h w o a k r:=by
 obtain⟨dst,op,type,pos,Q,guard⟩:=o;dsimp only at C X;subst X;simp only[opK]at C;split at C
 ·rename_i p A Y y;obtain⟨h0,H⟩:=kef C;rw[qbu]at H;obtain⟨q,Z,U⟩:=H;subst Z;have K:=kbc F Y;simp only[VRel]at K;obtain⟨ad,K,he⟩:=K;unfold kq8 at y;split at y
  ·rename_i fs hd;have I:P.cellsOf A.type≠0:=λe=>by rw[e]at h0;cases h0
   have hs:∃i,P.info? A.type=some i:=by
    cases hi:P.info? A.type with
    | none=>simp[Program.cellsOf,hi]at I
    | some i=>exact⟨i,rfl⟩
   obtain⟨i,hi⟩:=hs;have V:(sizeOf A.type).run P w=.ok (P.cellsOf A.type) w:=by simp[sizeOf,typeInfo,hi,Program.cellsOf]
   simp only[Array.getElem?_toList]at y;refine⟨_,h,U,qf (s:=Instr.fieldAt s (a.eval x) f) (u:=.pointer (some (ad.add A.offset))) rfl ?_ (qd S (by simp only[VRel];exact⟨_,K.add _,rfl⟩))⟩;rw[he];simp[Instr.fieldAt,run_underlying hd,y,Instr.sureAddr,fieldPlace,V,I]
  ·cases y
 ·cases C
theorem kbbi{rec:Rec}{μ:Mu}{N:Nat}{fr:Fr}{h:AH}{w:World}{o:Oper}{a:Act}(S:Sim P O μ h w)(F:FRel μ N fr a.tmps){t:TypeId}{x:Operand}{f:Nat}(Q:o.op=.field t x f)
  {k:AV->AH->Option R} {r:R} (A:opK P rec o.op o.type fr h k=some r):OpOk P O μ h w o a k r:=by
 obtain⟨dst,op,type,pos,C,guard⟩:=o;dsimp only at A Q;subst Q;simp only[opK]at A;split at A
 ·rename_i cs fd V y;rw[qbu]at A;obtain⟨v,X,H⟩:=A;have U:=kbc F V;simp only[VRel]at U;obtain⟨us,Y,I,h1⟩:=U;unfold kq8 at y;split at y
  ·rename_i fs Z;simp only[Array.getElem?_toList]at y;obtain⟨u,hu,K⟩:=kkb X I h1 w;refine⟨v,h,H,qf (s:=Instr.field t (a.eval x) f) rfl ?_ (qd S K)⟩;rw[Y];simp[Instr.field,run_underlying Z,y,asAgg,hu]
  ·cases y
 ·cases A
theorem kbdo{rec:Rec}{μ:Mu}{N:Nat}{fr:Fr}{h:AH}{w:World}{o:Oper}{a:Act}(S:Sim P O μ h w)(F:FRel μ N fr a.tmps){t:TypeId}{x i:Operand}(ho:o.op=.indexAddr t x i)
  {k:AV->AH->Option R} {r:R} (Q:opK P rec o.op o.type fr h k=some r):OpOk P O μ h w o a k r:=by
 obtain⟨dst,op,type,pos,Y,guard⟩:=o;dsimp only at Q ho;subst ho;simp only[opK]at Q;split at Q
 ·rename_i p n cp kd j e Z hi hd;obtain⟨y,A⟩:=kz Q;rw[qbu]at A;obtain⟨q,hq,H⟩:=A;obtain⟨r',rfl,j0,j1,rfl⟩:=kxm (μ:=μ) hq;have U:=kbc F Z;have C:=kbc F hi;simp only[VRel]at U C;obtain⟨X,c,he,aa,V⟩:=U;obtain⟨ie,I⟩:=Option.isSome_iff_exists.1 y;have hs:(sizeOf e).run P w=.ok (P.cellsOf e) w:=by simp[sizeOf,typeInfo,I,Program.cellsOf]
  have K:RRel μ r' X:=by
   rcases aa with h0 | h0
   ·have:n<=c:=by cases cp<;>exact V.1
    omega
   ·exact h0
  refine⟨_,h,H,qf (s:=Instr.indexAt t (a.eval x) (a.eval i)) (u:=.pointer (some (X.add (j.toNat*P.cellsOf e)))) rfl ?_ (qd S (by simp only[VRel];exact⟨_,K.add _,rfl⟩))⟩;rw[he,C];simp[Instr.indexAt,asIntOf,run_underlying hd,j0,j1,hs]
 ·rename_i p kd j n e Z hi hd;obtain⟨y,A⟩:=kz Q;rw[qbu]at A;obtain⟨q,hq,H⟩:=A;obtain⟨r',rfl,j0,j1,rfl⟩:=kxm (μ:=μ) hq;have U:=kbc F Z;have C:=kbc F hi;simp only[VRel]at U C;obtain⟨X,K,he⟩:=U;obtain⟨ie,I⟩:=Option.isSome_iff_exists.1 y;have hs:(sizeOf e).run P w=.ok (P.cellsOf e) w:=by simp[sizeOf,typeInfo,I,Program.cellsOf]
  refine⟨_,h,H,qf (s:=Instr.indexAt t (a.eval x) (a.eval i)) (u:=.pointer (some (X.add (j.toNat*P.cellsOf e)))) rfl ?_ (qd S (by simp only[VRel];exact⟨_,K.add _,rfl⟩))⟩;rw[he,C];simp[Instr.indexAt,asIntOf,run_underlying hd,j0,j1,hs,Instr.sureAddr]
 ·cases Q
theorem k89{rec:Rec}{μ:Mu}{N:Nat}{fr:Fr}{h:AH}{w:World}{o:Oper}{a:Act}(S:Sim P O μ h w)(F:FRel μ N fr a.tmps){t:TypeId}{x i:Operand}(ho:o.op=.index t x i)
  {k:AV->AH->Option R} {r:R} (H:opK P rec o.op o.type fr h k=some r):OpOk P O μ h w o a k r:=by
 obtain⟨dst,op,type,pos,U,guard⟩:=o;dsimp only at H ho;subst ho;simp only[opK]at H;split at H
 ·rename_i cs kd j n e V hi X;obtain⟨I,y⟩:=kz H;simp only[qbw]at I;rw[qbu]at y;obtain⟨v,Q,A⟩:=y;have K:=kbc F V;have C:=kbc F hi;simp only[VRel]at K C;obtain⟨us,he,Y,h1⟩:=K;obtain⟨u,hu,Z⟩:=kkb Q Y h1 w
  have aa:∃d,P.underlying e=some d:=by
   unfold partA at Q;split at Q
   ·exact⟨_,‹_›⟩
   ·cases Q
  obtain⟨d,ac⟩:=aa;have A:=kbcz A;refine⟨v,h,A,qf (s:=Instr.index t (a.eval x) (a.eval i)) rfl ?_ (qd S Z)⟩;rw[he,C];simp[Instr.index,asIntOf,run_underlying X,I.1,I.2,knz ac,hu]
 ·rename_i s kd j V hi X;obtain⟨I,y⟩:=kz H;simp only[qbw]at I;rw[qbu]at y;obtain⟨b,hb,A⟩:=y;have K:=kbc F V;have C:=kbc F hi;simp only[VRel]at K C;refine⟨_,h,A,qf (s:=Instr.index t (a.eval x) (a.eval i)) (u:=.int .u8 (b.toNat:Int)) rfl ?_ (qd S (by simp[VRel]))⟩;rw[K,C];simp[Instr.index,asIntOf,run_underlying X,I,hb]
 ·cases H
theorem kbcm{rec:Rec}{μ:Mu}{N:Nat}{fr:Fr}{h:AH}{w:World}{o:Oper}{a:Act}(S:Sim P O μ h w)(F:FRel μ N fr a.tmps){t:TypeId}{x y:Operand}(V:o.op=.store t x y)
  {k:AV->AH->Option R} {r:R} (A:opK P rec o.op o.type fr h k=some r):OpOk P O μ h w o a k r:=by
 obtain⟨dst,op,type,pos,K,guard⟩:=o;dsimp only at A V;subst V;simp only[opK]at A;split at A
 ·rename_i p v X Y;obtain⟨cs,C,h1,Z,h3,h4,d,hd⟩:=kp9 A (kbc F Y);rw[qbu]at C;obtain⟨q,hq,H⟩:=C;subst hq;rw[qbu]at H;obtain⟨h',Q,U⟩:=H;have I:=kbc F X;simp only[VRel]at I;obtain⟨ad,I,he⟩:=I;obtain⟨w',e1,e2,e3,e4⟩:=kn8 (i:=0) S (by simpa[Addr.add]using I) h1 Z Q;refine⟨_,h',U,OpGoes.of_skip (w':=w') ?_ ⟨μ,by simp[VRel,undef,VRels],e2,e3,e4⟩⟩;simp only[execOp,Sem.run_bind];rw[he];simp[Instr.storeAt,Instr.sureAddr,storeVar,knz hd,h3,e1]
 ·cases A
theorem ki0{μ:Mu}{N:Nat}{fr:Fr}{a:Act}(F:FRel μ N fr a.tmps){x:Option Operand}{d:Int}{k:Int->Option R}{r:R}(h:boundK fr x d k=some r) :
  ∃n,k n=some r/\((x.map a.eval=none/\n=d)\/∃kd,x.map a.eval=some (.int kd n)):=by
 unfold boundK at h;split at h
 ·exact⟨d,h,.inl ⟨rfl,rfl⟩⟩
 ·split at h
  ·rename_i kd n y;have:=kbc F y;simp only[VRel]at this;exact⟨n,h,.inr ⟨kd,by simp[this]⟩⟩
  ·cases h
theorem kfv{kd:IntKind}{n:Int}{y:Nat}{c:BoundsCode}(h0:0<=n)(h1:n<=y)(w:World):(Instr.sliceBound (.int kd n) y c).run P w=.ok n.toNat w:=by
 simp[Instr.sliceBound,asIntOf,h0,h1]
theorem ksx{isS:Bool}{len cap:Nat}{lo hi:Option Value}{l h:Int}(y:(lo=none/\l=0)\/∃kd,lo=some (.int kd l))(A:(hi=none/\h=(len:Int))\/∃kd,hi=some (.int kd h))
  (b:0<=l/\l<=h/\h<=(cap:Int)) (w:World):(Instr.sliceBounds isS len cap lo hi none).run P w=.ok (l.toNat,h.toNat,cap) w:=by
 obtain⟨b1,b2,b3⟩:=b;rcases y with⟨rfl,rfl⟩ | ⟨C,rfl⟩<;>rcases A with⟨rfl,rfl⟩ | ⟨F,rfl⟩
 ·simp[Instr.sliceBounds]
 ·simp[Instr.sliceBounds,kfv (P:=P) (show 0<=h by omega) b3]
 ·simp[Instr.sliceBounds,kfv (P:=P) b1 b2]
 ·simp[Instr.sliceBounds,kfv (P:=P) (show 0<=h by omega) b3,kfv (P:=P) b1 (show l<=(h.toNat:Int) by omega)]
theorem kbd9{isS:Bool}{len cap:Nat}{lo hi y:Option Value}{l h m:Int}(A:(lo=none/\l=0)\/∃kd,lo=some (.int kd l))(C:∃kd,hi=some (.int kd h))(F:∃kd,y=some (.int kd m))
  (b:0<=l/\l<=h/\h<=m/\m<=(cap:Int)) (w:World):(Instr.sliceBounds isS len cap lo hi y).run P w=.ok (l.toNat,h.toNat,m.toNat) w:=by
 obtain⟨b1,b2,b3,b4⟩:=b;obtain⟨H,rfl⟩:=C;obtain⟨km,rfl⟩:=F;rcases A with⟨rfl,rfl⟩ | ⟨I,rfl⟩
 ·simp[Instr.sliceBounds,kfv (P:=P) (show 0<=m by omega) b4,kfv (P:=P) (show 0<=h by omega) (show h<=(m.toNat:Int) by omega)]
 ·simp[Instr.sliceBounds,kfv (P:=P) (show 0<=m by omega) b4,kfv (P:=P) (show 0<=h by omega) (show h<=(m.toNat:Int) by omega),kfv (P:=P) b1 (show l<=(h.toNat:Int) by omega)]
theorem k02{μ:Mu}{r:Option Ref}{n:Nat}{c:Cap}{l h:Int}{size:Nat}{s:Sl}(I:cutSl ⟨r,n,c⟩ l h size=some s){u:Value}(C:VRel μ (.slice r n c) u) :
  ∃A cap,u=.slice A n cap/\(0<=l/\l<=h/\h<=(cap:Int))/\VRel μ s.v (.slice (if cap=l.toNat then A else A.map (·.add (l.toNat*size))) (h.toNat-l.toNat) (cap-l.toNat)):=by
 unfold cutSl at I;cases c with
 | is c =>
  obtain⟨b,K⟩:=kz I;simp only[qbw]at b;simp only[qca]at K;subst K;cases r with
  | none =>
   simp only[VRel]at C;obtain⟨rfl,V,rfl⟩:=C;cases V;have hl:l=0:=by omega
   have hh:h=0:=by omega
   subst hl;subst hh;exact⟨none,0,rfl,by simp,by simp[VRel,Sl.v]⟩
  | some r =>
   simp only[VRel]at C;obtain⟨A,F,rfl,H,X,Y⟩:=C;subst Y;refine⟨some A,F,rfl,b,?_⟩;by_cases y:F=l.toNat
   ·simp only[y,if_true,Sl.v,VRel];exact⟨A,_,rfl,.inl (by omega),by omega,rfl⟩
   ·simp only[y,if_false,Sl.v,Option.map_some,VRel];refine⟨_,_,rfl,?_,by omega,rfl⟩;rcases H with h0 | h0
    ·omega
    ·exact .inr (h0.add _)
 | opn sz =>
  obtain⟨Z,I⟩:=kz I;have Z:=Nat.eq_of_beq_eq_true Z;subst Z;obtain⟨b,K⟩:=kz I;simp only[qbw]at b;simp only[qca]at K;subst K;cases r with
  | none =>
   simp only[VRel]at C;obtain⟨_,V,_⟩:=C;cases V
  | some r =>
   simp only[VRel]at C;obtain⟨A,F,rfl,H,X,i,o,L,rfl,hL,Q⟩:=C;refine⟨some A,F,rfl,⟨b.1,b.2.1,by omega⟩,?_⟩;have aa:l.toNat<=F:=by omega
   have U:l.toNat*sz+(F-l.toNat)*sz=F*sz:=by rw[<- Nat.add_mul];congr 1;omega
   by_cases y:F=l.toNat
   ·simp only[y,if_true,Sl.v,Option.map_some,VRel];exact⟨A,_,rfl,.inl (by omega),by omega,i,_,L,rfl,hL,by rw[y]at U Q;omega⟩
   ·simp only[y,if_false,Sl.v,Option.map_some,VRel];refine⟨_,_,rfl,?_,by omega,i,_,L,rfl,hL,by omega⟩;rcases H with h0 | h0
    ·omega
    ·exact .inr (h0.add _)
theorem kbbz{μ:Mu}{r:Option Ref}{n:Nat}{c:Cap}{l h m:Int}{size:Nat}{s:Sl}(I:cutSl3 ⟨r,n,c⟩ l h m size=some s){u:Value}(A:VRel μ (.slice r n c) u) :
  ∃y cap,u=.slice y n cap/\(0<=l/\l<=h/\h<=m/\m<=(cap:Int))/\VRel μ s.v (.slice (if m.toNat=l.toNat then y else y.map (·.add (l.toNat*size))) (h.toNat-l.toNat) (m.toNat-l.toNat)):=by
 unfold cutSl3 at I;cases c with
 | is c =>
  obtain⟨b,C⟩:=kz I;simp only[qbw]at b;simp only[qca]at C;subst C;cases r with
  | none =>
   simp only[VRel]at A;obtain⟨rfl,K,rfl⟩:=A;cases K;have X:l=0:=by omega
   have Y:h=0:=by omega
   have Z:m=0:=by omega
   subst X;subst Y;subst Z;exact⟨none,0,rfl,by simp,by simp[VRel,Sl.v]⟩
  | some r =>
   simp only[VRel]at A;obtain⟨y,Q,rfl,F,U,V⟩:=A;subst V;refine⟨some y,Q,rfl,b,?_⟩;by_cases H:m.toNat=l.toNat
   ·simp only[H,if_true,Sl.v,VRel];exact⟨y,_,rfl,.inl (by omega),by omega,rfl⟩
   ·simp only[H,if_false,Sl.v,Option.map_some,VRel];refine⟨_,_,rfl,?_,by omega,rfl⟩;rcases F with h0 | h0
    ·omega
    ·exact .inr (h0.add _)
 | opn sz =>
  obtain⟨b,C⟩:=kz I;simp only[qbw]at b;simp only[qca]at C;obtain⟨rfl,rfl,rfl⟩:=b;subst C;cases r with
  | none =>
   simp only[VRel]at A;obtain⟨_,K,_⟩:=A;cases K
  | some r =>
   simp only[VRel]at A;obtain⟨y,Q,rfl,F,U,_⟩:=A;refine⟨some y,Q,rfl,by simp,?_⟩;simp only[if_true,Sl.v,VRel];exact⟨y,_,rfl,.inl (by simp),by simp,rfl⟩
theorem kbif{rec:Rec}{μ:Mu}{N:Nat}{fr:Fr}{h:AH}{w:World}{o:Oper}{a:Act}(S:Sim P O μ h w)(F:FRel μ N fr a.tmps){t:TypeId}{x:Operand}{lo hi mx:Option Operand}(ho:o.op=.slice t x lo hi mx)
  {k:AV->AH->Option R} {r:R} (V:opK P rec o.op o.type fr h k=some r):OpOk P O μ h w o a k r:=by
 obtain⟨dst,op,type,pos,ac,guard⟩:=o;dsimp only at V ho;subst ho;simp only[opK]at V;split at V
 ·rename_i v hv;have X:=kbc F hv;unfold sliceK at V;split at V
  ·rename_i e q n c hd;obtain⟨l,K,hl⟩:=ki0 F V;obtain⟨hh,y,I⟩:=ki0 F K;split at y
   ·obtain⟨A,y⟩:=kz y;obtain⟨ie,Q⟩:=Option.isSome_iff_exists.1 A;have hs:(sizeOf e).run P w=.ok (P.cellsOf e) w:=by simp[sizeOf,typeInfo,Q,Program.cellsOf]
    rw[qbu]at y;obtain⟨s,U,C⟩:=y;obtain⟨ad,cap,he,Y,H⟩:=k02 U X;refine⟨_,h,C,qf (s:=Instr.sliceAt t (a.eval x) (lo.map a.eval) (hi.map a.eval) none) rfl ?_ (qd S H)⟩;rw[he];simp only[Instr.sliceAt,Sem.run_bind,run_underlying hd,Result.andThen_ok,Instr.slice,ksx (P:=P) (isS:=true) hl I Y,hs,Sem.run_pure]
   ·rename_i m;obtain⟨A,y⟩:=kz y;simp only[qb8]at A;obtain⟨A,Z⟩:=A;obtain⟨ie,Q⟩:=Option.isSome_iff_exists.1 A;have hs:(sizeOf e).run P w=.ok (P.cellsOf e) w:=by simp[sizeOf,typeInfo,Q,Program.cellsOf]
    obtain⟨mm,C,ae⟩:=ki0 F y;rw[qbu]at C;obtain⟨s,U,af⟩:=C;obtain⟨ad,cap,he,Y,H⟩:=kbbz U X
    have ag:∃kd,hi.map a.eval=some (.int kd hh):=by
     rcases I with⟨h0,_⟩ | h0
     ·cases hi<;>simp at h0 Z
     ·exact h0
    have ah:∃kd,(some m).map a.eval=some (.int kd mm):=by
     rcases ae with⟨h0,_⟩ | h0
     ·simp at h0
     ·exact h0
    refine⟨_,h,af,qf (s:=Instr.sliceAt t (a.eval x) (lo.map a.eval) (hi.map a.eval) ((some m).map a.eval)) rfl ?_ (qd S H)⟩;rw[he];simp only[Instr.sliceAt,Sem.run_bind,run_underlying hd,Result.andThen_ok,Instr.slice,kbd9 (P:=P) (isS:=true) hl ag ah Y,hs,Sem.run_pure]
  ·rename_i n e q hd;obtain⟨l,K,hl⟩:=ki0 F V;obtain⟨hh,y,I⟩:=ki0 F K;split at y
   ·obtain⟨A,y⟩:=kz y;obtain⟨ie,Q⟩:=Option.isSome_iff_exists.1 A;have hs:(sizeOf e).run P w=.ok (P.cellsOf e) w:=by simp[sizeOf,typeInfo,Q,Program.cellsOf]
    rw[qbu]at y;obtain⟨s,U,C⟩:=y;simp only[VRel]at X;obtain⟨aa,X,ai⟩:=X;obtain⟨ad,cap,he,Y,H⟩:=k02 U (u:=.slice (some aa) n n) (by simp only[VRel];exact⟨aa,n,rfl,.inr X,qbp _,rfl⟩);cases he;refine⟨_,h,C,qf (s:=Instr.sliceAt t (a.eval x) (lo.map a.eval) (hi.map a.eval) none) rfl ?_ (qd S H)⟩;rw[ai];simp only[Instr.sliceAt,Sem.run_bind,run_underlying hd,Result.andThen_ok,Instr.sureAddr,Sem.run_pure,ksx (P:=P) (isS:=false) hl I Y,hs];by_cases aj:n=l.toNat<;>simp[aj]
   ·cases y
  ·rename_i s hd;obtain⟨l,K,hl⟩:=ki0 F V;obtain⟨hh,y,I⟩:=ki0 F K;split at y
   ·obtain⟨Y,C⟩:=kz y;simp only[qbw]at Y;simp only[VRel]at X;refine⟨_,h,C,qf (s:=Instr.sliceAt t (a.eval x) (lo.map a.eval) (hi.map a.eval) none) (u:=.string (s.extract l.toNat hh.toNat)) rfl ?_ (qd S (by simp[VRel]))⟩;rw[X];simp[Instr.sliceAt,Instr.slice,run_underlying hd,ksx (P:=P) (isS:=false) hl I Y]
   ·cases y
  ·cases V
 ·cases V
theorem kbfk{rec:Rec}{μ:Mu}{N:Nat}{fr:Fr}{h:AH}{w:World}{o:Oper}{a:Act}(S:Sim P O μ h w)(F:FRel μ N fr a.tmps){t:TypeId}{x:Operand}(A:o.op=.makeInterface t x)
  {k:AV->AH->Option R} {r:R} (y:opK P rec (.makeInterface t x) o.type fr h k=some r):OpOk P O μ h w o a k r:=by
 simp only[opK]at y;split at y
 ·rename_i v d C H;obtain⟨hi,y⟩:=kef y
  have run:(Instr.makeInterface t (a.eval x)).run P w=.ok (.iface t (a.eval x)) w:=by
   unfold Instr.makeInterface;simp only[Sem.run_bind,run_underlying H,Result.andThen_ok];cases d<;>first | rfl | cases hi
  refine⟨_,h,y,qf (s:=Instr.makeInterface t (a.eval x)) (by simp only[execOp,A]) run (qd S ?_)⟩;simp only[VRel];exact⟨_,rfl,kbc F C⟩
 ·cases y
theorem k7e{rec:Rec}{μ:Mu}{N:Nat}{fr:Fr}{h:AH}{w:World}{o:Oper}{a:Act}(S:Sim P O μ h w)(F:FRel μ N fr a.tmps){x:Operand}{C t:TypeId}{ok:Bool}(Q:o.op=.typeAssert x C t ok)
  {k:AV->AH->Option R} {r:R} (A:opK P rec (.typeAssert x C t ok) o.type fr h k=some r):OpOk P O μ h w o a k r:=by
 simp only[opK]at A;split at A
 ·rename_i v d V X;rw[qbu]at A;obtain⟨⟨t',y⟩,Y,A⟩:=A;obtain⟨I,A⟩:=kz A;have H:=kdl A;clear A;rw[qb8,qch]at I;have K:=kbc F V;rw[k1n Y]at K;simp only[VRel]at K;obtain⟨u,Z,U⟩:=K;have ht:t'=t:=Nat.eq_of_beq_eq_true I.2;subst ht;have hi:=I.1
  have run:(Instr.typeAssert (a.eval x) C t' ok).run P w=.ok (if ok then .tuple #[u,.bool true]else u) w:=by
   unfold Instr.typeAssert;simp only[Z,Sem.run_bind,run_underlying X,Result.andThen_ok];cases d<;>first | (cases hi;done) | simp
  cases ok with
  | false=>exact⟨_,h,H,qf (s:=Instr.typeAssert (a.eval x) C t' false) (by simp only[execOp,Q]) run (qd S U)⟩
  | true =>
   refine⟨_,h,H,qf (s:=Instr.typeAssert (a.eval x) C t' true) (by simp only[execOp,Q]) run (qd S ?_)⟩;simp only[VRel];exact⟨_,rfl,qc U (qc (by simp[VRel]) qb)⟩
 ·cases A
theorem kbbd{rec:Rec}{μ:Mu}{N:Nat}{fr:Fr}{h:AH}{w:World}{o:Oper}{a:Act}(S:Sim P O μ h w)(F:FRel μ N fr a.tmps)(X:∀c,o.op≠.call c)
  {k:AV->AH->Option R} {r:R} (A:opK P rec o.op o.type fr h k=some r):OpOk P O μ h w o a k r:=by
 obtain⟨dst,op,type,pos,Z,guard⟩:=o;dsimp only at A X;cases op<;>simp only[opK]at A
 case call c=>exact absurd rfl (X c)
 case move x =>
  rw[kjt,qbu]at A;obtain⟨v,C,A⟩:=A;exact⟨v,h,A,qe (u:=a.eval x) rfl (qd S (kbc F C))⟩
 case assign x =>
  rw[kjt,qbu]at A;obtain⟨v,C,A⟩:=A;exact⟨v,h,A,qe (u:=a.eval x) rfl (qd S (kbc F C))⟩
 case pick c x y =>
  split at A
  ·rename_i t ht;have hc:=kbc F ht;simp only[VRel]at hc;rcases kck A with⟨rfl,H⟩ | ⟨rfl,H⟩<;>rw[qbu]at H<;>obtain⟨v,C,H⟩:=H
   ·exact⟨v,h,H,qe (u:=a.eval x) (by simp[execOp,hc,asBool]) (qd S (kbc F C))⟩
   ·exact⟨v,h,H,qe (u:=a.eval y) (by simp[execOp,hc,asBool]) (qd S (kbc F C))⟩
  ·cases A
 case alloc t =>
  split at A
  ·rename_i zs K;obtain⟨z,h1,Q,h3⟩:=kya (μ:=μ) K w;refine⟨_,_,A,qf (s:=Instr.alloc t true (.tuple #[])) rfl ?_ (k1e S Q h3 t)⟩;simp[Instr.alloc,h1,newVar,newRow]
  ·cases A
 case box t x =>
  rw[qbu]at A;obtain⟨v,C,A⟩:=A;obtain⟨cs,A,h1,Q,h3,_⟩:=kp9 A (kbc F C);refine⟨_,_,A,qf (s:=Instr.box t (a.eval x)) rfl ?_ (k1e S h1 Q t)⟩;simp[Instr.box,newVar,newRow]
 case build t parts=>exact k8t (rec:=rec) S F rfl A
 case buildSlice t n parts=>exact k5f (rec:=rec) S F rfl A
 case load t x =>
  split at A
  ·rename_i q hq;have C:=kbc F hq;simp only[VRel]at C;obtain⟨ad,I,U⟩:=C;obtain⟨v,u,A,V,hl⟩:=ks5 S I A;refine⟨v,h,A,qf (s:=Instr.loadAt t (a.eval x)) rfl ?_ (qd S V)⟩;rw[U];simp[Instr.loadAt,Instr.sureAddr,hl]
  ·cases A
  ·cases A
 case store t x y=>exact kbcm (rec:=rec) S F rfl A
 case nilCheck x =>
  split at A
  ·rename_i p hp;rw[qbu]at A;obtain⟨q,rfl,A⟩:=A;have I:=kbc F hp;refine⟨_,h,A,qe (u:=a.eval x) ?_ (qd S I)⟩;simp only[VRel]at I;obtain⟨ad,_,U⟩:=I;simp only[execOp];rw[U];rfl
  ·rename_i f b c hf;have I:=kbc F hf;refine⟨_,h,A,qe (u:=a.eval x) ?_ (qd S I)⟩;simp only[VRel]at I;obtain⟨g,x1,x2,U,hg,_⟩:=I;simp only[FnRel]at hg;subst hg;simp only[execOp];rw[U];rfl
  ·cases A
 case binOp op t x y yt =>
  split at A
  ·rename_i v1 v2 h1 Q;obtain⟨z,u,A,K,Y,e2⟩:=k4v A (kbc F h1) (kbc F Q) x y w;refine⟨z,h,A,qe (u:=u) ?_ (qd S K)⟩;simp[execOp,Y,e2]
  ·cases A
 case unOp op t x =>
  split at A
  ·rename_i v h1;obtain⟨z,u,A,K,Y⟩:=kbhm (P:=P) A (kbc F h1) w;exact⟨z,h,A,qf rfl Y (qd S K)⟩
  ·cases A
 case convert s d x =>
  split at A
  ·rename_i v h1;obtain⟨z,u,A,K,Y⟩:=kblg A (kbc F h1) w;exact⟨z,h,A,qf rfl Y (qd S K)⟩
  ·cases A
 case makeFunc f first captured =>
  split at A
  ·rename_i x y g h1 Q;refine⟨_,h,A,qe (u:=.func (.func g) (first.map a.eval) (captured.map a.eval)) rfl (qd S ?_)⟩;simp only[VRel];exact⟨_,_,_,rfl,rfl,by simpa using kdp F h1,by simpa using kdp F Q⟩
  ·cases A
 case makeInterface t x=>exact kbfk (rec:=rec) S F rfl (by simp only[opK];exact A)
 case typeAssert x xt t ok=>exact k7e (rec:=rec) S F rfl (by simp only[opK];exact A)
 case makeSlice t l c=>exact k4a (rec:=rec) S F rfl A
 case slice t x lo hi mx=>exact kbif (rec:=rec) S F rfl A
 case fieldAddr s x f=>exact k8h (rec:=rec) S F rfl A
 case field t x f=>exact kbbi (rec:=rec) S F rfl A
 case indexAddr t x i=>exact kbdo (rec:=rec) S F rfl A
 case index t x i=>exact k89 (rec:=rec) S F rfl A
 case extract x i =>
  split at A
  ·rename_i vs C;rw[qbu]at A;obtain⟨v,aa,A⟩:=A;have I:=kbc F C;simp only[VRel]at I;obtain⟨us,U,ac⟩:=I;obtain⟨u,hu,V⟩:=ac.get i v aa;refine⟨v,h,A,qf (s:=Instr.extract (a.eval x) i) rfl ?_ (qd S V)⟩;rw[U];simp only[Array.getElem?_toList]at hu;simp[Instr.extract,hu]
  ·cases A
 all_goals cases A
end Go.Ab
namespace Go.Ab
variable{P:Program}{O:World}{R:Type}
theorem kxe(need:Nat):∀(y c:Nat),c<=need+(need+768)/4->Builtin.growBy need y c<=need+(need+768)/4
 | 0,c,h=>h
 | n+1,c,h=>by
  unfold Builtin.growBy;split
  ·exact h
  ·exact kxe need n _ (by omega)
theorem kbi0{need old:Nat}(h:old<need):Builtin.nextslicecap need old<=2*need:=by
 unfold Builtin.nextslicecap;split
 ·omega
 ·split
  ·omega
  ·have:=kxe need 4 old (by omega);omega
theorem kl1{μ:Mu}{h:AH}{w:World}(S:Sim P O μ h w){r:Option Ref}{n m size:Nat}{c:Cap}{u:Value}(C:VRel μ (.slice r n c) u)(Y:m<=n){cs:List AV}
  (y:h.getsO r (m*size)=some cs) :
  ∃us:List Value,us.length=m*size/\(Builtin.firstCells size m u).run P w=.ok us.toArray w/\VRels μ cs us/\cs.all AV.one=true:=by
 cases r with
 | none =>
  simp only[VRel]at C;obtain⟨rfl,_,rfl⟩:=C;simp[AH.getsO]at y;subst y;have:m=0:=by omega
  subst this;exact⟨[],by simp,by simp[Builtin.firstCells],qb,rfl⟩
 | some r =>
  simp only[VRel]at C;obtain⟨a,H,rfl,F,A⟩:=C;have K:n<=H:=by cases c<;>exact A.1
  simp only[AH.getsO]at y;rcases F with h0 | Q
  ·have:m=0:=by omega
   subst this;simp only[Nat.zero_mul,AH.gets,qca]at y;subst y;exact⟨[],by simp,by simp[Builtin.firstCells,loadCells,loadCellsFrom],qb,rfl⟩
  ·obtain⟨us,I,U,V,X⟩:=kqk S _ Q y;exact⟨us,I,run_firstCells_some w size m a n H us I U,V,X⟩
theorem k64(zero:Array Value)(n:Nat):(Builtin.zeroCells zero n).size=n*zero.size:=by simp[Builtin.zeroCells]
theorem Sim.drew{μ:Mu}{h:AH}{w:World}(S:Sim P O μ h w):Sim P O μ h w.drew :=
 {old:=S.old,os:=S.os,tape:=S.tape,output:=S.output,base:=S.base,keep:=S.keep,dom:=S.dom,place:=S.place,blk:=λi L b y A=>(S.blk i L b y A).step (Mu.le_refl μ) (λ_=>rfl),inj:=S.inj}
theorem kbcd(need old:Nat)(elem:TypeId)(t:Nat):need<=Question.cut (.appendCap need old elem) t:=by
 simp[Question.cut]
theorem kbfi{μ:Mu}{ts:Array TypeId}{ty t t' e f:TypeId}{w:World}{base:Option Addr}{n c m size:Nat}{ux:Value}{C F:List Value}
  (h0:ts[0]?=some t) (h1:ts[1]?=some t') (hd:P.underlying t=some (.slice e)) (aa:P.underlying t'=some (.slice f)) (hs:P.cellsOf e=size)
  (hn:(Builtin.lenOf ux).run P w=.ok m w) (Q:c<n+m) (H:growOk P (n+m) e size=true)
  (ho:(Builtin.firstCells size n (.slice base n c)).run P w.drew=.ok C.toArray w.drew) (U:(Builtin.firstCells size m ux).run P w.drew=.ok F.toArray w.drew) :
  ∃(cap:Nat)(rest:List Value),n+m<=cap/\rest.length=(cap-(n+m))*size/\
   (Builtin.append_ ts ty #[.slice base n c,ux]).run P w=.ok (.slice (some ⟨w.heap.size,0,none⟩) (n+m) cap) (w.drew.alloc (.cells ((C++F)++rest).toArray e)):=by
 unfold growOk at H;simp only[qb8,qbw]at H;obtain⟨⟨ac,ad⟩,Z⟩:=H;split at Z
 ·rename_i zs ae;have Z:=Nat.eq_of_beq_eq_true Z;obtain⟨z,V,I,af,ag,_⟩:=kjk (μ:=μ) ae;have ah:z.cells.size=size:=by have:=ag.length;simp at this;omega
  have ai:P.bytesOf e=V.bytes:=by simp[Program.bytesOf,I]
  have aj:P.cellsOf e=V.size:=by simp[Program.cellsOf,I]
  have hm:kx=70368744177664:=rfl;rw[hm,ai]at ac;rw[hm]at ad;have ak:=kbi0 Q
  have X:¬(281474976710656<Builtin.nextslicecap (n+m) c*V.bytes):=by
   have:Builtin.nextslicecap (n+m) c*V.bytes<=2*(n+m)*V.bytes:=Nat.mul_le_mul_right _ ak;rw[Nat.mul_assoc]at this;omega
  have Y:¬((n:Int)+(m:Int)>IntKind.i64.max):=by
   have:IntKind.i64.max=9223372036854775807:=rfl;rw[this];omega
  refine⟨Question.cut (.appendCap (n+m) c e) (w.tape w.drawn (.appendCap (n+m) c e)),(Builtin.zeroCells z.cells (Question.cut (.appendCap (n+m) c e) (w.tape w.drawn (.appendCap (n+m) c e))-(n+m))).toList,kbcd _ _ _ _,by simp[k64,ah],?_⟩;have K:¬(n+m<=c):=by omega
  have y:(Question.appendCap (n+m) c e).forced=false:=rfl;rw[<- hs,aj]at ho U;have A:c<n+m:=Q;simp[Builtin.append_,h0,h1,run_underlying hd,run_underlying aa,sizeOf,typeInfo,I,hn,A,K,Y,X,ho,U,zeroValue,af,newRow,y];rw[if_neg (by omega)];congr 3;apply Array.ext';simp
 ·cases Z
theorem kbfe{μ:Mu}{h:AH}{w:World}(S:Sim P O μ h w)(i o:Nat):Sim P O μ (h.kill (some (.new i o))) w/\Ext μ h w μ (h.kill (some (.new i o))):=by
 have y:∀j,Live (h.kill (some (.new i o))) j->Live h j/\(j=i->h.blks.size<=i):=λj I=>by
  by_cases A:i=j
  ·subst A;rcases Nat.lt_or_ge i h.blks.size with K | H
   ·exact absurd rfl (I .dead (by simp[AH.kill,K]))
   ·exact⟨λb C=>by simp[Array.getElem?_eq_none H]at C,λ_=>H⟩
  ·exact⟨λb C=>I b (by simp only[AH.kill];rw[Array.getElem?_setIfInBounds_ne A];exact C),λe=>absurd e.symm A⟩
 refine⟨{old:=S.old,os:=S.os,tape:=S.tape,output:=S.output,base:=S.base,keep:=S.keep,dom:=λj L F=>by simpa[AH.kill]using S.dom j L F,place:=S.place,blk:=λj L b F C=>?_,inj:=λj k L M F Q U V X=>S.inj j k L M F Q (y j U).1 (y k V).1 X},?_⟩
 ·by_cases A:i=j
  ·subst A;have:=S.dom i L F;simp[AH.kill,this]at C;subst C;trivial
  ·simp only[AH.kill]at C;rw[Array.getElem?_setIfInBounds_ne A]at C;exact S.blk j L b F C
 ·exact⟨by simp[AH.kill],Mu.le_refl μ,λ_ _=>rfl,λj _ I=>(y j I).1,λj M h1 Y=>by simp[AH.kill]at Y;omega⟩
theorem kbjq{μ:Mu}{h:AH}{w w':World}(S:Sim P O μ h w){i o:Nat}{L:Loc}(Y:μ i=some L){bs:List AV}{e:TypeId}(hb:h.blks[i]?=some (.cells bs e)){c':Array Value}{cs:List AV}
  (aa:w'.heap[L.block]?=some (.cells c' e (0,0))) (ah:c'.size=L.base+L.total) (ho:o<=L.total) (ai:cs.length<=L.total-o) (aj:∀(j:Nat)(v:AV),cs[j]?=some v->∃u,c'[L.base+o+j]?=some u/\VRel μ v u) (h1:cs.all AV.one=true)
  (K:∀b,b≠L.block->w'.heap[b]?=w.heap[b]?) (H:w'.heap.size=w.heap.size) (ak:w'.os=w.os) (Z:w'.tape=w.tape) (ac:w'.output=w.output) :
  Sim P O (Mu.set μ h.blks.size ⟨L.block,L.base+o,L.total-o⟩) ((h.kill (some (.new i o))).alloc (.cells cs e)) w'/\
  Ext μ h w (Mu.set μ h.blks.size ⟨L.block,L.base+o,L.total-o⟩) ((h.kill (some (.new i o))).alloc (.cells cs e))/\Frm μ h w w':=by
 have hi:i<h.blks.size:=S.dom i L Y
 have hf:μ h.blks.size=none:=by
  cases hq:μ h.blks.size with
  | none=>rfl
  | some L=>have:=S.dom _ _ hq;omega
 have Q:=Mu.le_set (L:=⟨L.block,L.base+o,L.total-o⟩) hf;have I:(h.kill (some (.new i o))).blks.size=h.blks.size:=by simp[AH.kill]
 have al:=S.place i L Y
 have ad:∀j b,((h.kill (some (.new i o))).alloc (.cells cs e)).blks[j]?=some b->(j=h.blks.size/\b=.cells cs e)\/(j≠h.blks.size/\j=i/\b=.dead)\/(j≠h.blks.size/\j≠i/\h.blks[j]?=some b):=λj b F=>by
  simp only[Array.getElem?_push,I]at F;by_cases C:j=h.blks.size
  ·simp[C]at F;exact .inl ⟨C,F.symm⟩
  ·rw[if_neg C]at F;by_cases U:i=j
   ·subst U;simp[AH.kill,hi]at F;exact .inr (.inl ⟨C,rfl,F.symm⟩)
   ·simp only[AH.kill]at F;rw[Array.getElem?_setIfInBounds_ne U]at F;exact .inr (.inr ⟨C,λe=>U e.symm,F⟩)
 have y:∀j,j≠h.blks.size->Live ((h.kill (some (.new i o))).alloc (.cells cs e)) j->Live h j/\j≠i:=λj C hl=>by
  have ae:j≠i:=λX=>by
   subst X;exact absurd rfl (hl .dead (by simp only[Array.getElem?_push,I,if_neg C];simp[AH.kill,hi]))
  refine⟨λb V=>hl b ?_,ae⟩;simp only[Array.getElem?_push,I,if_neg C];simp only[AH.kill];rw[Array.getElem?_setIfInBounds_ne (λe=>ae e.symm)];exact V
 refine⟨{old:=S.old,os:=ak.trans S.os,tape:=Z.trans S.tape,output:=ac.trans S.output,base:=by rw[H];exact S.base,keep:=λb V=>?_,dom:=λj M A=>?_,place:=λj M A=>?_,blk:=λj M b A V=>?_,inj:=λj k M N A hN lj lk X=>?_},?_,?_⟩
 ·rw[K b (by omega)];exact S.keep b V
 ·unfold Mu.set at A;split at A
  ·subst_vars;simp[I]
  ·have:=S.dom j M A;simp[I];omega
 ·unfold Mu.set at A;split at A
  ·cases A;rw[H];exact al
  ·rw[H];exact S.place j M A
 ·rcases ad j b V with⟨C,rfl⟩ | ⟨C,_,rfl⟩ | ⟨C,U,af⟩
  ·subst C;rw[kfk]at A;cases A;exact⟨⟨c',aa,by rw[ah];simp only[];omega,ai,λk v hk=>let ⟨u,a,b⟩:=aj k v hk;⟨u,a,b.mono Q⟩⟩,h1⟩
  ·trivial
  ·unfold Mu.set at A;rw[if_neg C]at A;refine(S.blk j M b A af).step Q λhd=>K _ λX=>U (S.inj j i M L A Y (λb' ag=>by rw[af]at ag;cases ag;exact hd) (ke3 hb) X)
 ·unfold Mu.set at A hN;split at A<;>split at hN
  ·omega
  ·rename_i C hk;cases A;exact absurd (S.inj i k L N Y hN (ke3 hb) (y k hk lk).1 X) (λe=>(y k hk lk).2 e.symm)
  ·rename_i C hk;cases hN;exact absurd (S.inj j i M L A Y (y j C lj).1 (ke3 hb) X) (y j C lj).2
  ·rename_i C hk;exact S.inj j k M N A hN (y j C lj).1 (y k hk lk).1 X
 ·refine⟨by simp[I],Q,λj C=>by unfold Mu.set;rw[if_neg (by omega)],λj C hl=>(y j (by omega) hl).1,λj M h2 h3 A=>.inr ⟨i,L,hi,ke3 hb,Y,?_⟩⟩;simp[I]at h3;have:j=h.blks.size:=by omega
  subst this;rw[kfk]at A;cases A;rfl
 ·exact⟨by omega,λb _ hn=>K b λX=>hn i L hi (ke3 hb) Y X.symm⟩
theorem kzo{h:AH}:∀{n:Nat}{r:Ref}{vs:List AV},h.gets r n=some vs->vs.length=n
 | 0,r,vs,y=>by simp only[AH.gets,qca]at y;subst y;rfl
 | n+1,r,vs,y=>by
  simp only[AH.gets,qbu,Option.map_eq_some_iff]at y;obtain⟨v,h1,ws,A,rfl⟩:=y;simp[kzo A]
theorem VRel.slice_open{μ:Mu}{r:Option Ref}{n:Nat}{c:Cap}{u:Value}(h:VRel μ (.slice r n c) u):∃base cap,u=.slice base n cap/\n<=cap:=by
 cases r with
 | none=>simp only[VRel]at h;obtain⟨rfl,_,rfl⟩:=h;exact⟨none,0,rfl,qbp _⟩
 | some r=>simp only[VRel]at h;obtain⟨a,k,rfl,_,y⟩:=h;exact⟨some a,k,rfl,by cases c<;>exact y.1⟩
theorem kbdv{μ:Mu}{h:AH}{w:World}(S:Sim P O μ h w){y cs:List AV}{A us rest:List Value}(H:VRels μ y A)(h1:y.all AV.one=true)(I:VRels μ cs us)(K:cs.all AV.one=true)(e:TypeId){need cap size:Nat}
  (C:need<=cap) (F:rest.length=(cap-need)*size) (X:A.length+us.length=need*size) :
  Good P O μ h w (.slice (some h.next) need (.opn size)) (h.alloc (.cells (y++cs) e)) (.slice (some ⟨w.heap.size,0,none⟩) need cap) (w.drew.alloc (.cells ((A++us)++rest).toArray e)):=by
 obtain⟨Q,U,V⟩:=kpw (rest:=rest) S.drew (H.append I) (by rw[List.all_append,h1,K];rfl) e;refine⟨_,?_,Q,U,V⟩;simp only[VRel];refine⟨_,cap,rfl,.inr (RRel.new 0),C,_,0,_,rfl,kfk _ _ _,?_⟩;have:(cap-need)*size+need*size=cap*size:=by rw[<- Nat.add_mul];congr 1;omega
 simp;omega
theorem kbch{μ:Mu}{h:AH}{w:World}(S:Sim P O μ h w){ts:Array TypeId}{ty t t' e f:TypeId}(h0:ts[0]?=some t)(h1:ts[1]?=some t')(hd:P.underlying t=some (.slice e))(K:P.underlying t'=some (.slice f))
  (bc:(P.info? e).isSome=true) {r:Option Ref} {n:Nat} {c:Cap} {x:AV} {u ux:Value} (C:VRel μ (.slice r n c) u) (hx:VRel μ x ux) {p:List AV×Nat} (hp:kbh P e x h=some p)
  {v:AV} {h':AH} (H:kv P ⟨r,n,c⟩ p.1 p.2 e (P.cellsOf e) h=some (v,h')):Yields P (Builtin.append_ ts ty #[u,ux]) w (Good P O μ h w v h'):=by
 obtain⟨ie,hi⟩:=Option.isSome_iff_exists.1 bc;have hs:(sizeOf e).run P w=.ok (P.cellsOf e) w:=by simp[sizeOf,typeInfo,hi,Program.cellsOf]
 unfold kbh at hp;split at hp
 ·rename_i r2 m c2;simp only[Option.map_eq_some_iff]at hp;obtain⟨cs,hg,rfl⟩:=hp
  have F:(Builtin.lenOf ux).run P w=.ok m w:=by
   obtain⟨_,_,rfl,_⟩:=hx.slice_open;rfl
  obtain⟨A,n1,n2,n3,n4⟩:=kl1 S hx (qbp _) hg;obtain⟨bj,d1,d2,d3,d4⟩:=kl1 S.drew hx (qbp _) hg;obtain⟨base,cap,rfl,bd⟩:=C.slice_open
  have grow:∀{h2:AH},Sim P O μ h2 w->cap<n+m->growOk P (n+m) e (P.cellsOf e)=true->∀{old:List AV},h.getsO r (n*P.cellsOf e)=some old->
    Yields P (Builtin.append_ ts ty #[.slice base n cap,ux]) w (Good P O μ h2 w (.slice (some h2.next) (n+m) (.opn (P.cellsOf e))) (h2.alloc (.cells (old++cs) e))):=by
   intro h2 S2 Q X old y;obtain⟨ap,o1,o2,o3,o4⟩:=kl1 S.drew C (qbp _) y;obtain⟨bk,rest,k1,k2,k3⟩:=kbfi (μ:=μ) (ty:=ty) h0 h1 hd K rfl F Q X o2 d2;exact⟨_,_,k3,kbdv S2 o3 o4 d3 d4 e k1 k2 (by rw[o1,d1,Nat.add_mul])⟩
  unfold kv at H;dsimp only at H;split at H
  ·rename_i c';rcases kck H with⟨Y,H⟩ | ⟨Y,H⟩
   ·
    have Y:=Nat.le_of_ble_eq_true Y;cases r with
    | none =>
     simp only[qca,qcb]at H;obtain⟨rfl,rfl⟩:=H;simp only[VRel]at C;obtain⟨rfl,h2,h3⟩:=C;cases h2;cases h3;have:m=0:=by omega
     subst this;refine⟨_,_,?_,qd S (u:=.slice none 0 0) (by simp[VRel])⟩;simp[Builtin.append_,h0,h1,run_underlying hd,run_underlying K,hs,F,n2]
    | some r =>
     simp only[qbu,qca,qcb]at H;obtain⟨h2,ag,rfl,rfl⟩:=H;simp only[VRel]at C;obtain⟨a,k,he,ah,be,rfl⟩:=C;cases he;rcases ah with aq | ae
     ·have ai:m=0:=by omega
      have bf:n=0:=by omega
      subst ai;subst bf;subst aq;have Z:A=[]:=List.eq_nil_of_length_eq_zero (by omega);subst Z
      have bg:cs=[]:=by
       have:=n3.length;exact List.eq_nil_of_length_eq_zero this.symm
      subst bg;simp only[AH.puts,qca]at ag;subst ag;refine⟨.slice (some a) 0 0,w,?_,qd S (by simp only[VRel];exact⟨a,0,rfl,.inl rfl,qbp _,rfl⟩)⟩;simp[Builtin.append_,h0,h1,run_underlying hd,run_underlying K,hs,F,n2,storeCells]
     ·obtain⟨w',e1,e2,e3,e4⟩:=kn8 (i:=0) (a:=a.add (n*P.cellsOf e)) S (by rw[show(a.add (n*P.cellsOf e)).add 0=a.add (n*P.cellsOf e)from by simp[Addr.add]];exact ae.add (n*P.cellsOf e)) n3 n4 ag;refine⟨.slice (some a) (n+m) cap,w',?_,μ,by simp only[VRel];exact⟨a,cap,rfl,.inr ae,Y,rfl⟩,e2,e3,e4⟩;simp[Builtin.append_,h0,h1,run_underlying hd,run_underlying K,hs,F,n2,Y,e1]
   ·obtain⟨X,H⟩:=kz H;simp only[qbu,qca,qcb]at H;obtain⟨old,y,rfl,rfl⟩:=H
    have Q:cap<n+m:=by
     have ar:cap=c':=by
      cases r with
      | none=>simp only[VRel]at C;obtain⟨_,h2,h3⟩:=C;cases h2;cases h3;rfl
      | some r=>simp only[VRel]at C;obtain⟨a,k,he,_,_,hk⟩:=C;cases he;exact hk
     subst ar;rcases Nat.lt_or_ge cap (n+m)with h' | h'
     ·exact h'
     ·rw[Nat.ble_eq_true_of_le h']at Y;cases Y
    exact grow S Q X y
  ·rename_i sz;rcases kck H with⟨Y,aa⟩ | ⟨Y,aa⟩
   ·have ai:=Nat.eq_of_beq_eq_true Y;subst ai;simp only[qca,qcb]at aa;obtain⟨rfl,rfl⟩:=aa;have Z:A=[]:=List.eq_nil_of_length_eq_zero (by omega);subst Z;refine⟨.slice base n cap,w,?_,qd S C⟩;cases base<;>simp[Builtin.append_,h0,h1,run_underlying hd,run_underlying K,hs,F,n2,storeCells,bd]
   ·obtain⟨af,U⟩:=kz aa;simp only[qb8]at af;obtain⟨aj,X⟩:=af;have aj:=Nat.eq_of_beq_eq_true aj;clear H aa;subst aj;split at U
    ·rename_i i o;split at U
     ·rename_i bs e' au;obtain⟨aw,ax⟩:=kz U;have ay:=Nat.eq_of_beq_eq_true aw;clear U aw;subst ay;simp only[qbu,qca,qcb]at ax;obtain⟨old,y,rfl,rfl⟩:=ax;obtain⟨S2,E2⟩:=kbfe S i o;have ak:(h.kill (some (.new i o))).blks.size=h.blks.size:=by simp[AH.kill]
      have al:(h.kill (some (.new i o))).next=h.next:=by simp[AH.next,ak]
      rcases Nat.lt_or_ge cap (n+m)with Q | am
      ·obtain⟨u',w',g1,ν,g2,g3,g4,g5⟩:=grow S2 Q X y;rw[al]at g2;refine⟨u',w',g1,ν,g2,g3,E2.trans g4 (qbp _),?_⟩;exact⟨g5.1,λb an hn=>g5.2 b an λj M V hl hM=>hn j M (by rw[ak]at V;exact V) (E2.2.2.2.1 j (by rw[ak]at V;exact V) hl) hM⟩
      ·
       simp only[VRel]at C;obtain⟨a,k,he,ah,be,i',o',L,bh,hL,bm⟩:=C;cases he;cases bh;simp only[AH.getsO]at y
       have bp:0<n+m:=by
        rcases Nat.eq_zero_or_pos m with h' | h'
        ·subst h';simp at Y
        ·omega
       rcases ah with aq | ae
       ·omega
       ·obtain⟨L',az,rfl⟩:=ae;rw[hL]at az;cases az;obtain⟨ap,o1,o2,o3,o4⟩:=kqk S _ (r:=.new i o) ⟨L,hL,rfl⟩ y;obtain⟨⟨cc,c1,c2,c3,c4⟩,c5⟩:=S.blk i L _ hL au;have a0:(n+m)*P.cellsOf e'<=cap*P.cellsOf e':=Nat.mul_le_mul_right _ am;rw[Nat.add_mul]at a0
        have ba:=run_storeCells_at P L.block (L.base+o+n*P.cellsOf e') e' A 0 cc w c1 (by omega) (λv hv=>by
         obtain⟨j,V⟩:=List.mem_iff_getElem?.1 hv
         have ac:j<cs.length:=by
          have:=n3.length;rcases Nat.lt_or_ge j cs.length with h' | h'
          ·exact h'
          ·rw[List.getElem?_eq_none (by omega)]at V;cases V
         obtain⟨u,C,ad⟩:=n3.get j cs[j] (by simp[ac]);rw[V]at C;cases C;exact ad.one (List.all_eq_true.1 n4 _ (by simp)))
        have bi:old.length=n*P.cellsOf e':=kzo y;have bn:cs.length=m*P.cellsOf e':=by have:=n3.length;omega
        simp only[Nat.add_zero]at ba
        obtain⟨g1,g2,g3⟩:=kbjq (o:=o) (w':=w.setRow L.block (cc.toList.take (L.base+o+n*P.cellsOf e')++A++cc.toList.drop (L.base+o+n*P.cellsOf e'+A.length)).toArray) S hL au
         (cs:=old++cs) (setRow_heap w _ cc _ e' (0,0) c1) (by simp;omega) (by omega) (by simp;omega) (λj v V=>by
          rcases Nat.lt_or_ge j old.length with ac | ac
          ·rw[List.getElem?_append_left ac]at V;obtain⟨u,C,ad⟩:=o3.get j v V;have I:=o2 j u C;rw[kua]at I;simp only[World.cell?,c1]at I;refine⟨u,?_,ad⟩;simp only[List.getElem?_toArray];rw[List.append_assoc,List.getElem?_append_left (by simp;omega),List.getElem?_take];rw[if_pos (by omega)]
           simpa using I
          ·rw[List.getElem?_append_right ac]at V;obtain⟨u,C,ad⟩:=n3.get _ v V;refine⟨u,?_,ad⟩;simp only[List.getElem?_toArray]
           have Q:j-old.length<A.length:=by
            rcases Nat.lt_or_ge (j-old.length) A.length with h' | h'
            ·exact h'
            ·rw[List.getElem?_eq_none h']at C;cases C
           rw[List.append_assoc,List.getElem?_append_right (by simp;omega),List.getElem?_append_left (by simp;omega)];rw[<- C];congr 1;simp;omega) (by rw[List.all_append,o4,n4];rfl) (λb an=>setRow_other w _ b _ an) (by simp) rfl rfl rfl
        refine⟨.slice (some ⟨L.block,L.base+o,none⟩) (n+m) cap,_,?_,_,?_,g1,g2,g3⟩
        ·have bb:(⟨L.block,L.base+o,none⟩:Addr).add (n*P.cellsOf e')=⟨L.block,L.base+o+n*P.cellsOf e',none⟩:=kua _ _ _;simp[Builtin.append_,h0,h1,run_underlying hd,run_underlying K,hs,F,n2,am,bb,ba]
        ·simp only[VRel];refine⟨_,cap,rfl,.inr (RRel.new (L:=⟨L.block,L.base+o,L.total-o⟩) 0),am,_,0,_,rfl,kfk _ _ _,?_⟩;simp only[];omega
     ·cases U
    ·cases U
 ·cases hp
end Go.Ab

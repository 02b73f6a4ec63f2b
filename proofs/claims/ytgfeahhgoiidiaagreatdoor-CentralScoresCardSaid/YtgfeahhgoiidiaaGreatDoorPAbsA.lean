/- Words and laws that the last text joins. -/
import Derived.Calls
import Derived.Orders
import Derived.KernelRfl
import Derived.Laws.Append
import Derived.Laws.CopyRow
import Derived.RangeFuncRecord
import Derived.WalkSpells
import Derived.ChangeKeysEq
import Derived.Laws.StructEq
import Derived.Laws.Tables
import Derived.Laws.MakeOwn
import Derived.Laws.BitsLemmas
set_option linter.unusedVariables false
set_option linter.unusedSimpArgs false
set_option linter.unusedSectionVars false
namespace Go.Ab
abbrev qbp:=@Nat.le_refl
abbrev qbq:=@Nat.le_trans
abbrev qbr:=@Nat.lt_of_lt_of_le
abbrev qbs:=@Nat.lt_of_le_of_lt
abbrev qbt:=@Option.bind_some
abbrev qbu:=@Option.bind_eq_some_iff
abbrev qbv:=@decide_eq_false_iff_not
abbrev qbw:=@decide_eq_true_eq
abbrev qbx:=@decide_eq_true
abbrev qby:=@decide_eq_false
abbrev qbz:=@of_decide_eq_true
abbrev qb0:=@List.length_append
abbrev qb1:=@List.length_map
abbrev qb2:=@List.length_cons
abbrev qb3:=@List.getElem_mem
abbrev qb4:=@List.getElem?_eq_getElem
abbrev qb5:=@List.mem_append
abbrev qb6:=@List.mem_cons
abbrev qb7:=@List.length_set
abbrev qb8:=@List.length_replicate
abbrev qb9:=@Bool.and_eq_true
abbrev qca:=@Bool.or_eq_true
abbrev qcb:=@Option.some.injEq
abbrev qcc:=@Prod.mk.injEq
abbrev qcd:=@Array.getElem?_eq_some_iff
abbrev qce:=@List.getElem?_eq_some_iff
abbrev qcf:=@List.length_take
abbrev qcg:=@List.drop_eq_getElem_cons
abbrev qch:=@List.take_succ_eq_append_getElem
abbrev qci:=@Bool.not_eq_true'
abbrev qcj:=@Bool.not_eq_false'
abbrev qck:=@List.mem_filter
abbrev qcl:=@List.length_range
abbrev qcm:=@List.mem_range
abbrev qcn:=@Bool.false_eq_true
inductive Ref where
 | old (a:Addr)
 | new (i off:Nat)
 deriving DecidableEq
def Ref.add:Ref->Nat->Ref
 | .old a,n=>.old (a.add n)
 | .new i o,n=>.new i (o+n)
inductive Cap where
 | is (c:Nat)
 | opn (size:Nat)
 deriving DecidableEq
inductive AV where
 | bool (b:Bool)
 | int (k:IntKind) (n:Int)
 | str (s:ByteArray)
 | ptr (r:Option Ref)
 | slice (r:Option Ref) (len:Nat) (cap:Cap)
 | map (r:Option Nat)
 | func (fn:Fn) (first captured:List AV)
 | nilFunc
 | iface (t:TypeId) (v:AV)
 | nilIface
 | agg (cs:List AV)
 | tup (vs:List AV)
structure Sl where
 ref:Option Ref
 len:Nat
 cap:Cap
 deriving DecidableEq
def Sl.v(s:Sl):AV:=.slice s.ref s.len s.cap
namespace AV
def asInt(k:IntKind):AV->Option Int
 | .int A n=>cond (decide (A=k)) (some n) none
 | _=>none
def asBool:AV->Option Bool
 | .bool b=>some b
 | _=>none
def asStr:AV->Option ByteArray
 | .str s=>some s
 | _=>none
def asPtr:AV->Option (Option Ref)
 | .ptr r=>some r
 | _=>none
def asSl:AV->Option Sl
 | .slice r n c=>some ⟨r,n,c⟩
 | _=>none
def asMap:AV->Option (Option Nat)
 | .map r=>some r
 | _=>none
def asAgg:AV->Option (List AV)
 | .agg cs=>some cs
 | _=>none
def one:AV->Bool
 | .agg _ | .tup _=>false
 | _=>true
def asTup0:AV->Option Unit
 | .tup []=>some ()
 | _=>none
def asTup2:AV->Option (AV×AV)
 | .tup [a,b]=>some (a,b)
 | _=>none
def asTup3:AV->Option (AV×AV×AV)
 | .tup [a,b,c]=>some (a,b,c)
 | _=>none
def asTup4:AV->Option (AV×AV×AV×AV)
 | .tup [a,b,c,d]=>some (a,b,c,d)
 | _=>none
def asIface:AV->Option (TypeId×AV)
 | .iface t v=>some (t,v)
 | _=>none
def ofCell:Value->Option AV
 | .bool b=>some (.bool b)
 | .int k n=>some (.int k n)
 | .string s=>some (.str s)
 | .pointer none=>some (.ptr none)
 | .pointer (some a)=>some (.ptr (some (.old a)))
 | .slice none n c=>cond (Nat.beq n 0&&Nat.beq c 0) (some (.slice none 0 (.is 0))) none
 | .slice (some a) n c=>cond (Nat.ble n c) (some (.slice (some (.old a)) n (.is c))) none
 | .map none=>some (.map none)
 | .nilFunc=>some .nilFunc
 | .nilIface=>some .nilIface
 | _=>none
def ofCells:List Value->Option (List AV)
 | []=>some []
 | v::vs=>match ofCell v,ofCells vs with
  | some x,some xs=>some (x::xs)
  | _,_=>none
def ofValue:Value->Option AV
 | .agg cs=>(ofCells cs.toList).map .agg
 | .tuple cs=>(ofCells cs.toList).map .tup
 | v=>ofCell v
end AV
structure AEnt where
 key:AV
 val:AV
 born:Nat
abbrev Fr:=List (Nat×AV)
inductive ABlk where
 | cells (cs:List AV) (elem:TypeId)
 | map (es:List AEnt) (clock:Nat)
 | loop (state:LoopState) (pending:Option Code) (fn:FuncId) (fr:Fr) (params:Array Tmp) (assign body:Code) (defers:Nat)
 | deferred
 | dead
structure AH where
 old:Array Obj
 blks:Array ABlk
def AH.cell(h:AH):Ref->Option AV
 | .old a=>match h.old[a.block]? with
  | some (.cells c _ _)=>if a.spot.isSome then none else(c[a.off]?).bind AV.ofCell
  | _=>none
 | .new i o=>match h.blks[i]? with
  | some (.cells cs _)=>cs[o]?
  | _=>none
def AH.put(h:AH)(r:Ref)(v:AV):Option AH :=
 match r with
 | .old _=>none
 | .new i o=>match h.blks[i]? with
  | some (.cells cs e)=>if o<cs.length then some {h with blks:=h.blks.setIfInBounds i (.cells (cs.set o v) e)}else none
  | _=>none
def AH.puts(h:AH)(r:Ref):List AV->Option AH
 | []=>some h
 | v::vs=>(h.put r v).bind λh'=>h'.puts (r.add 1) vs
def AH.gets(h:AH)(r:Ref):Nat->Option (List AV)
 | 0=>some []
 | n+1=>(h.cell r).bind λv=>(h.gets (r.add 1) n).map (v :: ·)
def AH.getsO(h:AH)(r:Option Ref)(n:Nat):Option (List AV) :=
 match r with
 | some r=>h.gets r n
 | none=>some []
@[reducible] def AH.alloc(h:AH)(b:ABlk):AH:={h with blks:=h.blks.push b}
@[reducible] def AH.next(h:AH):Ref:=.new h.blks.size 0
def AH.kill(h:AH):Option Ref->AH
 | some (.new i _)=>{h with blks:=h.blks.setIfInBounds i .dead}
 | _=>h
namespace Fr
def get:Fr->Nat->Option AV
 | [],_=>none
 | (s,v)::r,t=>cond (Nat.beq s t) (some v) (get r t)
def keep(fr:Fr):List Nat->Fr
 | []=>[]
 | t::ts=>match get fr t with
  | some v=>(t,v)::keep fr ts
  | none=>keep fr ts
end Fr
def evO(fr:Fr):Operand->Option AV
 | .tmp t=>fr.get t
 | .const v=>AV.ofValue v
 | .global g=>some (.ptr (some (.old ⟨g,0,none⟩)))
 | .func f=>some (.func (.func f) [] [])
def evs(fr:Fr):List Operand->Option (List AV)
 | []=>some []
 | x::xs=>match evO fr x,evs fr xs with
  | some v,some vs=>some (v::vs)
  | _,_=>none
inductive Leaf where
 | int (k:IntKind) | bool | str | slice | ptr | map | any
def leafOf:TypeDesc->Option Leaf
 | .int k=>some (.int k)
 | .bool=>some .bool
 | .string=>some .str
 | .slice _=>some .slice
 | .pointer _=>some .ptr
 | .map _ _=>some .map
 | .func ..=>some .any
 | .interface _=>some .any
 | _=>none
def repL(l:List Leaf):Nat->List Leaf
 | 0=>[]
 | n+1=>l++repL l n
def leaves(P:Program):Nat->TypeId->Option (List Leaf)
 | 0,_=>none
 | d+1,t=>match P.underlying t with
  | some (.struct fs)=>fs.toList.foldr (λf A=>match leaves P d f.type,A with
    | some l,some r=>some (l++r)
    | _,_=>none) (some [])
  | some (.array n e)=>(leaves P d e).map λl=>repL l n
  | some x=>(leafOf x).map λl=>[l]
  | none=>none
def isIfcD:TypeDesc->Bool
 | .interface _=>true
 | _=>false
def isAggD:TypeDesc->Bool
 | .struct _ | .array _ _=>true
 | _=>false
section
variable{R:Type}
def leafK(l:Leaf)(x:Option AV)(k:AV->Option R):Option R :=
 match l with
 | .int kd=>(x.bind (AV.asInt kd)).bind λn=>k (.int kd n)
 | .bool=>(x.bind AV.asBool).bind λb=>k (.bool b)
 | .str=>(x.bind AV.asStr).bind λs=>k (.str s)
 | .slice=>(x.bind AV.asSl).bind λs=>k (.slice s.ref s.len s.cap)
 | .ptr=>(x.bind AV.asPtr).bind λr=>k (.ptr r)
 | .map=>(x.bind AV.asMap).bind λr=>k (.map r)
 | .any=>x.bind k
def kd3(get:Nat->Option AV):List Leaf->Nat->(List AV->Option R)->Option R
 | [],_,k=>k []
 | l::ls,i,k=>leafK l (get i) λv=>kd3 get ls (i+1) λvs=>k (v::vs)
def loadK(P:Program)(t:TypeId)(r:Ref)(h:AH)(k:AV->Option R):Option R :=
 match P.underlying t with
 | some d=>cond (isAggD d)
   (match leaves P 20 t with
    | some ls=>cond (Nat.beq ls.length (P.cellsOf t)) (kd3 (λi=>h.cell (r.add i)) ls 0 λvs=>k (.agg vs)) none
    | none=>none)
   (match leafOf d with
    | some l=>leafK l (h.cell r) k
    | none=>none)
 | none=>none
def seeK(P:Program)(t:TypeId)(v:AV)(k:AV->Option R):Option R :=
 match P.underlying t with
 | some d=>cond (isAggD d)
   (match leaves P 20 t with
    | some ls=>v.asAgg.bind λcs=>cond (Nat.beq cs.length ls.length) (kd3 (λi=>cs[i]?) ls 0 λvs=>k (.agg vs)) none
    | none=>none)
   (match leafOf d with
    | some l=>leafK l (some v) k
    | none=>none)
 | none=>none
def khl(P:Program)(t:TypeId)(v:AV)(k:AV->Option R):Option R :=
 match P.underlying t with
 | some (.tuple ts)=>match ts.toList with
  | []=>(v.asTup0).bind λ_=>k (.tup [])
  | [a,b]=>(v.asTup2).bind λp=>seeK P a p.1 λx=>seeK P b p.2 λy=>k (.tup [x,y])
  | [a,b,c]=>(v.asTup3).bind λp=>seeK P a p.1 λx=>seeK P b p.2.1 λy=>seeK P c p.2.2 λz=>k (.tup [x,y,z])
  | [a,b,c,d]=>(v.asTup4).bind λp=>seeK P a p.1 λx=>seeK P b p.2.1 λy=>seeK P c p.2.2.1 λz=>seeK P d p.2.2.2 λu=>k (.tup [x,y,z,u])
  | _=>none
 | _=>seeK P t v k
def cellsK(P:Program)(t:TypeId)(v:AV)(k:List AV->Option R):Option R :=
 match P.underlying t with
 | some d=>cond (isAggD d) (v.asAgg.bind λcs=>cond (Nat.beq cs.length (P.cellsOf t)) (k cs) none) (cond (Nat.beq (P.cellsOf t) 1) (cond v.one (k [v]) none) none)
 | none=>none
def iand(k:IntKind)(a b:Int):Int:=k.wrap ((BitVec.ofInt k.bits a&&&BitVec.ofInt k.bits b).toNat:Int)
def ior(k:IntKind)(a b:Int):Int:=k.wrap ((BitVec.ofInt k.bits a|||BitVec.ofInt k.bits b).toNat:Int)
def ixor(k:IntKind)(a b:Int):Int:=k.wrap ((BitVec.ofInt k.bits a ^^^ BitVec.ofInt k.bits b).toNat:Int)
def kk8(k:IntKind)(a b:Int):Int:=k.wrap ((BitVec.ofInt k.bits a&&&~~~ BitVec.ofInt k.bits b).toNat:Int)
def ishl(k:IntKind)(a b:Int):Int:=k.wrap (a*2^(min b.toNat k.bits))
def ishr(k:IntKind)(a b:Int):Int:=a.fdiv (2^(min b.toNat k.bits))
def high0:Nat:=0
def high1:Nat:=high0
def high2:Nat:=high1
def high3:Nat:=high2
def condH{A:Type}(b:Bool)(x y:A):A:=(λ(_:Nat)=>match b with
 | true=>x
 | false=>y) high3
def takeH{A B:Type}(o:Option A)(k:A->Option B):Option B:=(λ(_:Nat)=>match o with
 | some a=>k a
 | none=>none) high3
theorem kjk{A B:Type}(o:Option A)(k:A->Option B):takeH o k=o.bind k:=by cases o<;>rfl
theorem keb{A:Type}(b:Bool)(x y:A):condH b x y=cond b x y:=by cases b<;>rfl
def intK(op:BinOp)(kd:IntKind)(a b:Int)(k:AV->Option R):Option R :=
 match op with
 | .add=>k (.int kd (kd.wrap (a+b)))
 | .sub=>k (.int kd (kd.wrap (a-b)))
 | .mul=>k (.int kd (kd.wrap (a*b)))
 | .quo=>cond (decide (b=0)) none (k (.int kd (kd.wrap (a.tdiv b))))
 | .rem=>cond (decide (b=0)) none (k (.int kd (a.tmod b)))
 | .and=>k (.int kd (iand kd a b))
 | .or=>k (.int kd (ior kd a b))
 | .xor=>k (.int kd (ixor kd a b))
 | .andNot=>k (.int kd (kk8 kd a b))
 | .eql=>k (.bool (decide (a=b)))
 | .neq=>k (.bool (!decide (a=b)))
 | .lss=>k (.bool (decide (a<b)))
 | .leq=>k (.bool (decide (a<=b)))
 | .gtr=>k (.bool (decide (a>b)))
 | .geq=>k (.bool (decide (a>=b)))
 | .shl | .shr=>none
def eqCell:AV->AV->Option Bool
 | .int k a,.int A b=>cond (decide (k=A)) (some (decide (a=b))) none
 | .bool a,.bool b=>some (a==b)
 | .str a,.str b=>some (a.toList==b.toList)
 | .slice r _ _,.slice none _ _=>some r.isNone
 | .ptr r,.ptr none=>some r.isNone
 | .map r,.map none=>some r.isNone
 | .nilFunc,.nilFunc=>some true
 | .func _ _ _,.nilFunc=>some false
 | _,_=>none
def fits:AV->TypeDesc->Bool
 | .slice _ _ _,.slice _=>true
 | .ptr _,.pointer _=>true
 | .map _,.map _ _=>true
 | .nilFunc,.func _ _ _=>true
 | .func _ _ _,.func _ _ _=>true
 | .bool _,.bool=>true
 | .int _ _,.int _=>true
 | .str _,.string=>true
 | _,_=>false
def partA(P:Program)(t:TypeId)(cs:List AV)(off:Nat):Option AV :=
 match P.underlying t with
 | some d=>cond (isAggD d) (cond (Nat.ble (off+P.cellsOf t) cs.length) (some (.agg ((cs.drop off).take (P.cellsOf t)))) none) cs[off]?
 | none=>none
def eqFs(P:Program)(A:TypeId->AV->AV->Option Bool)(xs ys:List AV):List Field->Option Bool
 | []=>some true
 | f::fs=>cond (f.name == "_") none ((partA P f.type xs f.offset).bind λa=>(partA P f.type ys f.offset).bind λb=>(A f.type a b).bind λr=>(eqFs P A xs ys fs).map λs=>r&&s)
def eqIs(P:Program)(A:AV->AV->Option Bool)(e:TypeId)(xs ys:List AV):List Nat->Option Bool
 | []=>some true
 | i::is=>(partA P e xs (i*P.cellsOf e)).bind λa=>(partA P e ys (i*P.cellsOf e)).bind λb=>(A a b).bind λr=>(eqIs P A e xs ys is).map λs=>r&&s
def isStr:AV->Bool
 | .str _=>true
 | _=>false
def eqD(P:Program):Nat->TypeId->AV->AV->Option Bool
 | 0,_,_,_=>none
 | d+1,t,x,y=>match P.underlying t with
  | some (.struct fs)=>match x,y with
   | .agg xs,.agg ys=>cond (P.stoodInHeld t) none (eqFs P (eqD P d) xs ys fs.toList)
   | _,_=>none
  | some (.array n e)=>match P.underlying e,x,y with
   | some _,.agg xs,.agg ys=>eqIs P (eqD P d e) e xs ys (List.range n)
   | _,_,_=>none
  | some dd=>cond (isStr x) none (cond (fits x dd) (eqCell x y) none)
  | none=>none
def eqAV(P:Program)(t:TypeId)(x y:AV):Option Bool :=
 match x,y with
 | .agg _,.agg _=>cond (P.eqGuardType P.depth t) none (eqD P 20 t x y)
 | x,y=>match P.underlying t with
  | some d=>cond (isAggD d) none (cond (fits x d) (eqCell x y) none)
  | none=>none
def binK(P:Program)(op:BinOp)(t:TypeId)(x y:AV)(k:AV->Option R):Option R :=
 match op,x,y with
 | .shl,.int kd a,.int _ b=>condH (decide (b<0)) none (k (.int kd (ishl kd a b)))
 | .shr,.int kd a,.int _ b=>condH (decide (b<0)) none (k (.int kd (ishr kd a b)))
 | op,.int kd a,.int A b=>condH (decide (kd=A)) (intK op kd a b k) none
 | .eql,x,y=>(eqAV P t x y).bind λb=>k (.bool b)
 | .neq,x,y=>(eqAV P t x y).bind λb=>k (.bool (!b))
 | _,_,_=>none
def unK(op:UnOp)(x:AV)(k:AV->Option R):Option R :=
 match op,x with
 | .neg,.int kd n=>k (.int kd (kd.wrap (0-n)))
 | .xor,.int kd n=>k (.int kd (ixor kd (cond kd.signed (-1) kd.max) n))
 | .not,.bool b=>k (.bool (!b))
 | _,_=>none
def splice(cells:List AV)(off:Nat)(vs:List AV):List AV:=cells.take off++vs++cells.drop (off+vs.length)
def fillK(P:Program)(place:Nat->Option (Nat×TypeId)):List (Nat×AV)->List AV->(List AV->Option R)->Option R
 | [],cells,k=>k cells
 | (i,v)::rest,cells,k=>match place i with
  | none=>none
  | some (off,t)=>cellsK P t v λcs=>cond (Nat.ble (off+cs.length) cells.length) (fillK P place rest (splice cells off cs) k) none
def kch(P:Program)(t:TypeId):Option (List AV) :=
 match P.info? t with
 | some i=>match i.zero with
  | some z=>AV.ofCells z.cells.toList
  | none=>none
 | none=>none
def repC(l:List AV):Nat->List AV
 | 0=>[]
 | n+1=>l++repC l n
def idx(r:Option Ref)(len:Nat)(i:Int)(size:Nat):Option Ref :=
 match r with
 | some r=>cond (decide (0<=i/\i<(len:Int))) (some (r.add (i.toNat*size))) none
 | none=>none
def cutSl(s:Sl)(l h:Int)(size:Nat):Option Sl :=
 match s.cap with
 | .is c=>cond (decide (0<=l/\l<=h/\h<=(c:Int)))
   (some {ref:=if c=l.toNat then s.ref else s.ref.map (·.add (l.toNat*size)),len:=h.toNat-l.toNat,cap:=.is (c-l.toNat)}) none
 | .opn sz=>cond (Nat.beq sz size) (cond (decide (0<=l/\l<=h/\h<=(s.len:Int)))
   (some {ref:=s.ref.map (·.add (l.toNat*size)),len:=h.toNat-l.toNat,cap:=.opn sz}) none) none
def cutSl3(s:Sl)(l h m:Int)(size:Nat):Option Sl :=
 match s.cap with
 | .is c=>cond (decide (0<=l/\l<=h/\h<=m/\m<=(c:Int)))
   (some {ref:=if m.toNat=l.toNat then s.ref else s.ref.map (·.add (l.toNat*size)),len:=h.toNat-l.toNat,cap:=.is (m.toNat-l.toNat)}) none
 | .opn _=>cond (decide (0=l/\h=0/\m=0)) (some {ref:=s.ref,len:=0,cap:=.is 0}) none
def ks:Nat:=70368744177664
def growOk(P:Program)(need:Nat)(elem:TypeId)(size:Nat):Bool :=
 decide (need*P.bytesOf elem<=ks/\need<=ks)&&(match kch P elem with | some zs=>Nat.beq zs.length size | none=>false)
def kv(P:Program)(s:Sl)(cs:List AV)(n:Nat)(elem:TypeId)(size:Nat)(h:AH):Option (AV×AH) :=
 match s.cap with
 | .is c=>cond (Nat.ble (s.len+n) c)
   (match s.ref with
    | some r=>(h.puts (r.add (s.len*size)) cs).bind λh'=>some (.slice (some r) (s.len+n) (.is c),h')
    | none=>some (.slice none 0 (.is 0),h))
   (cond (growOk P (s.len+n) elem size)
    ((h.getsO s.ref (s.len*size)).bind λold=>some (.slice (some h.next) (s.len+n) (.opn size),h.alloc (.cells (old++cs) elem))) none)
 | .opn sz=>cond (Nat.beq n 0) (some (.slice s.ref s.len (.opn sz),h))
   (cond (Nat.beq sz size&&growOk P (s.len+n) elem size)
    (match s.ref with
     | some (.new i o)=>match h.blks[i]? with
      | some (.cells bs e)=>cond (Nat.beq e elem)
        ((h.getsO s.ref (s.len*size)).bind λold=>some (.slice (some h.next) (s.len+n) (.opn size),(h.kill s.ref).alloc (.cells (old++cs) elem))) none
      | _=>none
     | _=>none) none)
end
end Go.Ab
namespace Go.Ab
inductive Key where
 | fn (f:FuncId) (args:List AV)
 | pt (f:FuncId) (todo:List Item) (fr:Fr)
 | round (l:Nat) (args:List AV)
 | rpt (l:Nat) (f:FuncId) (todo:List Item) (fr:Fr)
abbrev Rec:=Key->AH->Option (AV×AH)
section
variable{R:Type}
def imin(a b:Int):Int:=cond (decide (b<a)) b a
def imax(a b:Int):Int:=cond (decide (a<b)) b a
def prim(name:String)(args:List AV):Option AV :=
 match args with
 | [.int _ x,.int _ y,.int _ c] =>
  cond (name == "math/bits.Add64")
   (cond (decide (0<=x/\0<=y/\0<=c/\c<=1)) (some (.tup [.int .u64 ((x+y+c)%18446744073709551616),.int .u64 ((x+y+c)/18446744073709551616)])) none)
   (cond (name == "math/bits.Sub64")
    (cond (decide (0<=x/\0<=y/\y<18446744073709551616/\0<=c/\c<=1)) (some (.tup [.int .u64 ((x-y-c)%18446744073709551616),.int .u64 (cond (decide (x<y+c)) 1 0)])) none) none)
 | _=>none
def callF(P:Program)(rec:Rec)(f:FuncId)(args:List AV)(h:AH):Option (AV×AH) :=
 match P.funcs[f]? with
 | some fn=>cond (fn.name == "runtime.NumGoroutine") none (match fn.body with
  | some _=>rec (.fn f args) h
  | none=>cond (fn.origin == "") ((prim fn.name args).map λv=>(v,h)) none)
 | none=>none
def callV(P:Program)(rec:Rec)(v:AV)(args:List AV)(h:AH):Option (AV×AH) :=
 match v with
 | .func (.func f) first captured=>callF P rec f (first++args++captured) h
 | _=>none
def lenK(P:Program)(t:TypeId)(x:AV)(k:AV->Option R):Option R :=
 match P.underlying t,x with
 | some .string,.str s=>k (.int .i64 (s.size:Int))
 | some (.array n _),_=>k (.int .i64 (n:Int))
 | some (.slice _),.slice _ n _=>k (.int .i64 (n:Int))
 | _,_=>none
def kbg(P:Program)(elem:TypeId)(x:AV)(h:AH):Option (List AV×Nat) :=
 match x with
 | .slice r n _=>(h.getsO r (n*P.cellsOf elem)).map λcs=>(cs,n)
 | _=>none
def copyH(s d:Sl)(size:Nat)(h:AH):Option AH :=
 match d.ref,s.ref with
 | some rd,some rs=>(h.gets rs (min s.len d.len*size)).bind λcs=>h.puts rd cs
 | _,_=>some h
def kgo(P:Program)(b:Builtin)(ts:List TypeId)(xs:List AV)(h:AH)(k:AV->AH->Option R):Option R :=
 match b,ts,xs with
 | .len,t::_,[x]=>lenK P t x λv=>k v h
 | .min,_,[.int kd a,.int _ b]=>k (.int kd (imin a b)) h
 | .max,_,[.int kd a,.int _ b]=>k (.int kd (imax a b)) h
 | .append,t::u::_,[.slice r n c,x]=>match P.underlying t,P.underlying u with
  | some (.slice e),some (.slice _)=>cond (P.info? e).isSome ((kbg P e x h).bind λp =>
    (kv P ⟨r,n,c⟩ p.1 p.2 e (P.cellsOf e) h).bind λq=>leafK .slice (some q.1) λv=>k v q.2) none
  | _,_=>none
 | .copy,t::_,[.slice r n c,.slice C A F]=>match P.underlying t with
  | some (.slice e)=>cond (P.info? e).isSome ((copyH ⟨C,A,F⟩ ⟨r,n,c⟩ (P.cellsOf e) h).bind λh'=>k (.int .i64 ((min A n:Nat):Int)) h') none
  | _=>none
 | _,_,_=>none
def kjz(P:Program)(t:TypeId)(name:String)(v:AV)(h:AH)(k:FuncId->AV->Option R):Option R :=
 match P.info? t with
 | some i=>match i.methods.find? (λm=>m.name==name)with
  | some m=>cond m.path.isEmpty (match m.func,P.underlying t,v with
   | some (f,true),some (.pointer _),v=>k f v
   | some (f,false),some (.pointer e),.ptr (some r)=>loadK P e r h λu=>k f u
   | _,_,_=>none) none
  | none=>none
 | none=>none
def callK(P:Program)(rec:Rec)(c:Call)(ty:TypeId)(fr:Fr)(h:AH)(k:AV->AH->Option R):Option R :=
 match evs fr c.args.toList with
 | none=>none
 | some xs=>match c.callee with
  | .builtin b=>kgo P b c.argTypes.toList xs h k
  | .value f=>match evO fr f with
   | some v=>(callV P rec v xs h).bind λq=>khl P ty q.1 λv=>k v q.2
   | none=>none
  | .invoke r name=>match evO fr r with
   | some v=>v.asIface.bind λp=>kjz P p.1 name p.2 h λf u=>(callF P rec f (u::xs) h).bind λq=>khl P ty q.1 λv=>k v q.2
   | none=>none
def boundK(fr:Fr)(x:Option Operand)(A:Int)(k:Int->Option R):Option R :=
 match x with
 | none=>k A
 | some o=>match evO fr o with
  | some (.int _ n)=>k n
  | _=>none
def sliceK(P:Program)(t:TypeId)(x:AV)(fr:Fr)(lo hi C:Option Operand)(k:AV->Option R):Option R :=
 match P.underlying t,x with
 | some (.slice e),.slice r n c=>boundK fr lo 0 λl=>boundK fr hi (n:Int) λA=>match C with
  | none=>cond (P.info? e).isSome ((cutSl ⟨r,n,c⟩ l A (P.cellsOf e)).bind λs=>k s.v) none
  | some m=>cond ((P.info? e).isSome&&hi.isSome) (boundK fr (some m) 0 λF=>(cutSl3 ⟨r,n,c⟩ l A F (P.cellsOf e)).bind λs=>k s.v) none
 | some (.array n e),.ptr (some r)=>boundK fr lo 0 λl=>boundK fr hi (n:Int) λA=>match C with
  | none=>cond (P.info? e).isSome ((cutSl ⟨some r,n,.is n⟩ l A (P.cellsOf e)).bind λs=>k s.v) none
  | some _=>none
 | some .string,.str s=>boundK fr lo 0 λl=>boundK fr hi (s.size:Int) λA=>match C with
  | none=>cond (decide (0<=l/\l<=A/\A<=(s.size:Int))) (k (.str (s.extract l.toNat A.toNat))) none
  | some _=>none
 | _,_=>none
def kkc(P:Program)(A dst:TypeId)(x:AV)(k:AV->Option R):Option R :=
 match P.underlying A,P.underlying dst,x with
 | some (.int _),some (.int kd),.int _ n=>k (.int kd (kd.wrap n))
 | some .string,some .string,.str s=>k (.str s)
 | _,_,_=>none
def ko5(P:Program)(t:TypeId)(f:Nat):Option Field :=
 match P.underlying t with
 | some (.struct fs)=>fs.toList[f]?
 | _=>none
def kqs(P:Program)(A:Array Field):Option (List (Nat×Nat)):=A.toList.mapM λf=>(P.info? f.type).map λi=>(f.offset,i.size)
def kby(l c:Int)(elem:TypeId)(bytes:Nat)(zs:List AV)(h:AH):Option (Sl×AH):=cond (decide (0<=l/\l<=c/\c<=(ks:Int)/\c*bytes<=(ks:Int))) (some (⟨some h.next,l.toNat,.is c.toNat⟩,h.alloc (.cells (repC zs c.toNat) elem))) none
def aggK(P:Program)(t:TypeId)(v:AV)(k:AV->Option R):Option R:=match P.underlying t with
 | some d=>cond (isAggD d) (seeK P t v k) (k v)
 | none=>none
def opK(P:Program)(rec:Rec)(o:Op)(ty:TypeId)(fr:Fr)(h:AH)(k:AV->AH->Option R):Option R :=
 match o with
 | .move x | .assign x=>takeH (evO fr x) λv=>k v h
 | .pick c a b=>match evO fr c with
  | some (.bool t)=>cond t ((evO fr a).bind λv=>k v h) ((evO fr b).bind λv=>k v h)
  | _=>none
 | .alloc t=>match kch P t with
  | some zs=>k (.ptr (some h.next)) (h.alloc (.cells zs t))
  | none=>none
 | .box t x=>(evO fr x).bind λv=>cellsK P t v λcs=>k (.ptr (some h.next)) (h.alloc (.cells cs t))
 | .build t parts=>match evs fr (parts.toList.map (·.2)),kch P t,P.underlying t with
  | some vs,some zs,some (.struct fs)=>cond (kqs P fs).isSome (fillK P (λi=>(fs.toList[i]?).map λf=>(f.offset,f.type)) ((parts.toList.map (·.1)).zip vs) zs λcs=>k (.agg cs) h) none
  | some vs,some zs,some (.array _ e)=>cond (P.info? e).isSome (fillK P (λi=>some (i*P.cellsOf e,e)) ((parts.toList.map (·.1)).zip vs) zs λcs=>k (.agg cs) h) none
  | _,_,_=>none
 | .buildSlice t n parts=>match evs fr (parts.toList.map (·.2)),P.underlying t with
  | some vs,some (.slice e)=>match kch P e with
   | some zs=>cond (Nat.ble (n*P.cellsOf e) 16777216&&Nat.beq zs.length (P.cellsOf e))
     (fillK P (λi=>some (i*P.cellsOf e,e)) ((parts.toList.map (·.1)).zip vs) (repC zs n) λcs=>k (.slice (some h.next) n (.is n)) (h.alloc (.cells cs e))) none
   | none=>none
  | _,_=>none
 | .load t a=>match evO fr a with
  | some (.ptr (some r))=>loadK P t r h λv=>k v h
  | some (.ptr none)=>none
  | _=>none
 | .store t a x=>match evO fr a,evO fr x with
  | some (.ptr p),some v=>cellsK P t v λcs=>p.bind λr=>(h.puts r cs).bind λh'=>k (.tup []) h'
  | _,_=>none
 | .nilCheck x=>match evO fr x with
  | some (.ptr p)=>p.bind λr=>k (.ptr (some r)) h
  | some (.func (.func f) a b)=>k (.func (.func f) a b) h
  | _=>none
 | .binOp op t x y _=>match evO fr x,evO fr y with
  | some a,some b=>binK P op t a b λv=>k v h
  | _,_=>none
 | .unOp op _ x=>match evO fr x with
  | some a=>unK op a λv=>k v h
  | none=>none
 | .convert s d x=>match evO fr x with
  | some a=>kkc P s d a λv=>k v h
  | none=>none
 | .makeFunc f first captured=>match evs fr first.toList,evs fr captured.toList,f with
  | some a,some b,.func g=>k (.func (.func g) a b) h
  | _,_,_=>none
 | .makeSlice t l c=>match evO fr l,evO fr c,P.underlying t with
  | some (.int _ l),some (.int _ c),some (.slice e)=>match kch P e with
   | some zs=>cond (Nat.beq zs.length (P.cellsOf e)) ((kby l c e (P.bytesOf e) zs h).bind λq=>k q.1.v q.2) none
   | none=>none
  | _,_,_=>none
 | .slice t x lo hi mx=>match evO fr x with
  | some a=>sliceK P t a fr lo hi mx λv=>k v h
  | none=>none
 | .fieldAddr s x f=>match evO fr x,ko5 P s f with
  | some (.ptr p),some fd=>cond (Nat.beq (P.cellsOf fd.type) 0) none (p.bind λr=>k (.ptr (some (r.add fd.offset))) h)
  | _,_=>none
 | .field t x f=>match evO fr x,ko5 P t f with
  | some (.agg cs),some fd=>(partA P fd.type cs fd.offset).bind λv=>k v h
  | _,_=>none
 | .indexAddr t x i=>match evO fr x,evO fr i,P.underlying t with
  | some (.slice r n _),some (.int _ j),some (.slice e)=>condH (P.info? e).isSome ((idx r n j (P.cellsOf e)).bind λq=>k (.ptr (some q)) h) none
  | some (.ptr r),some (.int _ j),some (.array n e)=>condH (P.info? e).isSome ((idx r n j (P.cellsOf e)).bind λq=>k (.ptr (some q)) h) none
  | _,_,_=>none
 | .index t x i=>match evO fr x,evO fr i,P.underlying t with
  | some (.agg cs),some (.int _ j),some (.array n e)=>cond (decide (0<=j/\j<(n:Int))) ((partA P e cs (j.toNat*P.cellsOf e)).bind λv=>aggK P e v λv'=>k v' h) none
  | some (.str s),some (.int _ j),some .string=>cond (decide (0<=j)) ((s[j.toNat]?).bind λb=>k (.int .u8 (b.toNat:Int)) h) none
  | _,_,_=>none
 | .extract x i=>match evO fr x with
  | some (.tup vs)=>(vs[i]?).bind λv=>k v h
  | _=>none
 | .makeInterface t x=>match evO fr x,P.underlying t with
  | some v,some d=>cond (isIfcD d) none (k (.iface t v) h)
  | _,_=>none
 | .typeAssert x _ t ok=>match evO fr x,P.underlying t with
  | some v,some d=>v.asIface.bind λp=>cond (!isIfcD d&&Nat.beq p.1 t) (seeK P t p.2 λu=>cond ok (k (.tup [u,.bool true]) h) (k u h)) none
  | _,_=>none
 | .call c=>callK P rec c ty fr h k
 | _=>none
end
abbrev Keep:=FuncId->Nat->Option (List Nat)
def putT{R:Type}(n:Nat)(d:Option Tmp)(v:AV)(fr:Fr)(k:Fr->Option R):Option R :=
 match d with
 | none=>k fr
 | some t=>condH (Nat.blt t n) (k ((t,v)::fr)) none
theorem ki4{R:Type}(n:Nat)(d:Option Tmp)(v:AV)(fr:Fr)(k:Fr->Option R):putT n d v fr k=match d with
 | none=>k fr
 | some t=>cond (Nat.blt t n) (k ((t,v)::fr)) none:=by cases d<;>simp only[putT,keb]
def opsK{R:Type}(P:Program)(rec:Rec)(N:Nat)(ops:Array Oper):List Nat->Fr->AH->(Fr->AH->Option R)->Option R
 | [],fr,h,k=>k fr h
 | i::is,fr,h,k=>match ops[i]? with
  | none=>none
  | some o =>
   let go:=λfr=>opK P rec o.op o.type fr h λv h'=>putT N o.dst v fr λA=>opsK P rec N ops is A h' k
   let skip:=λfr=>putT N o.dst (.tup []) fr λA=>opsK P rec N ops is A h k
   match o.guard with
   | none=>go fr
   | some (j,b)=>match ((ops[j]?).bind (·.dst))with
    | none=>none
    | some t=>match fr.get t with
     | some (.bool c)=>cond c
       (cond b (go ((t,.bool true)::fr)) (skip ((t,.bool true)::fr)))
       (cond b (skip ((t,.bool false)::fr)) (go ((t,.bool false)::fr)))
     | some (.tup [])=>skip fr
     | _=>none
structure Look where
 at_:Nat
 ref:Ref
 size:Nat
def nonEff:Op->Bool
 | .move _ | .assign _ | .pick _ _ _ | .build _ _ | .load _ _ | .nilCheck _ | .binOp _ _ _ _ _ | .unOp _ _ _ | .convert _ _ _ | .makeFunc _ _ _
 | .slice _ _ _ _ _ | .fieldAddr _ _ _ | .field _ _ _ | .indexAddr _ _ _ | .index _ _ _ | .extract _ _ | .makeInterface _ _ | .typeAssert _ _ _ _=>true
 | .call c=>match c.callee with
  | .builtin .len | .builtin .min | .builtin .max=>true
  | _=>false
 | _=>false
def kb7(P:Program)(i:Nat)(o:Op)(fr:Fr):List Look :=
 match o with
 | .load t a=>match evO fr a with
  | some (.ptr (some r))=>match P.underlying t with
   | some d=>[⟨i,r,cond (isAggD d) (P.cellsOf t) 1⟩]
   | none=>[]
  | _=>[]
 | _=>[]
def SameBlk(h h':AH):Ref->Prop
 | .new i _=>h'.blks[i]?=h.blks[i]?
 | .old _=>True
def SameAt(h h':AH)(r:Ref)(n:Nat):Prop:=(∀j,j<n->h'.cell (r.add j)=h.cell (r.add j))/\(n=0->SameBlk h h' r)
open Classical in
noncomputable def whenK{R:Type}(p:Prop)(x:Option R):Option R:=if p then x else none
noncomputable def checkP{R:Type}(m:Nat)(h h':AH)(x:Option R):List Look->Option R
 | []=>x
 | p::ps=>cond (m.testBit p.at_) (checkP m h h' x ps) (whenK (SameAt h h' p.ref p.size) (checkP m h h' x ps))
def depsOf(o:Oper):Nat:=o.after.toList.foldl (λm e=>cond (Region.binds .any e) (m|||1 <<< e.on) m) 0
def orBits(d:Nat):List Nat->Nat->Nat
 | [],_=>0
 | a::as,i=>cond (d.testBit i) (a|||orBits d as (i+1)) (orBits d as (i+1))
def ancsOf:List Nat->List Nat->List Nat
 | acc,[]=>acc
 | acc,d::ds=>ancsOf (acc++[d|||orBits d acc 0]) ds
def readyB(A:List Nat)(m i:Nat):Bool:=match A[i]? with
 | some d=>Nat.beq (d&&&m) d&&!m.testBit i
 | none=>false
def onlyB(n:Nat)(A:List Nat)(m i:Nat):Bool:=(List.range n).all λj=>Nat.beq j i||!readyB A m j
def freeB(ops:Array Oper)(A:List Nat)(m i:Nat)(o:Oper):Bool:=(List.range ops.size).all λj =>
 Nat.beq j i||m.testBit j||(match A[j]? with | some d=>d.testBit i | none=>false)||(match ops[j]? with | some oj=>o.apart ops oj | none=>false)
noncomputable def opsD{R:Type}(P:Program)(rec:Rec)(N:Nat)(ops:Array Oper)(A C:List Nat):List Nat->Nat->List Look->Fr->AH->(Fr->AH->Option R)->Option R
 | [],m,_,fr,h,k=>cond (Nat.beq m (2^ops.size-1)) (k fr h) none
 | i::c,m,ps,fr,h,k=>match ops[i]?,C[i]? with
  | some o,some an=>cond (readyB A m i)
   (cond (nonEff o.op)
    (cond (freeB ops A m i o) (opsK P rec N ops [i] fr h λF h'=>opsD P rec N ops A C c (m|||1 <<< i) (kb7 P i o.op fr++ps) F h' k) none)
    (cond (onlyB ops.size A m i) (opsK P rec N ops [i] fr h λF h'=>checkP an h h' (opsD P rec N ops A C c (m|||1 <<< i) ps F h' k) ps) none)) none
  | _,_=>none
noncomputable def drawK{R:Type}(P:Program)(rec:Rec)(N:Nat)(ops:Array Oper)(A:List Nat)(fr:Fr)(h:AH)(k:Fr->AH->Option R):Option R:=cond (Nat.beq A.length ops.size) (opsD P rec N ops (ops.toList.map depsOf) (ancsOf [] (ops.toList.map depsOf)) A 0 [] fr h k) none
def Fr.low(N:Nat)(fr:Fr):Fr:=fr.filter λp=>Nat.blt p.1 N
def lowB(N:Nat)(ops:Array Oper):Bool:=ops.toList.all λo=>(o.looksAt ops).all λt=>Nat.blt t N
def layB:Op->Bool
 | .alloc _ | .box _ _ | .buildSlice _ _ _=>true
 | _=>false
def isTmp(t:Tmp):Operand->Bool
 | .tmp s=>Nat.beq s t
 | _=>false
def heldB(ops:Array Oper)(o:Oper):Bool:=(List.range ops.size).all λj=>match (ops[j]?).bind (·.dst)with
 | some t=>!(o.op.operands.toList.any (isTmp t))||(depsOf o).testBit j
 | none=>true
noncomputable def finK{R:Type}(cs:List Operand)(a b:Fr)(x:Option R):Option R:=match cs with
 | []=>x
 | c::cs=>whenK ((c::cs).map (evO a)=(c::cs).map (evO b)) x
noncomputable def drawR{R:Type}(P:Program)(rec:Rec)(N:Nat)(A:List Nat)(fp:Fr):List Nat->List Operand->Array Oper->List Look->Fr->AH->(Fr->AH->Option R)->Option R
 | [],cs,ops,ps,fr,h,k=>cond (Nat.beq A.length ops.size) (opsD P rec N ops (ops.toList.map depsOf) (ancsOf [] (ops.toList.map depsOf)) A 0 ps fr h λC h'=>finK cs (C.low N) fp (k (C.low N) h')) none
 | i::is,cs,ops,ps,fr,h,k=>match ops[i]? with
  | some o=>cond (layB o.op&&heldB ops o) (opK P rec o.op o.type fp h λv h'=>drawR P rec N A fp is (o.op.operands.toList++cs) (ops.setIfInBounds i {o with op:=.move (.tmp (N+i))}) (⟨i,h.next,0⟩::ps) ((N+i,v)::fr) h' k) none
  | none=>none
noncomputable def drawX{R:Type}(P:Program)(rec:Rec)(N:Nat)(ops:Array Oper)(A C F:List Nat)(fr:Fr)(h:AH)(k:Fr->AH->Option R):Option R :=
 match C with
 | []=>drawK P rec N ops A fr h k
 | i::is=>cond (lowB N ops) (opsK P rec N ops F fr h λfp _=>drawR P rec N A fp (i::is) [] ops [] fr h k) none
def resK(P:Program)(fr:Fr)(h:AH):List ResultVar->(List AV->Option (AV×AH))->Option (AV×AH)
 | [],k=>k []
 | .tmp t::rs,k=>(fr.get t).bind λv=>resK P fr h rs λvs=>k (v::vs)
 | .cell a t::rs,k=>match fr.get a with
  | some (.ptr (some r))=>loadK P t r h λv=>resK P fr h rs λvs=>k (v::vs)
  | _=>none
def kir(P:Program)(fn:Func)(fr:Fr)(h:AH):Option (AV×AH) :=
 resK P fr h fn.results.toList λvs=>match vs with
  | [v]=>some (v,h)
  | vs=>some (.tup vs,h)
def learn(c:Operand)(b:Bool)(fr:Fr):Fr :=
 match c with
 | .tmp t=>(t,.bool b)::fr
 | _=>fr
def kto(K:Keep)(f:FuncId)(id n:Nat):List Nat:=match K f (1000000+id)with
 | some l=>l
 | none=>List.range n
def resvOf(K:Keep)(f:FuncId)(id:Nat):List Nat:=match K f (2000000+id)with
 | some l=>l
 | none=>[]
def preOf(K:Keep)(f:FuncId)(id:Nat):List Nat:=match K f (3000000+id)with
 | some l=>l
 | none=>[]
def AH.setBlk(h:AH)(i:Nat)(b:ABlk):AH:={h with blks:=h.blks.setIfInBounds i b}
def findA(kd:IntKind)(n:Int):List AEnt->Nat->Option (Option (Nat×AV))
 | [],_=>some none
 | e::es,i=>match e.key with
  | .int A m=>cond (decide (A=kd)) (cond (decide (n=m)) (some (some (i,e.val))) (findA kd n es (i+1))) none
  | _=>none
def AH.mapAt(h:AH)(i:Nat):Option (List AEnt×Nat):=match h.blks[i]? with
 | some (.map es ck)=>some (es,ck)
 | _=>none
def mapGet(h:AH)(r:Option Nat)(kd:IntKind)(n:Int):Option (Option AV):=match r with
 | none=>some none
 | some i=>(h.mapAt i).bind λp=>(findA kd n p.1 0).map λq=>q.map Prod.snd
def mapPut(h:AH)(i:Nat)(kd:IntKind)(n:Int)(v:AV):Option AH:=(h.mapAt i).bind λp=>(findA kd n p.1 0).map λq=>match q with
 | some x=>h.setBlk i (.map (p.1.modify x.1 λe=>⟨.int kd n,v,e.born⟩) p.2)
 | none=>h.setBlk i (.map (p.1++[⟨.int kd n,v,p.2⟩]) (p.2+1))
def mapDel(h:AH)(r:Option Nat)(kd:IntKind)(n:Int):Option AH:=match r with
 | none=>some h
 | some i=>(h.mapAt i).bind λp=>(findA kd n p.1 0).map λq=>match q with
  | some x=>h.setBlk i (.map (p.1.eraseIdx x.1) p.2)
  | none=>h.setBlk i (.map p.1 p.2)
def mapLen(h:AH)(r:Option Nat):Option Nat:=match r with
 | none=>some 0
 | some i=>(h.mapAt i).map λp=>p.1.length
def ktf(h:AH)(r:Option Nat):Option AH:=match r with
 | none=>some h
 | some i=>(h.mapAt i).map λp=>h.setBlk i (.map [] p.2)
def mapEnt(h:AH)(i:Nat)(kd:IntKind)(n:Int)(z:AV):Option (AV×Int×AH):=(h.mapAt i).bind λp=>(findA kd n p.1 0).bind λq=>match q with
 | some x=>(p.1[x.1]?).map λe=>(x.2,(e.born:Int),h.setBlk i (.map (p.1.modify x.1 λe=>⟨.int kd n,e.val,e.born⟩) p.2))
 | none=>some (z,(p.2:Int),h.setBlk i (.map (p.1++[⟨.int kd n,z,p.2⟩]) (p.2+1)))
def mapSet(h:AH)(i:Nat)(born:Int)(v:AV):Option AH:=(h.mapAt i).bind λp=>(p.1.findIdx? λe=>decide ((e.born:Int)=born)).map λj=>h.setBlk i (.map (p.1.modify j λe=>⟨e.key,v,e.born⟩) p.2)
def zeroA(P:Program)(t:TypeId):Option AV:=(P.info? t).bind λi=>i.zero.bind AV.ofValue
def opM{R:Type}(P:Program)(rec:Rec)(o:Op)(ty:TypeId)(fr:Fr)(h:AH)(k:AV->AH->Option R):Option R :=
 match o with
 | .makeMap _ none=>k (.map (some h.blks.size)) (h.alloc (.map [] 0))
 | .mapUpdate t m x v=>match P.underlying t,evO fr m,evO fr x,evO fr v with
  | some (.map kt _),some (.map (some i)),some (.int kd n),some val=>match P.underlying kt with
   | some (.int A)=>cond (decide (kd=A)) ((mapPut h i kd n val).bind λh'=>k (.tup []) h') none
   | _=>none
  | _,_,_,_=>none
 | .insert t m x v=>match P.underlying t,evO fr m,evO fr x,evO fr v with
  | some (.map kt _),some (.map (some i)),some (.int kd n),some val=>match P.underlying kt with
   | some (.int A)=>cond (decide (kd=A)) ((mapPut h i kd n val).bind λh'=>k (.tup []) h') none
   | _=>none
  | _,_,_,_=>none
 | .lookup t m x ok=>match P.underlying t,evO fr m,evO fr x with
  | some (.map kt et),some (.map r),some (.int kd n)=>match P.underlying kt,zeroA P et with
   | some (.int A),some z=>cond (decide (kd=A)) ((mapGet h r kd n).bind λq=>seeK P et (q.getD z) λv=>cond ok (k (.tup [v,.bool q.isSome]) h) (k v h)) none
   | _,_=>none
  | _,_,_=>none
 | .mapEntry t m x=>match P.underlying t,evO fr m,evO fr x with
  | some (.map kt et),some (.map (some i)),some (.int kd n)=>match P.underlying kt,zeroA P et with
   | some (.int A),some z=>cond (decide (kd=A)) ((mapEnt h i kd n z).bind λq=>seeK P et q.1 λv=>k (.tup [v,.int .i64 q.2.1]) q.2.2) none
   | _,_=>none
  | _,_,_=>none
 | .entryStore _ m s v=>match evO fr m,evO fr s,evO fr v with
  | some (.map (some i)),some (.int _ n),some val=>(mapSet h i n val).bind λh'=>k (.tup []) h'
  | _,_,_=>none
 | .call c=>match c.callee,evs fr c.args.toList,c.argTypes.toList with
  | .builtin .len,some [.map r],t::_=>match P.underlying t with
   | some (.map _ _)=>(mapLen h r).bind λn=>k (.int .i64 (n:Int)) h
   | _=>none
  | .builtin .delete,some [.map r,.int kd n],t::_=>match P.underlying t with
   | some (.map kt _)=>match P.underlying kt with
    | some (.int A)=>cond (decide (kd=A)) ((mapDel h r kd n).bind λh'=>k (.tup []) h') none
    | _=>none
   | _=>none
  | .builtin .clear,some [.map r],t::_=>match P.underlying t with
   | some (.map _ _)=>(ktf h r).bind λh'=>k (.tup []) h'
   | _=>none
  | _,_,_=>opK P rec o ty fr h k
 | _=>opK P rec o ty fr h k
def kk9(o:Op)(fr:Fr):Option (Nat×List AV):=match o with
 | .call c=>match c.callee,evs fr c.args.toList with
  | .value f,some xs=>match evO fr f with
   | some (.func (.yield l) [] [])=>some (l,xs)
   | _=>none
  | _,_=>none
 | _=>none
def opY{R:Type}(P:Program)(rec:Rec)(o:Op)(ty:TypeId)(fr:Fr)(h:AH)(k:AV->AH->Option R):Option R :=
 match kk9 o fr with
 | some p=>(rec (.round p.1 p.2) h).bind λq=>khl P ty q.1 λv=>k v q.2
 | none=>opM P rec o ty fr h k
def opsY{R:Type}(P:Program)(rec:Rec)(N:Nat)(ops:Array Oper):List Nat->Fr->AH->(Fr->AH->Option R)->Option R
 | [],fr,h,k=>k fr h
 | i::is,fr,h,k=>match ops[i]? with
  | none=>none
  | some o =>
   let go:=λfr=>opY P rec o.op o.type fr h λv h'=>putT N o.dst v fr λA=>opsY P rec N ops is A h' k
   let skip:=λfr=>putT N o.dst (.tup []) fr λA=>opsY P rec N ops is A h k
   match o.guard with
   | none=>go fr
   | some (j,b)=>match ((ops[j]?).bind (·.dst))with
    | none=>none
    | some t=>match fr.get t with
     | some (.bool c)=>cond c
       (cond b (go ((t,.bool true)::fr)) (skip ((t,.bool true)::fr)))
       (cond b (skip ((t,.bool false)::fr)) (go ((t,.bool false)::fr)))
     | some (.tup [])=>skip fr
     | _=>none
def kh1(l:Nat)(A:Option Code)(h:AH):Option (AV×AH) :=
 match h.blks[l]? with
 | some (.loop _ _ f fr ps as bd d)=>some (.bool A.isNone,h.setBlk l (.loop (cond A.isNone .ready .done) A f fr ps as bd d))
 | _=>none
def leaveA(P:Program)(fn:Func)(ro:Option Nat)(A:Option Code)(fr:Fr)(h:AH):Option (AV×AH) :=
 match ro with
 | some l=>kh1 l A h
 | none=>match A with
  | none=>kir P fn fr h
  | some .ret=>kir P fn fr h
  | some _=>none
def beginA(l:Nat)(h:AH):Option AH :=
 match h.blks[l]? with
 | some (.loop .ready pe f fr ps as bd d)=>some (h.setBlk l (.loop .busy pe f fr ps as bd d))
 | _=>none
def kk0(l:Nat)(h:AH):Option (Option Code×AH) :=
 match h.blks[l]? with
 | some (.loop st pe _ _ _ _ _ _)=>cond (st==.busy) none (some (pe,h.setBlk l .dead))
 | _=>none
def kin(ops:Array Oper):Bool:=ops.toList.any λo=>match o.op with
 | .defer _=>true
 | _=>false
noncomputable def execA(P:Program)(K:Keep)(rec:Rec)(ro:Option Nat)(f:FuncId)(fn:Func):Nat->Bool->List Item->Fr->AH->Option (AV×AH)
 | 0,_,_,_,_=>none
 | n+1,fresh,todo,fr,h=>match todo with
  | []=>leaveA P fn ro none fr h
  | .code .ret::_=>leaveA P fn ro (some .ret) fr h
  | .code .skip::k=>execA P K rec ro f fn n fresh k fr h
  | .code (.label _)::k=>execA P K rec ro f fn n fresh k fr h
  | .inBlock _::k=>execA P K rec ro f fn n fresh k fr h
  | .inScope _::k=>execA P K rec ro f fn n fresh k fr h
  | .code (.seq a b)::k=>execA P K rec ro f fn n fresh (.code a::.code b::k) fr h
  | .code (.cond c a b)::k=>match evO fr c with
   | some (.bool t)=>cond t (execA P K rec ro f fn n fresh (.code a::k) (learn c true fr) h) (execA P K rec ro f fn n fresh (.code b::k) (learn c false fr) h)
   | _=>none
  | .code (.block id body)::k=>execA P K rec ro f fn n fresh (.code body::.inBlock id::k) fr h
  | .code (.loop body)::k=>execA P K rec ro f fn n fresh (.code body::.inLoop body::k) fr h
  | .inLoop body::k=>execA P K rec ro f fn n fresh (.code body::.inLoop body::k) fr h
  | .code (.scope body)::k=>execA P K rec ro f fn n fresh (.code body::.inScope body::k) fr h
  | .code (.exit id)::k=>match exitTo id k with
   | some C=>execA P K rec ro f fn n fresh C fr h
   | none=>leaveA P fn ro (some (.exit id)) fr h
  | .code (.goto l)::k=>match gotoIn l k with
   | some C=>execA P K rec ro f fn n fresh C fr h
   | none=>leaveA P fn ro (some (.goto l)) fr h
  | .code (.region id ops draw)::k =>
   condH fresh
    (condH draw (condH (ro.isSome&&kin ops) none (drawX P rec fn.ntmps ops (kto K f id ops.size) (resvOf K f id) (preOf K f id) fr h λA h'=>execA P K rec ro f fn n false k A h')) (opsY P rec fn.ntmps ops (List.range ops.size) fr h λA h'=>execA P K rec ro f fn n false k A h'))
    (match K f id with
     | some L=>match ro with
      | none=>rec (.pt f todo (fr.keep L)) h
      | some l=>rec (.rpt l f todo (fr.keep L)) h
     | none=>condH draw (condH (ro.isSome&&kin ops) none (drawX P rec fn.ntmps ops (kto K f id ops.size) (resvOf K f id) (preOf K f id) fr h λA h'=>execA P K rec ro f fn n false k A h')) (opsY P rec fn.ntmps ops (List.range ops.size) fr h λA h'=>execA P K rec ro f fn n false k A h'))
  | .beginRound::k=>match ro with
   | some l=>(beginA l h).bind λh'=>execA P K rec ro f fn n fresh k fr h'
   | none=>none
  | .code (.rangeFunc g ps as bd)::k=>match ro with
   | some _=>none
   | none=>condH fresh (match evO fr g with
    | some (.func (.func gf) first captured)=>(callF P rec gf (first++[.func (.yield h.blks.size) [] []]++captured) (h.alloc (.loop .ready none f (fr.keep (List.range fn.ntmps)) ps as bd 0))).bind λq =>
      (kk0 h.blks.size q.2).bind λp=>rec (.pt f ((p.1.map Item.code).toList++k) (fr.keep (List.range fn.ntmps))) p.2
    | _=>none) (rec (.pt f todo (fr.keep (List.range fn.ntmps))) h)
  | _=>none
def kkr:Nat->List AV->Fr
 | _,[]=>[]
 | i,v::vs=>(i,v)::kkr (i+1) vs
def handed:List Tmp->List AV->Fr->Fr
 | t::ts,v::vs,fr=>handed ts vs ((t,v)::fr)
 | _,_,fr=>fr
noncomputable def stepA(P:Program)(K:Keep)(rec:Rec)(key:Key)(h:AH):Option (AV×AH) :=
 match key with
 | .fn f args=>match P.funcs[f]? with
  | some fn=>match fn.body with
   | some c=>condH (Nat.ble args.length fn.ntmps) (execA P K rec none f fn 4000 false [.code c] (kkr 0 args) h) none
   | none=>none
  | none=>none
 | .pt f todo fr=>match P.funcs[f]? with
  | some fn=>execA P K rec none f fn 4000 true todo fr h
  | none=>none
 | .round l args=>match h.blks[l]? with
  | some (.loop _ _ f fr ps as bd _)=>match P.funcs[f]? with
   | some fn=>condH (Nat.beq ps.size args.length&&ps.toList.all λt=>Nat.blt t fn.ntmps) (execA P K rec (some l) f fn 4000 false [.code as,.beginRound,.code bd] (handed ps.toList args fr) h) none
   | none=>none
  | _=>none
 | .rpt l f todo fr=>match P.funcs[f]? with
  | some fn=>execA P K rec (some l) f fn 4000 true todo fr h
  | none=>none
noncomputable def runF(P:Program)(K:Keep):Nat->Rec
 | 0=>λ_ _=>none
 | n+1=>stepA P K (runF P K n)
open Classical in
noncomputable def run(P:Program)(K:Keep):Rec:=λkey h =>if A:∃n r,runF P K n key h=some r then some (Classical.choose (Classical.choose_spec A))else none
structure Loc where
 block:Nat
 base:Nat
 total:Nat
abbrev Mu:=Nat->Option Loc
def RRel(μ:Mu):Ref->Addr->Prop
 | .old a,b=>b=a
 | .new i o,b=>∃L,μ i=some L/\b=⟨L.block,L.base+o,none⟩
def CapRel(μ:Mu)(r:Ref)(n c:Nat):Cap->Prop
 | .is k=>n<=c/\c=k
 | .opn sz=>n<=c/\∃i o L,r=.new i o/\μ i=some L/\o+c*sz<=L.total
def FnRel(μ:Mu):Fn->Fn->Prop
 | .yield i,g=>∃L,μ i=some L/\g=.yield L.block
 | f,g=>g=f
mutual
def VRel(μ:Mu):AV->Value->Prop
 | .bool b,u=>u=.bool b
 | .int k n,u=>u=.int k n
 | .str s,u=>u=.string s
 | .ptr none,u=>u=.pointer none
 | .ptr (some r),u=>∃a,RRel μ r a/\u=.pointer (some a)
 | .slice none n c,u=>n=0/\c=.is 0/\u=.slice none 0 0
 | .slice (some r) n cap,u=>∃a c,u=.slice (some a) n c/\(c=0\/RRel μ r a)/\CapRel μ r n c cap
 | .map none,u=>u=.map none
 | .map (some i),u=>∃L,μ i=some L/\u=.map (some L.block)
 | .func f a b,u=>∃g x y,u=.func g x y/\FnRel μ f g/\VRels μ a x.toList/\VRels μ b y.toList
 | .nilFunc,u=>u=.nilFunc
 | .iface t v,u=>∃x,u=.iface t x/\VRel μ v x
 | .nilIface,u=>u=.nilIface
 | .agg cs,u=>∃us:Array Value,u=.agg us/\VRels μ cs us.toList/\cs.all AV.one=true
 | .tup cs,u=>∃us:Array Value,u=.tuple us/\VRels μ cs us.toList
def VRels(μ:Mu):List AV->List Value->Prop
 | [],us=>us=[]
 | v::vs,us=>∃x xs,us=x::xs/\VRel μ v x/\VRels μ vs xs
end
def Mu.le(μ ν:Mu):Prop:=∀i L,μ i=some L->ν i=some L
theorem Mu.le_refl(μ:Mu):μ.le μ:=λ_ _ h=>h
theorem Mu.le_trans{a b c:Mu}(h:a.le b)(k:b.le c):a.le c:=λi L e=>k i L (h i L e)
theorem RRel.mono{μ ν:Mu}(h:μ.le ν):∀{r:Ref}{a:Addr},RRel μ r a->RRel ν r a
 | .old _,_,e=>e
 | .new _ _,_,⟨L,e,f⟩=>⟨L,h _ _ e,f⟩
theorem CapRel.mono{μ ν:Mu}(h:μ.le ν){r:Ref}{n c:Nat}:∀{k:Cap},CapRel μ r n c k->CapRel ν r n c k
 | .is _,e=>e
 | .opn _,⟨e,i,o,L,A,C,F⟩=>⟨e,i,o,L,A,h _ _ C,F⟩
theorem FnRel.mono{μ ν:Mu}(h:μ.le ν):∀{f g:Fn},FnRel μ f g->FnRel ν f g
 | .yield _,_,⟨L,e,f⟩=>⟨L,h _ _ e,f⟩
 | .func _,_,e=>e
 | .method _,_,e=>e
 | .methodOf _ _,_,e=>e
 | .via _ _ _ _,_,e=>e
mutual
theorem VRel.mono{μ ν:Mu}(h:μ.le ν):∀{v:AV}{u:Value},VRel μ v u->VRel ν v u
 | .bool _,_,e=>by simpa only[VRel]using e
 | .int _ _,_,e=>by simpa only[VRel]using e
 | .str _,_,e=>by simpa only[VRel]using e
 | .ptr none,_,e=>by simpa only[VRel]using e
 | .ptr (some r),_,e=>by
  simp only[VRel]at e|-;obtain⟨a,A,C⟩:=e;exact⟨a,A.mono h,C⟩
 | .slice none _ _,_,e=>by simpa only[VRel]using e
 | .slice (some r) _ _,_,e=>by
  simp only[VRel]at e|-;obtain⟨a,c,A,C,F⟩:=e;exact⟨a,c,A,C.imp id (RRel.mono h),F.mono h⟩
 | .map none,_,e=>by simpa only[VRel]using e
 | .map (some _),_,e=>by
  simp only[VRel]at e|-;obtain⟨L,A,C⟩:=e;exact⟨L,h _ _ A,C⟩
 | .func f a b,_,e=>by
  simp only[VRel]at e|-;obtain⟨g,x,y,A,C,F,H⟩:=e;exact⟨g,x,y,A,C.mono h,VRels.mono h F,VRels.mono h H⟩
 | .nilFunc,_,e=>by simpa only[VRel]using e
 | .iface t v,_,e=>by
  simp only[VRel]at e|-;obtain⟨x,A,C⟩:=e;exact⟨x,A,VRel.mono h C⟩
 | .nilIface,_,e=>by simpa only[VRel]using e
 | .agg cs,_,e=>by
  simp only[VRel]at e|-;obtain⟨us,A,C,F⟩:=e;exact⟨us,A,VRels.mono h C,F⟩
 | .tup cs,_,e=>by simp only[VRel]at e|-;obtain⟨us,A,C⟩:=e;exact⟨us,A,VRels.mono h C⟩
theorem VRels.mono{μ ν:Mu}(h:μ.le ν):∀{v:List AV}{u:List Value},VRels μ v u->VRels ν v u
 | [],_,e=>by simpa only[VRels]using e
 | v::vs,_,e=>by simp only[VRels]at e|-;obtain⟨x,xs,A,C,F⟩:=e;exact⟨x,xs,A,VRel.mono h C,VRels.mono h F⟩
end
theorem VRels.length{μ:Mu}:∀{vs:List AV}{us:List Value},VRels μ vs us->us.length=vs.length
 | [],us,h=>by simp only[VRels]at h;simp[h]
 | v::vs,us,h=>by simp only[VRels]at h;obtain⟨x,xs,rfl,_,A⟩:=h;simp[VRels.length A]
theorem VRels.get{μ:Mu}:∀{vs:List AV}{us:List Value},VRels μ vs us->∀(i:Nat)(v:AV),vs[i]?=some v->∃u,us[i]?=some u/\VRel μ v u
 | [],us,h,i,v,e=>by simp at e
 | w::vs,us,h,i,v,e=>by
  simp only[VRels]at h;obtain⟨x,xs,rfl,A,C⟩:=h;cases i with
  | zero=>simp at e;subst e;exact⟨x,by simp,A⟩
  | succ i=>simp at e|-;exact VRels.get C i v e
theorem VRels.append{μ:Mu}{vs ws:List AV}{us xs:List Value}(h:VRels μ vs us)(k:VRels μ ws xs):VRels μ (vs++ws) (us++xs):=by
 induction vs generalizing us with
 | nil=>simp only[VRels]at h;subst h;simpa using k
 | cons v vs ih =>simp only[VRels]at h;obtain⟨x,r,rfl,A,C⟩:=h;simp only[List.cons_append,VRels];exact⟨x,r++xs,rfl,A,ih C⟩
theorem VRels.take{μ:Mu}{vs:List AV}{us:List Value}(h:VRels μ vs us)(n:Nat):VRels μ (vs.take n) (us.take n):=by
 induction vs generalizing us n with
 | nil=>simp only[VRels]at h;subst h;simp[VRels]
 | cons v vs ih =>
  simp only[VRels]at h;obtain⟨x,r,rfl,A,C⟩:=h;cases n with
  | zero=>simp[VRels]
  | succ n=>simp only[List.take_succ_cons,VRels];exact⟨x,_,rfl,A,ih C n⟩
theorem VRels.drop{μ:Mu}{vs:List AV}{us:List Value}(h:VRels μ vs us)(n:Nat):VRels μ (vs.drop n) (us.drop n):=by
 induction vs generalizing us n with
 | nil=>simp only[VRels]at h;subst h;simp[VRels]
 | cons v vs ih =>
  cases n with
  | zero=>simpa using h
  | succ n =>
   simp only[VRels]at h;obtain⟨x,r,rfl,C,A⟩:=h
   simpa using ih A n
theorem VRels.nil{μ:Mu}:VRels μ [] []:=by simp[VRels]
abbrev qb:=@VRels.nil
theorem VRels.cons{μ:Mu}{v:AV}{u:Value}{vs:List AV}{us:List Value}(h:VRel μ v u)(k:VRels μ vs us):VRels μ (v::vs) (u::us):=by simp only[VRels];exact⟨u,us,rfl,h,k⟩
abbrev qc:=@VRels.cons
theorem VRels.cons_inv{μ:Mu}{v:AV}{vs:List AV}{us:List Value}(h:VRels μ (v::vs) us):∃x xs,us=x::xs/\VRel μ v x/\VRels μ vs xs:=by simpa only[VRels]using h
theorem VRels.nil_inv{μ:Mu}{us:List Value}(h:VRels μ [] us):us=[]:=by simpa only[VRels]using h
theorem VRel.one{μ:Mu}{v:AV}{u:Value}(h:VRel μ v u)(h1:v.one=true):u.oneCell'=true:=by
 cases v with
 | bool b=>simp only[VRel]at h;subst h;rfl
 | int k n=>simp only[VRel]at h;subst h;rfl
 | str s=>simp only[VRel]at h;subst h;rfl
 | ptr r =>
  cases r<;>simp only[VRel]at h
  ·subst h;rfl
  ·obtain⟨a,_,rfl⟩:=h;rfl
 | slice r n c =>
  cases r<;>simp only[VRel]at h
  ·obtain⟨_,_,rfl⟩:=h;rfl
  ·obtain⟨a,c,rfl,_⟩:=h;rfl
 | map r =>
  cases r<;>simp only[VRel]at h
  ·subst h;rfl
  ·obtain⟨a,_,rfl⟩:=h;rfl
 | func f a b=>simp only[VRel]at h;obtain⟨g,x,y,rfl,_⟩:=h;rfl
 | nilFunc=>simp only[VRel]at h;subst h;rfl
 | iface t v=>simp only[VRel]at h;obtain⟨x,rfl,_⟩:=h;rfl
 | nilIface=>simp only[VRel]at h;subst h;rfl
 | agg cs=>simp[AV.one]at h1
 | tup cs=>simp[AV.one]at h1
theorem VRel.cells_one{μ:Mu}{v:AV}{u:Value}(h:VRel μ v u)(h1:v.one=true):u.cells=#[u]:=by have:=h.one h1;cases u<;>first | rfl | simp[Value.oneCell']at this
theorem VRel.ofCell{μ:Mu}{v:AV}{u:Value}(h:AV.ofCell u=some v):VRel μ v u/\v.one=true:=by
 cases u with
 | bool b=>simp only[AV.ofCell,qcb]at h;subst h;simp[VRel,AV.one]
 | int k n=>simp only[AV.ofCell,qcb]at h;subst h;simp[VRel,AV.one]
 | string s=>simp only[AV.ofCell,qcb]at h;subst h;simp[VRel,AV.one]
 | pointer a=>cases a<;>(simp only[AV.ofCell,qcb]at h;subst h;simp[VRel,AV.one,RRel])
 | slice a n c =>
  cases a with
  | none =>
   simp only[AV.ofCell]at h;cases A:Nat.beq n 0<;>cases C:Nat.beq c 0<;>simp[A,C]at h;have h1:n=0:=Nat.eq_of_beq_eq_true A;have F:c=0:=Nat.eq_of_beq_eq_true C;subst h;subst h1;subst F;simp[VRel,AV.one]
  | some a =>
   simp only[AV.ofCell]at h;cases A:Nat.ble n c<;>simp[A]at h;have:=Nat.le_of_ble_eq_true A;subst h;refine⟨?_,rfl⟩;simp only[VRel];exact⟨a,c,rfl,.inr rfl,this,rfl⟩
 | map r=>cases r<;>simp[AV.ofCell]at h;subst h;simp[VRel,AV.one]
 | nilFunc=>simp only[AV.ofCell,qcb]at h;subst h;simp[VRel,AV.one]
 | nilIface=>simp only[AV.ofCell,qcb]at h;subst h;simp[VRel,AV.one]
 | _=>simp[AV.ofCell]at h
theorem VRels.ofCells{μ:Mu}:∀{us:List Value}{vs:List AV},AV.ofCells us=some vs->VRels μ vs us/\vs.all AV.one=true
 | [],vs,h=>by simp[AV.ofCells]at h;subst h;simp[VRels]
 | u::us,vs,h=>by
  simp only[AV.ofCells]at h;split at h
  ·rename_i x xs C A;simp at h;subst h;obtain⟨h1,F⟩:=VRel.ofCell (μ:=μ) C;obtain⟨H,I⟩:=VRels.ofCells (μ:=μ) A;exact⟨qc h1 H,by simp[F];simpa using I⟩
  ·simp at h
theorem VRel.ofValue{μ:Mu}{v:AV}{u:Value}(h:AV.ofValue u=some v):VRel μ v u:=by
 unfold AV.ofValue at h;split at h
 ·rename_i cs;simp only[Option.map_eq_some_iff]at h;obtain⟨x,h1,rfl⟩:=h;obtain⟨A,C⟩:=VRels.ofCells (μ:=μ) h1;simp only[VRel];exact⟨cs,rfl,A,C⟩
 ·rename_i cs;simp only[Option.map_eq_some_iff]at h;obtain⟨x,h1,rfl⟩:=h;obtain⟨A,C⟩:=VRels.ofCells (μ:=μ) h1;simp only[VRel];exact⟨cs,rfl,A⟩
 ·exact(VRel.ofCell h).1
structure FRel(μ:Mu)(N:Nat)(fr:Fr)(tmps:Array Value):Prop where
 size:tmps.size=N
 get:∀t v,fr.get t=some v->∃u,tmps[t]?=some u/\VRel μ v u
theorem FRel.mono{μ ν:Mu}{N:Nat}{fr:Fr}{tmps:Array Value}(h:FRel μ N fr tmps)(A:Mu.le μ ν):FRel ν N fr tmps:=⟨h.size,λt v e=>let ⟨u,a,b⟩:=h.get t v e;⟨u,a,b.mono A⟩⟩
def BRel(P:Program)(μ:Mu)(L:Loc)(w:World):ABlk->Prop
 | .cells cs e=>(∃c:Array Value,w.heap[L.block]?=some (.cells c e (0,0))/\c.size=L.base+L.total/\cs.length<=L.total/\
   ∀(j:Nat)(v:AV),cs[j]?=some v->∃u,c[L.base+j]?=some u/\VRel μ v u)/\cs.all AV.one=true
 | .map es clock=>∃us:Array MapEntry,w.heap[L.block]?=some (.map us clock)/\us.size=es.length/\
   ∀(j:Nat)(e:AEnt),es[j]?=some e->∃u:MapEntry,us[j]?=some u/\VRel μ e.key u.key/\VRel μ e.val u.val/\u.born=e.born
 | .loop st pe f fr ps as bd _=>∃(tmps:Array Value)(d:Nat),w.heap[L.block]?=some (.loop {state:=st,pending:=pe,fn:=f,tmps,params:=ps,assign:=as,body:=bd,defers:=d})/\∀fn,P.funcs[f]?=some fn->FRel μ fn.ntmps fr tmps
 | .deferred=>False
 | .dead=>True
def Live(h:AH)(i:Nat):Prop:=∀b,h.blks[i]?=some b->b≠.dead
structure Sim(P:Program)(O:World)(μ:Mu)(h:AH)(w:World):Prop where
 old:h.old=O.heap
 os:w.os=O.os
 tape:w.tape=O.tape
 output:w.output=O.output
 base:O.heap.size<=w.heap.size
 keep:∀b,b<O.heap.size->w.heap[b]?=O.heap[b]?
 dom:∀i L,μ i=some L->i<h.blks.size
 place:∀i L,μ i=some L->O.heap.size<=L.block/\L.block<w.heap.size
 blk:∀i L b,μ i=some L->h.blks[i]?=some b->BRel P μ L w b
 inj:∀i j L M,μ i=some L->μ j=some M->Live h i->Live h j->L.block=M.block->i=j
def Frm(μ:Mu)(h:AH)(w w':World):Prop:=w.heap.size<=w'.heap.size/\∀b,b<w.heap.size->(∀i L,i<h.blks.size->Live h i->μ i=some L->L.block≠b)->w'.heap[b]?=w.heap[b]?
def Ext(μ:Mu)(h:AH)(w:World)(ν:Mu)(h':AH):Prop :=
 h.blks.size<=h'.blks.size/\μ.le ν/\(∀i,i<h.blks.size->ν i=μ i)/\
 (∀i,i<h.blks.size->Live h' i->Live h i)/\
 (∀i L,h.blks.size<=i->i<h'.blks.size->ν i=some L->w.heap.size<=L.block\/∃j M,j<h.blks.size/\Live h j/\μ j=some M/\M.block=L.block)
theorem Frm.refl(μ:Mu)(h:AH)(w:World):Frm μ h w w:=⟨qbp _,λ_ _ _=>rfl⟩
theorem Ext.refl(μ:Mu)(h:AH)(w:World):Ext μ h w μ h:=⟨qbp _,Mu.le_refl μ,λ_ _=>rfl,λ_ _ h=>h,λi L h1 A=>by omega⟩
theorem Ext.trans{μ ν ξ:Mu}{h h' C:AH}{w w':World}(a:Ext μ h w ν h')(b:Ext ν h' w' ξ C)(hw:w.heap.size<=w'.heap.size):Ext μ h w ξ C:=by
 obtain⟨a1,a2,a3,a4,a5⟩:=a;obtain⟨b1,b2,b3,b4,b5⟩:=b;refine⟨qbq a1 b1,Mu.le_trans a2 b2,λi hi=>?_,λi hi H=>a4 i hi (b4 i (by omega) H),λi L I K Q=>?_⟩
 ·rw[b3 i (by omega),a3 i (by omega)]
 ·rcases Nat.lt_or_ge i h'.blks.size with A | U
  ·rw[b3 i A]at Q;exact a5 i L I A Q
  ·rcases b5 i L U K Q with h1 | ⟨j,M,hj,H,X,hb⟩
   ·exact .inl (qbq hw h1)
   ·rcases Nat.lt_or_ge j h.blks.size with A | F
    ·rw[a3 j A]at X;exact .inr ⟨j,M,A,a4 j A H,X,hb⟩
    ·rcases a5 j M F hj X with h1 | ⟨j',M',Y,Z,aa,ac⟩
     ·exact .inl (by omega)
     ·exact .inr ⟨j',M',Y,Z,aa,ac.trans hb⟩
theorem Frm.trans{μ ν:Mu}{h h':AH}{w w' C:World}(a:Frm μ h w w')(e:Ext μ h w ν h')(b:Frm ν h' w' C):Frm μ h w C:=by
 obtain⟨e1,e2,X,Y,Z⟩:=e;refine⟨qbq a.1 b.1,λk K F=>(b.2 k (qbr K a.1) λi L hi hl Q U=>?_).trans (a.2 k K F)⟩;rcases Nat.lt_or_ge i h.blks.size with A | H
 ·exact F i L A (Y i A hl) (by rw[<- X i A];exact Q) U
 ·rcases Z i L H hi Q with h1 | ⟨j,M,hj,I,hM,hb⟩
  ·omega
  ·exact F j M hj I hM (hb.trans U)
end Go.Ab
namespace Go.Ab
variable{P:Program}{O:World}
theorem ktd(b o n:Nat):(⟨b,o,none⟩:Addr).add n=⟨b,o+n,none⟩:=by unfold Addr.add;split<;>simp_all
theorem Addr.add_add(a:Addr)(m n:Nat):(a.add m).add n=a.add (m+n):=by unfold Addr.add;by_cases A:m=0<;>by_cases C:n=0<;>simp[A,C];omega
theorem Ref.add_add(r:Ref)(m n:Nat):(r.add m).add n=r.add (m+n):=by
 cases r with
 | old a=>simp[Ref.add,Addr.add_add]
 | new i o=>simp[Ref.add,Nat.add_assoc]
theorem Ref.add_zero(r:Ref):r.add 0=r:=by
 cases r<;>simp[Ref.add,Addr.add]
theorem RRel.add{μ:Mu}{r:Ref}{a:Addr}(h:RRel μ r a)(n:Nat):RRel μ (r.add n) (a.add n):=by
 cases r with
 | old b=>simp only[RRel,Ref.add]at *;rw[h]
 | new i o =>obtain⟨L,h1,rfl⟩:=h;exact⟨L,h1,by rw[ktd,Nat.add_assoc]⟩
theorem kfd{h:AH}{i:Nat}{cs:List AV}{e:TypeId}(C:h.blks[i]?=some (.cells cs e)):Live h i:=λb A=>by rw[C]at A;cases A;simp
theorem k2b{μ:Mu}{h:AH}{w:World}(S:Sim P O μ h w){r:Ref}{a:Addr}(F:RRel μ r a){v:AV}(A:h.cell r=some v) :
  ∃u,w.cell? a=some u/\VRel μ v u/\v.one=true:=by
 cases r with
 | old b =>
  simp only[RRel]at F;subst F;simp only[AH.cell]at A;split at A
  ·rename_i c t f C;split at A
   ·simp at A
   ·rename_i U;rw[qbu]at A;obtain⟨u,H,A⟩:=A;obtain⟨h1,Q⟩:=VRel.ofCell (μ:=μ) A;refine⟨u,?_,h1,Q⟩;rw[S.old]at C
    have I:a.block<O.heap.size:=by
     rcases Nat.lt_or_ge a.block O.heap.size with h' | h'
     ·exact h'
     ·simp[Array.getElem?_eq_none h']at C
    simp only[World.cell?,S.keep _ I,C];simp[U,H]
  ·simp at A
 | new i o =>
  obtain⟨L,X,rfl⟩:=F;simp only[AH.cell]at A;split at A
  ·rename_i cs e C;obtain⟨⟨c,h1,Q,h3,Y⟩,Z⟩:=S.blk i L _ X C;obtain⟨u,H,K⟩:=Y o v A;refine⟨u,?_,K,?_⟩
   ·simp[World.cell?,h1,H]
   ·have:=List.all_eq_true.1 Z v (List.mem_of_getElem? A);exact this
  ·simp at A
theorem kp3{μ:Mu}{h:AH}{w:World}(S:Sim P O μ h w):∀(n:Nat){r:Ref}{a:Addr},RRel μ r a->∀{vs:List AV},h.gets r n=some vs->
  ∃us:List Value,us.length=n/\(∀j u,us[j]?=some u->w.cell? (a.add j)=some u)/\VRels μ vs us/\vs.all AV.one=true
 | 0,r,a,F,vs,A=>by
  simp only[AH.gets,qcb]at A;subst A;exact⟨[],rfl,by simp,qb,rfl⟩
 | n+1,r,a,F,vs,A=>by
  simp only[AH.gets,qbu,Option.map_eq_some_iff]at A;obtain⟨v,h1,ws,K,rfl⟩:=A;obtain⟨u,Q,H,C⟩:=k2b S F h1;obtain⟨us,U,X,Y,Z⟩:=kp3 S n (F.add 1) K;refine⟨u::us,by simp[U],λj x I=>?_,qc H Y,by simp[C];simpa using Z⟩;cases j with
  | zero=>simp at I;subst I;simpa[Addr.add]using Q
  | succ j =>have:=X j x (by simpa using I);rw[Addr.add_add]at this;rw[Nat.add_comm j 1];exact this
theorem kbkh{cs:List AV}{v:AV}(h:cs.all AV.one=true)(A:v.one=true)(o:Nat):(cs.set o v).all AV.one=true:=by
 rw[List.all_eq_true]at *
 intro x C;rcases List.mem_or_eq_of_mem_set C with h' | rfl
 ·exact h x h'
 ·exact A
theorem kbcr{μ:Mu}{h h':AH}{w:World}(S:Sim P O μ h w){r:Ref}{a:Addr}(hr:RRel μ r a){v:AV}{u:Value}(hv:VRel μ v u)(h1:v.one=true)(Y:h.put r v=some h') :
  (store a u).run P w=.ok () (w.setCell a u)/\Sim P O μ h' (w.setCell a u)/\Ext μ h w μ h'/\Frm μ h w (w.setCell a u):=by
 cases r with
 | old b=>simp[AH.put]at Y
 | new i o =>
  obtain⟨L,hL,rfl⟩:=hr;simp only[AH.put]at Y;split at Y
  ·rename_i cs e U;split at Y
   ·rename_i af;simp only[qcb]at Y;subst Y;obtain⟨⟨c,hc,ag,ah,ai⟩,ac⟩:=S.blk i L _ hL U
    have ad:i<h.blks.size:=by
     rcases Nat.lt_or_ge i h.blks.size with h' | h'
     ·exact h'
     ·simp[Array.getElem?_eq_none h']at U
    have Z:L.base+o<c.size:=by omega
    have am:=S.place i L hL;have aa:w.cell? ⟨L.block,L.base+o,none⟩=some c[L.base+o]:=by simp[World.cell?,hc,Z]
    have aj:w.frozen? ⟨L.block,L.base+o,none⟩=false:=by simp[World.frozen?,hc]
    have ae:(w.setCell ⟨L.block,L.base+o,none⟩ u).heap[L.block]?=some (.cells (c.setIfInBounds (L.base+o) u) e (0,0)):=by simp[World.setCell,Array.getElem?_modify,hc]
    have C:∀b,b≠L.block->(w.setCell ⟨L.block,L.base+o,none⟩ u).heap[b]?=w.heap[b]?:=λb U=>by simp only[World.setCell,Array.getElem?_modify];rw[if_neg (by simpa using λh=>U h.symm)]
    have H:∀j,Live {h with blks:=h.blks.setIfInBounds i (.cells (cs.set o v) e)} j->Live h j:=λj hj b A=>by
     by_cases F:i=j
     ·subst F;rw[U]at A;cases A;simp
     ·exact hj b (by rw[Array.getElem?_setIfInBounds_ne F];exact A)
    refine⟨?_,?_,?_,?_⟩
    ·rw[run_store P w _ u _ (hv.one h1),aa,aj];rfl
    ·refine{old:=S.old,os:=S.os,tape:=S.tape,output:=S.output,base:=by simpa using S.base,dom:=λj M I=>by simpa using S.dom j M I,keep:=λb A=>?_,place:=λj M I=>by simpa using S.place j M I,blk:=λj M b I A=>?_,inj:=λj k M N I hN lj lk X=>S.inj j k M N I hN (H j lj) (H k lk) X}
     ·rw[C b (by omega)];exact S.keep b A
     ·by_cases F:i=j
      ·subst F;rw[hL]at I;cases I;simp[ad]at A;subst A;refine⟨⟨_,ae,by simpa using ag,by simpa using ah,λk x hx=>?_⟩,kbkh ac h1 o⟩;by_cases hk:o=k
       ·subst hk;have ak:x=v:=by simpa[List.getElem?_set_self af]using hx.symm
        subst ak;exact⟨u,by simp[Z],hv⟩
       ·rw[List.getElem?_set_ne hk]at hx;obtain⟨y,hy,al⟩:=ai k x hx;exact⟨y,by rw[Array.getElem?_setIfInBounds_ne (by omega)];exact hy,al⟩
      ·rw[Array.getElem?_setIfInBounds_ne F]at A;have hB:=S.blk j M b I A;cases b with
       | dead=>trivial
       | loop st pe f fr ps as bd n =>
        have K:M.block≠L.block:=λX=>F (S.inj i j L M hL I (kfd U) (λb' Q=>by rw[A]at Q;cases Q;simp) X.symm);obtain⟨tmps,d,k1,k2⟩:=hB;exact⟨tmps,d,by rw[C _ K];exact k1,k2⟩
       | deferred=>exact hB
       | cells ds f =>
        have K:M.block≠L.block:=λX=>F (S.inj i j L M hL I (kfd U) (kfd A) X.symm);obtain⟨⟨d,k1,k2⟩,k3⟩:=hB;exact⟨⟨d,by rw[C _ K];exact k1,k2⟩,k3⟩
       | map es ck =>have K:M.block≠L.block:=λX=>F (S.inj i j L M hL I (kfd U) (λb' Q=>by rw[A]at Q;cases Q;simp) X.symm);obtain⟨us,k1,k2⟩:=hB;exact⟨us,by rw[C _ K];exact k1,k2⟩
    ·exact⟨by simp,Mu.le_refl μ,λ_ _=>rfl,λj _ hj=>H j hj,λj M h1 h2=>by simp at h2;omega⟩
    ·refine⟨by simp,λb A hn=>C b λX=>hn i L ad (kfd U) hL X.symm⟩
   ·simp at Y
  ·simp at Y
theorem kry:∀{vs:List AV}{us:List Value}{μ:Mu}{h h':AH}{w:World}(S:Sim P O μ h w){r:Ref}{a:Addr}{i:Nat}(C:RRel μ r (a.add i))(F:VRels μ vs us)(h1:vs.all AV.one=true)(A:h.puts r vs=some h'),
  ∃w',(storeCells a us i).run P w=.ok () w'/\Sim P O μ h' w'/\Ext μ h w μ h'/\Frm μ h w w'
 | [],us,μ,h,h',w,S,r,a,i,C,F,h1,A=>by
  simp only[AH.puts,qcb]at A;subst A;have:=F.nil_inv;subst this;exact⟨w,rfl,S,Ext.refl _ _ _,Frm.refl _ _ _⟩
 | v::vs,us,μ,h,h',w,S,r,a,i,C,F,h1,A=>by
  obtain⟨x,xs,rfl,X,H⟩:=F.cons_inv;simp only[AH.puts,qbu]at A;obtain⟨h2,I,K⟩:=A;simp only[List.all_cons,qb9]at h1;obtain⟨s1,s2,s3,U⟩:=kbcr S C X h1.1 I
  have Q:RRel μ (r.add 1) (a.add (i+1)):=by have:=C.add 1;rwa[Addr.add_add]at this
  obtain⟨w',t1,t2,Y,Z⟩:=kry s2 Q H h1.2 K;refine⟨w',?_,t2,s3.trans Y U.1,U.trans s3 Z⟩;simp only[storeCells,Sem.run_bind,s1,Result.andThen_ok,t1]
def Mu.set(μ:Mu)(i:Nat)(L:Loc):Mu:=λj=>if j=i then some L else μ j
theorem Mu.le_set{μ:Mu}{i:Nat}{L:Loc}(h:μ i=none):Mu.le μ (Mu.set μ i L):=λj M A=>by
 unfold Mu.set;split
 ·subst_vars;rw[h]at A;cases A
 ·exact A
theorem kd1(w:World)(o:Obj)(k:Nat)(h:k<w.heap.size):(w.alloc o).heap[k]?=w.heap[k]?:=by show(w.heap.push o)[k]?=_;rw[Array.getElem?_push,if_neg (by omega)]
theorem kmd(w:World)(o:Obj):(w.alloc o).heap[w.heap.size]?=some o:=by show(w.heap.push o)[w.heap.size]?=_;simp
theorem khe{h:AH}{i:Nat}{b:ABlk}(hi:i≠h.blks.size):Live {h with blks:=h.blks.push b} i->Live h i:=λC c A=>C c (by
 have:i<h.blks.size:=by
  rcases Nat.lt_or_ge i h.blks.size with h' | h'
  ·exact h'
  ·simp[Array.getElem?_eq_none h']at A
 rw[Array.getElem?_push,if_neg (by omega)];exact A)
theorem BRel.step{μ ν:Mu}{L:Loc}{w w':World}{b:ABlk}(h:BRel P μ L w b)(A:Mu.le μ ν)(C:b≠.dead->w'.heap[L.block]?=w.heap[L.block]?):BRel P ν L w' b:=by
 cases b with
 | dead=>trivial
 | loop st pe f fr ps as bd n =>
  have C:=C (by simp);obtain⟨tmps,d,h1,F⟩:=h;exact⟨tmps,d,by rw[C];exact h1,λfn K=>(F fn K).mono A⟩
 | deferred=>exact h
 | cells cs e =>
  have C:=C (by simp);obtain⟨⟨c,h1,F,H,Q⟩,U⟩:=h;exact⟨⟨c,by rw[C];exact h1,F,H,λj v I=>let ⟨u,a,b⟩:=Q j v I;⟨u,a,b.mono A⟩⟩,U⟩
 | map es ck =>have C:=C (by simp);obtain⟨us,h1,F,H⟩:=h;exact⟨us,by rw[C];exact h1,F,λj e I=>let ⟨u,a,b,c,d⟩:=H j e I;⟨u,a,b.mono A,c.mono A,d⟩⟩
theorem kpq{μ:Mu}{h:AH}{w:World}(S:Sim P O μ h w){cs:List AV}{us rest:List Value}(X:VRels μ cs us)(h1:cs.all AV.one=true)(e:TypeId) :
  Sim P O (Mu.set μ h.blks.size ⟨w.heap.size,0,us.length+rest.length⟩) (h.alloc (.cells cs e)) (w.alloc (.cells (us++rest).toArray e))/\
  Ext μ h w (Mu.set μ h.blks.size ⟨w.heap.size,0,us.length+rest.length⟩) (h.alloc (.cells cs e))/\
  Frm μ h w (w.alloc (.cells (us++rest).toArray e)):=by
 have Z:μ h.blks.size=none:=by
  cases hq:μ h.blks.size with
  | none=>rfl
  | some L=>have:=S.dom _ _ hq;omega
 have F:=Mu.le_set (L:=⟨w.heap.size,0,us.length+rest.length⟩) Z;refine⟨{old:=S.old,os:=S.os,tape:=S.tape,output:=S.output,base:=by have:=S.base;simp;omega,dom:=λi L A=>?_,keep:=λb C=>?_,place:=λi L A=>?_,blk:=λi L b A C=>?_,inj:=λi j L M A H li lj I=>?_},?_,?_⟩
 ·rw[kd1 _ _ _ (qbr C S.base)];exact S.keep b C
 ·unfold Mu.set at A;split at A
  ·subst_vars;simp
  ·have:=S.dom i L A;simp;omega
 ·unfold Mu.set at A;split at A
  ·cases A;have:=S.base;simp;omega
  ·have:=S.place i L A;simp;omega
 ·unfold Mu.set at A;split at A
  ·rename_i hi;subst hi;cases A;simp at C;subst C;refine⟨⟨_,kmd _ _,by simp,by simp;have:=X.length;omega,λj v hj=>?_⟩,h1⟩;obtain⟨u,Y,K⟩:=X.get j v hj
   have Q:j<us.length:=by
    rcases Nat.lt_or_ge j us.length with h' | h'
    ·exact h'
    ·simp[List.getElem?_eq_none h']at Y
   exact⟨u,by simp[List.getElem?_append_left Q,Y],K.mono F⟩
  ·rename_i hi
   have U:h.blks[i]?=some b:=by
    simp only[Array.getElem?_push]at C
    simpa[hi]using C
   exact(S.blk i L b A U).step F λ_=>kd1 _ _ _ (S.place i L A).2
 ·unfold Mu.set at A H;split at A<;>split at H
  ·omega
  ·cases A;have:=S.place j M H;simp at I;omega
  ·cases H;have:=S.place i L A;simp at I;omega
  ·exact S.inj i j L M A H (khe (by assumption) li) (khe (by assumption) lj) I
 ·refine⟨by simp,F,λi hi=>?_,λi hi hl=>khe (by omega) hl,λi L h2 h3 A=>.inl ?_⟩
  ·unfold Mu.set;rw[if_neg];omega
  ·simp at h3;have:i=h.blks.size:=by omega
   subst this;simp[Mu.set]at A;subst A;exact qbp _
 ·exact⟨by simp,λb C _=>kd1 _ _ _ C⟩
theorem ke5(μ:Mu)(i:Nat)(L:Loc):Mu.set μ i L i=some L:=by simp[Mu.set]
theorem RRel.new{μ:Mu}{i:Nat}{L:Loc}(o:Nat):RRel (Mu.set μ i L) (.new i o) ⟨L.block,L.base+o,none⟩:=⟨L,ke5 _ _ _,rfl⟩
theorem kxf{μ:Mu}{h:AH}{w:World}(S:Sim P O μ h w){b:ABlk}{o:Obj}{n:Nat}(hB:∀ν,Mu.le μ ν->BRel P ν ⟨w.heap.size,0,n⟩ (w.alloc o) b) :
  Sim P O (Mu.set μ h.blks.size ⟨w.heap.size,0,n⟩) (h.alloc b) (w.alloc o)/\Ext μ h w (Mu.set μ h.blks.size ⟨w.heap.size,0,n⟩) (h.alloc b)/\Frm μ h w (w.alloc o):=by
 have Q:μ h.blks.size=none:=by
  cases U:μ h.blks.size with
  | none=>rfl
  | some L=>have:=S.dom _ _ U;omega
 have F:=Mu.le_set (L:=⟨w.heap.size,0,n⟩) Q;refine⟨{old:=S.old,os:=S.os,tape:=S.tape,output:=S.output,base:=by have:=S.base;simp;omega,dom:=λi L A=>?_,keep:=λb C=>?_,place:=λi L A=>?_,blk:=λi L b A C=>?_,inj:=λi j L M A H X Y I=>?_},?_,?_⟩
 ·rw[kd1 _ _ _ (qbr C S.base)];exact S.keep b C
 ·unfold Mu.set at A;split at A
  ·subst_vars;simp
  ·have:=S.dom i L A;simp;omega
 ·unfold Mu.set at A;split at A
  ·cases A;have:=S.base;simp;omega
  ·have:=S.place i L A;simp;omega
 ·unfold Mu.set at A;split at A
  ·rename_i hi;subst hi;cases A;simp at C;subst C;exact hB _ F
  ·rename_i hi
   have K:h.blks[i]?=some b:=by
    simp only[Array.getElem?_push]at C
    simpa[hi]using C
   exact(S.blk i L b A K).step F λ_=>kd1 _ _ _ (S.place i L A).2
 ·unfold Mu.set at A H;split at A<;>split at H
  ·omega
  ·cases A;have:=S.place j M H;simp at I;omega
  ·cases H;have:=S.place i L A;simp at I;omega
  ·exact S.inj i j L M A H (khe (by assumption) X) (khe (by assumption) Y) I
 ·refine⟨by simp,F,λi hi=>?_,λi hi Z=>khe (by omega) Z,λi L h2 h3 A=>.inl ?_⟩
  ·unfold Mu.set;rw[if_neg];omega
  ·simp at h3;have:i=h.blks.size:=by omega
   subst this;simp[Mu.set]at A;subst A;exact qbp _
 ·exact⟨by simp,λb C _=>kd1 _ _ _ C⟩
theorem k7d{μ:Mu}{h:AH}{w:World}(S:Sim P O μ h w)(o:Obj):Sim P O μ h (w.alloc o)/\Ext μ h w μ h/\Frm μ h w (w.alloc o):=by
 refine⟨{old:=S.old,os:=S.os,tape:=S.tape,output:=S.output,base:=by have:=S.base;simp;omega,dom:=S.dom,keep:=λb A=>?_,place:=λi L C=>?_,blk:=λi L b C A=>?_,inj:=S.inj},Ext.refl _ _ _,by simp,λb A _=>kd1 _ _ _ A⟩
 ·rw[kd1 _ _ _ (qbr A S.base)];exact S.keep b A
 ·have:=S.place i L C;simp;omega
 ·exact(S.blk i L b C A).step (Mu.le_refl _) λ_=>kd1 _ _ _ (S.place i L C).2
theorem koo{h:AH}{i:Nat}{b:ABlk}(C:h.blks[i]?=some b)(F:b≠.dead):Live h i:=λb' A=>by rw[C]at A;cases A;exact F
theorem kqv{μ:Mu}{h:AH}{w:World}(S:Sim P O μ h w){i:Nat}{L:Loc}(I:μ i=some L){b b':ABlk}(U:h.blks[i]?=some b)(X:b≠.dead){o:Obj}(hB:BRel P μ L (w.putObj L.block o) b') :
  Sim P O μ (h.setBlk i b') (w.putObj L.block o)/\Ext μ h w μ (h.setBlk i b')/\Frm μ h w (w.putObj L.block o):=by
 have K:=S.dom i L I;have aa:=S.place i L I
 have A:∀j,Live (h.setBlk i b') j->Live h j:=λj Y c F=>by
  by_cases C:i=j
  ·subst C;rw[U]at F;cases F;exact X
  ·exact Y c (by simp only[AH.setBlk];rw[Array.getElem?_setIfInBounds_ne C];exact F)
 refine⟨{old:=S.old,os:=S.os,tape:=S.tape,output:=S.output,base:=by simpa using S.base,dom:=λj M H=>by simpa[AH.setBlk]using S.dom j M H,keep:=λc F=>?_,place:=λj M H=>by simpa using S.place j M H,blk:=λj M c H F=>?_,inj:=λj k M N H hN lj lk Q=>S.inj j k M N H hN (A j lj) (A k lk) Q},?_,?_⟩
 ·rw[World.putObj_heap_other (by omega)];exact S.keep c F
 ·by_cases C:i=j
  ·subst C;rw[I]at H;cases H;simp[AH.setBlk,K]at F;subst F;exact hB
  ·simp only[AH.setBlk]at F;rw[Array.getElem?_setIfInBounds_ne C]at F;refine(S.blk j M c H F).step (Mu.le_refl _) λZ=>World.putObj_heap_other λQ=>C ?_;exact(S.inj j i M L H I (koo F Z) (koo U X) Q).symm
 ·exact⟨by simp[AH.setBlk],Mu.le_refl μ,λ_ _=>rfl,λj _ Y=>A j Y,λj M h1 h2=>by simp[AH.setBlk]at h2;omega⟩
 ·exact⟨by simp,λc _ hn=>World.putObj_heap_other λQ=>hn i L K (koo U X) I Q.symm⟩
theorem kbf0{μ:Mu}{h:AH}{w:World}(S:Sim P O μ h w){r:Nat}(I:O.heap.size<=r)(H:∀i L,Live h i->μ i=some L->L.block≠r)(o:Obj):Sim P O μ h (w.putObj r o):=by
 refine{old:=S.old,os:=S.os,tape:=S.tape,output:=S.output,base:=by simpa using S.base,dom:=S.dom,keep:=λc A=>?_,place:=λj M C=>by simpa using S.place j M C,blk:=λj M c C A=>?_,inj:=S.inj}
 ·rw[World.putObj_heap_other (by omega)];exact S.keep c A
 ·exact(S.blk j M c C A).step (Mu.le_refl _) λF=>World.putObj_heap_other (H j M (koo A F) C)
end Go.Ab
namespace Go.Ab
variable{P:Program}{O:World}{R:Type}
theorem kcs{c:Bool}{x y:Option R}{r:R}(h:cond c x y=some r):(c=true/\x=some r)\/(c=false/\y=some r):=by
 cases c
 ·exact .inr ⟨rfl,h⟩
 ·exact .inl ⟨rfl,h⟩
theorem kz{c:Bool}{x:Option R}{r:R}(h:cond c x none=some r):c=true/\x=some r:=by
 cases c
 ·cases h
 ·exact⟨rfl,h⟩
theorem kej{c:Bool}{x:Option R}{r:R}(h:cond c none x=some r):c=false/\x=some r:=by
 cases c
 ·exact⟨rfl,h⟩
 ·cases h
theorem kblt{k:IntKind}{v:AV}{n:Int}(h:v.asInt k=some n):v=.int k n:=by
 cases v<;>simp[AV.asInt]at h;obtain⟨h1,A⟩:=kz h;simp at h1 A;rw[h1,A]
theorem kbae{v:AV}{b:Bool}(h:v.asBool=some b):v=.bool b:=by cases v<;>simp[AV.asBool]at h;rw[h]
theorem kbe3{v:AV}{b:ByteArray}(h:v.asStr=some b):v=.str b:=by cases v<;>simp[AV.asStr]at h;rw[h]
theorem kbj1{v:AV}{b:Option Ref}(h:v.asPtr=some b):v=.ptr b:=by cases v<;>simp[AV.asPtr]at h;rw[h]
theorem k6e{v:AV}{b:Option Nat}(h:v.asMap=some b):v=.map b:=by cases v<;>simp[AV.asMap]at h;rw[h]
theorem kbb3{v:AV}{s:Sl}(h:v.asSl=some s):v=.slice s.ref s.len s.cap:=by cases v<;>simp[AV.asSl]at h;rw[<- h]
theorem kwl{v:AV}{s:List AV}(h:v.asAgg=some s):v=.agg s:=by cases v<;>simp[AV.asAgg]at h;rw[h]
theorem k2p{v:AV}{p:TypeId×AV}(h:v.asIface=some p):v=.iface p.1 p.2:=by cases v<;>simp[AV.asIface]at h;rw[<- h]
theorem krf{l:Leaf}{x:Option AV}{k:AV->Option R}{r:R}(h:leafK l x k=some r):∃v,x=some v/\k v=some r:=by
 cases l<;>simp only[leafK,qbu]at h
 case any=>exact h
 all_goals
  obtain⟨y,⟨v,F,A⟩,C⟩:=h;refine⟨v,F,?_⟩
 ·rw[kblt A];exact C
 ·rw[kbae A];exact C
 ·rw[kbe3 A];exact C
 ·rw[kbb3 A];exact C
 ·rw[kbj1 A];exact C
 ·rw[k6e A];exact C
theorem ks8{get:Nat->Option AV}:∀{ls:List Leaf}{i:Nat}{k:List AV->Option R}{r:R},kd3 get ls i k=some r->
  ∃vs,vs.length=ls.length/\(∀j v,vs[j]?=some v->get (i+j)=some v)/\k vs=some r
 | [],i,k,r,h=>⟨[],rfl,by simp,h⟩
 | l::ls,i,k,r,h=>by
  simp only[kd3]at h;obtain⟨v,C,F⟩:=krf h;obtain⟨vs,h1,H,I⟩:=ks8 F;refine⟨v::vs,by simp[h1],λj x A=>?_,I⟩;cases j with
  | zero=>simp at A;subst A;simpa using C
  | succ j =>have:=H j x (by simpa using A);rw[show i+(j+1)=i+1+j from by omega];exact this
theorem kz4{t:TypeId}{d:TypeDesc}(h:P.underlying t=some d):∃i,P.info? t=some i:=by
 unfold Program.underlying at h;split at h
 ·rename_i u _ _ _ _ _ _ _ _ _ hi;exact⟨_,hi⟩
 ·rename_i i _ hi;exact⟨_,hi⟩
 ·cases h
theorem kpv{t:TypeId}{d:TypeDesc}(h:P.underlying t=some d)(w:World):(sizeOf t).run P w=.ok (P.cellsOf t) w:=by obtain⟨i,hi⟩:=kz4 h;simp[sizeOf,typeInfo,hi,Program.cellsOf]
theorem kok{t:TypeId}{d:TypeDesc}(h:P.underlying t=some d)(w:World):(isAgg t).run P w=.ok (isAggD d) w:=by unfold isAgg;simp only[Sem.run_bind,run_underlying h,Result.andThen_ok];cases d<;>rfl
theorem ksq{μ:Mu}{h:AH}{w:World}(S:Sim P O μ h w){r:Ref}{a:Addr}(Y:RRel μ r a){t:TypeId}{k:AV->Option R}{res:R}
  (A:loadK P t r h k=some res):∃v u,k v=some res/\VRel μ v u/\(loadVar t a).run P w=.ok u w:=by
 unfold loadK at A;split at A
 ·rename_i d H;rcases kcs A with⟨I,A⟩ | ⟨I,A⟩
  ·split at A
   ·rename_i ls Z;obtain⟨hn,A⟩:=kz A;obtain⟨vs,h1,h2,h3⟩:=ks8 A;have F:vs.length=P.cellsOf t:=by rw[h1];exact Nat.eq_of_beq_eq_true hn
    have hg:∀(vs:List AV)(r:Ref),(∀(j:Nat)(v:AV),vs[j]?=some v->h.cell (r.add j)=some v)->h.gets r vs.length=some vs:=by
     intro vs
     induction vs with
     | nil=>intro r _;rfl
     | cons v vs ih =>intro r C;have h0:=C 0 v (by simp);rw[Ref.add_zero]at h0;have K:=ih (r.add 1) (λj x hx=>by rw[Ref.add_add,Nat.add_comm];exact C (j+1) x (by simpa using hx));simp[AH.gets,h0,K]
    obtain⟨us,k1,k2,k3,k4⟩:=kp3 S vs.length Y (hg vs r (λj v Q=>by have:=h2 j v Q;simpa using this));refine⟨.agg vs,.agg us.toArray,h3,?_,?_⟩
    ·simp only[VRel];exact⟨us.toArray,rfl,by simpa using k3,k4⟩
    ·have U:=run_loadCells_list (P:=P) w a us (λj v Q=>k2 j v Q);rw[k1,F]at U;simp[loadVar,kok H,I,kpv H,U]
   ·cases A
  ·split at A
   ·rename_i l U;obtain⟨v,hv,A⟩:=krf A;obtain⟨u,hu,X,_⟩:=k2b S Y hv;refine⟨v,u,A,X,?_⟩;simp[loadVar,kok H,I,hu]
   ·cases A
 ·cases A
theorem kdf{t:TypeId}{v:AV}{k:AV->Option R}{r:R}(h:seeK P t v k=some r):k v=some r:=by
 unfold seeK at h;split at h
 ·rcases kcs h with⟨_,h⟩ | ⟨_,h⟩
  ·split at h
   ·rename_i ls _;rw[qbu]at h;obtain⟨cs,C,h⟩:=h;obtain⟨F,h⟩:=kz h;obtain⟨vs,h1,H,I⟩:=ks8 h;rw[kwl C]
    have:vs=cs:=by
     have F:=Nat.eq_of_beq_eq_true F;apply List.ext_getElem?;intro j;rcases Nat.lt_or_ge j vs.length with A | A
     ·have:=H j vs[j] (by simp[A]);simp[qb4 A]
      simpa using this.symm
     ·rw[List.getElem?_eq_none A,List.getElem?_eq_none (by omega)]
    rw[<- this];exact I
   ·cases h
  ·split at h
   ·obtain⟨x,K,h⟩:=krf h;cases K;exact h
   ·cases h
 ·cases h
theorem kbgy{t:TypeId}{v:AV}{k:AV->Option R}{r:R}(h:aggK P t v k=some r):k v=some r:=by
 unfold aggK at h;split at h
 ·rename_i d C;cases A:isAggD d with
  | true=>rw[A,cond_true]at h;exact kdf h
  | false=>rw[A,cond_false]at h;exact h
 ·cases h
theorem kbk6{v:AV}{x:Unit}(h:v.asTup0=some x):v=.tup []:=by
 unfold AV.asTup0 at h;split at h
 ·rfl
 ·cases h
theorem kbhe{v:AV}{p:AV×AV}(h:v.asTup2=some p):v=.tup [p.1,p.2]:=by
 unfold AV.asTup2 at h;split at h
 ·cases h;rfl
 ·cases h
theorem kbki{v:AV}{p:AV×AV×AV}(h:v.asTup3=some p):v=.tup [p.1,p.2.1,p.2.2]:=by
 unfold AV.asTup3 at h;split at h
 ·cases h;rfl
 ·cases h
theorem k7s{v:AV}{p:AV×AV×AV×AV}(h:v.asTup4=some p):v=.tup [p.1,p.2.1,p.2.2.1,p.2.2.2]:=by
 unfold AV.asTup4 at h;split at h
 ·cases h;rfl
 ·cases h
theorem kug{t:TypeId}{v:AV}{k:AV->Option R}{r:R}(h:khl P t v k=some r):k v=some r:=by
 unfold khl at h;split at h
 ·split at h
  case h_5=>cases h
  all_goals
   simp only[qbu]at h;obtain⟨p,h1,F⟩:=h
  ·rw[kbk6 h1];exact F
  ·rw[kbhe h1];have A:=kdf F;have C:=kdf A;exact C
  ·rw[kbki h1];have A:=kdf F;have C:=kdf A;have H:=kdf C;exact H
  ·rw[k7s h1];have A:=kdf F;have C:=kdf A;have H:=kdf C;have I:=kdf H;exact I
 ·exact kdf h
theorem krg{μ:Mu}{t:TypeId}{v:AV}{k:List AV->Option R}{r:R}(h:cellsK P t v k=some r){u:Value}(C:VRel μ v u) :
  ∃cs,k cs=some r/\VRels μ cs u.cells.toList/\cs.all AV.one=true/\u.cells.size=P.cellsOf t/\cs.length=P.cellsOf t/\∃d,P.underlying t=some d:=by
 unfold cellsK at h;split at h
 ·rename_i d H;rcases kcs h with⟨_,h⟩ | ⟨_,h⟩
  ·rw[qbu]at h;obtain⟨cs,F,h⟩:=h;obtain⟨A,h⟩:=kz h;have A:=Nat.eq_of_beq_eq_true A;rw[kwl F]at C;simp only[VRel]at C;obtain⟨us,rfl,I,K⟩:=C;refine⟨cs,h,I,K,?_,A,d,H⟩;have:=I.length;simp[Value.cells]at *
   omega
  ·obtain⟨A,h⟩:=kz h;obtain⟨h1,h⟩:=kz h;have A:=Nat.eq_of_beq_eq_true A;have:=C.cells_one h1;refine⟨[v],h,?_,by simp[h1],by rw[this];simp[A],by simp[A],d,H⟩;rw[this];exact qc C qb
 ·cases h
theorem k00{μ:Mu}{t:TypeId}{zs:List AV}(h:kch P t=some zs)(w:World) :
  ∃z,(zeroValue t).run P w=.ok z w/\VRels μ zs z.cells.toList/\zs.all AV.one=true:=by
 unfold kch at h;split at h
 ·rename_i i hi;split at h
  ·rename_i z A;obtain⟨h1,C⟩:=VRels.ofCells (μ:=μ) h;exact⟨z,by simp[zeroValue,typeInfo,hi,A],h1,C⟩
  ·cases h
 ·cases h
theorem Fr.get_cons(s:Nat)(v:AV)(fr:Fr)(t:Nat):Fr.get ((s,v)::fr) t=if s=t then some v else Fr.get fr t:=by
 simp only[Fr.get];by_cases h:s=t
 ·subst h;simp
 ·have:Nat.beq s t=false:=by
   cases A:Nat.beq s t with
   | false=>rfl
   | true=>exact absurd (Nat.eq_of_beq_eq_true A) h
  simp[this,h]
theorem FRel.put{μ:Mu}{N:Nat}{fr:Fr}{a:Act}(h:FRel μ N fr a.tmps){t:Nat}(H:t<N){v:AV}{u:Value}(I:VRel μ v u):FRel μ N ((t,v)::fr) (a.put (some t) u).tmps:=by
 refine⟨by simp[Act.put,h.size],λs x A=>?_⟩;rw[Fr.get_cons]at A;split at A
 ·rename_i C;subst C;cases A;exact⟨u,by simp[Act.put,h.size,H],I⟩
 ·rename_i C;obtain⟨y,K,F⟩:=h.get s x A;exact⟨y,by simp only[Act.put];rw[Array.getElem?_setIfInBounds_ne C];exact K,F⟩
theorem FRel.learn{μ:Mu}{N:Nat}{fr:Fr}{tmps:Array Value}(h:FRel μ N fr tmps){t:Nat}{v x:AV}(C:fr.get t=some x)(F:∀u,VRel μ x u->VRel μ v u):FRel μ N ((t,v)::fr) tmps:=by
 refine⟨h.size,λs y A=>?_⟩;rw[Fr.get_cons]at A;split at A
 ·rename_i H;subst H;cases A;obtain⟨u,h1,I⟩:=h.get t x C;exact⟨u,h1,F u I⟩
 ·exact h.get s y A
theorem FRel.keep{μ:Mu}{N:Nat}{fr:Fr}{tmps:Array Value}(h:FRel μ N fr tmps)(L:List Nat):FRel μ N (fr.keep L) tmps:=by
 refine⟨h.size,λt v A=>h.get t v ?_⟩
 induction L with
 | nil=>simp[Fr.keep,Fr.get]at A
 | cons s L ih =>
  simp only[Fr.keep]at A;split at A
  ·rename_i x C;rw[Fr.get_cons]at A;split at A
   ·rename_i F;subst F;cases A;exact C
   ·exact ih A
  ·exact ih A
theorem kbc{μ:Mu}{N:Nat}{fr:Fr}{a:Act}(h:FRel μ N fr a.tmps){x:Operand}{v:AV}(A:evO fr x=some v):VRel μ v (a.eval x):=by
 cases x with
 | tmp t =>
  simp only[evO]at A;obtain⟨u,F,C⟩:=h.get t v A;simp only[Act.eval,Array.getD_eq_getD_getElem?,F,Option.getD_some];exact C
 | const c=>exact VRel.ofValue A
 | global g =>
  simp only[evO,qcb]at A;subst A;simp[VRel,RRel,Act.eval]
 | func f =>simp only[evO,qcb]at A;subst A;simp only[VRel,Act.eval];exact⟨.func f,#[],#[],rfl,rfl,qb,qb⟩
theorem kdz{μ:Mu}{N:Nat}{fr:Fr}{a:Act}(h:FRel μ N fr a.tmps):∀{xs:List Operand}{vs:List AV},evs fr xs=some vs->VRels μ vs (xs.map a.eval)
 | [],vs,A=>by simp only[evs,qcb]at A;subst A;exact qb
 | x::xs,vs,A=>by
  simp only[evs]at A;split at A
  ·rename_i v ws h1 C;simp only[qcb]at A;subst A;exact qc (kbc h h1) (kdz h C)
  ·cases A
end Go.Ab
namespace Go.Ab
variable{P:Program}{O:World}{R:Type}
def Good(P:Program)(O:World)(μ:Mu)(h:AH)(w:World)(v:AV)(h':AH)(u:Value)(w':World):Prop:=∃ν,VRel ν v u/\Sim P O ν h' w'/\Ext μ h w ν h'/\Frm μ h w w'
theorem Good.pure{μ:Mu}{h:AH}{w:World}(S:Sim P O μ h w){v:AV}{u:Value}(A:VRel μ v u):Good P O μ h w v h u w:=⟨μ,A,S,Ext.refl _ _ _,Frm.refl _ _ _⟩
abbrev qd:=@Good.pure
def Yields(P:Program)(s:Sem Value)(w:World)(G:Value->World->Prop):Prop:=∃u w',s.run P w=.ok u w'/\G u w'
theorem k6c{op:BinOp}{kd:IntKind}{a b:Int}{k:AV->Option R}{r:R}(h:intK op kd a b k=some r)(t:TypeId)(w:World) :
  ∃v u,k v=some r/\(∀μ,VRel μ v u)/\(binOp op t (.int kd a) (.int kd b)).run P w=.ok u w:=by
 cases op<;>simp only[intK]at h
 case shl=>cases h
 case shr=>cases h
 case quo =>obtain⟨h1,A⟩:=kej h;refine⟨_,.int kd (kd.wrap (a.tdiv b)),A,λμ=>by simp[VRel],?_⟩;simp at h1;simp[binOp,Op.intDiv,h1]
 case rem =>obtain⟨h1,A⟩:=kej h;refine⟨_,.int kd (a.tmod b),A,λμ=>by simp[VRel],?_⟩;simp at h1;simp[binOp,Op.intDiv,h1]
 case add=>exact⟨_,.int kd (kd.wrap (a+b)),h,λμ=>by simp[VRel],by simp[binOp,Op.intArith]⟩
 case sub=>exact⟨_,.int kd (kd.wrap (a-b)),h,λμ=>by simp[VRel],by simp[binOp,Op.intArith]⟩
 case mul=>exact⟨_,.int kd (kd.wrap (a*b)),h,λμ=>by simp[VRel],by simp[binOp,Op.intArith]⟩
 case and=>exact⟨_,.int kd (iand kd a b),h,λμ=>by simp[VRel],by simp[binOp,Op.intBits,iand]⟩
 case or=>exact⟨_,.int kd (ior kd a b),h,λμ=>by simp[VRel],by simp[binOp,Op.intBits,ior]⟩
 case xor=>exact⟨_,.int kd (ixor kd a b),h,λμ=>by simp[VRel],by simp[binOp,Op.intBits,ixor]⟩
 case andNot=>exact⟨_,.int kd (kk8 kd a b),h,λμ=>by simp[VRel],by simp[binOp,Op.intBits,kk8]⟩
 case eql=>exact⟨_,.bool (decide (a=b)),h,λμ=>by simp[VRel],by simp[binOp,Op.intCmp];rfl⟩
 case neq=>exact⟨_,.bool (!decide (a=b)),h,λμ=>by simp[VRel],by simp[binOp,Op.intCmp];rfl⟩
 case lss=>exact⟨_,.bool (decide (a<b)),h,λμ=>by simp[VRel],by simp[binOp,Op.intCmp]⟩
 case leq=>exact⟨_,.bool (decide (a<=b)),h,λμ=>by simp[VRel],by simp[binOp,Op.intCmp]⟩
 case gtr=>exact⟨_,.bool (decide (a>b)),h,λμ=>by simp[VRel],by simp[binOp,Op.intCmp]⟩
 case geq=>exact⟨_,.bool (decide (a>=b)),h,λμ=>by simp[VRel],by simp[binOp,Op.intCmp]⟩
theorem kp4(op:BinOp)(t:TypeId)(x y:Operand)(k A:IntKind)(a b:Int)(w:World):(eqGuard op t x y (.int k a) (.int A b)).run P w=.ok () w:=by unfold eqGuard;cases op<;>rfl
theorem kf0{t:TypeId}{u v:Value}{b:Bool}{w:World}(op:BinOp)(C:op=.eql\/op=.neq)
  (F:∀o:BinOp,(o=.eql->binOp o t u v=do pure (.bool (<- Op.equal t u v)))/\(o=.neq->binOp o t u v=do pure (.bool (!(<- Op.equal t u v)))))
  (H:∀n:Nat,(Op.equalIn (n+1) t u v).run P w=.ok b w):(binOp op t u v).run P w=.ok (.bool (if op=.eql then b else !b)) w:=by
 have A:(Op.equal t u v).run P w=.ok b w:=H 9999;rcases C with rfl | rfl
 ·rw[(F .eql).1 rfl];simp only[Sem.run_bind,A,Result.andThen_ok,Sem.run_pure,if_true]
 ·rw[(F .neq).2 rfl];simp only[Sem.run_bind,A,Result.andThen_ok,Sem.run_pure];rfl
theorem kbif{μ:Mu}{x y:AV}{b:Bool}(h:eqCell x y=some b){u v:Value}(C:VRel μ x u)(H:VRel μ y v){t:TypeId}{d:TypeDesc}(I:P.underlying t=some d)
  (F:fits x d=true) (op:BinOp) (A:op=.eql\/op=.neq) (Q U:Operand) (w:World) :
  (eqGuard op t Q U u v).run P w=.ok () w/\(binOp op t u v).run P w=.ok (.bool (if op=.eql then b else !b)) w:=by
 unfold eqCell at h;split at h
 ·rename_i k a X a';simp only[VRel]at C H;subst C;subst H;refine⟨kp4 _ _ _ _ _ _ _ _ _,?_⟩;obtain⟨h1,K⟩:=kz h;simp at h1 K;subst h1;subst K;rcases A with rfl | rfl
  ·simp[binOp,Op.intCmp];rfl
  ·simp[binOp,Op.intCmp];rfl
 ·rename_i a a';simp only[VRel]at C H;subst C;subst H;cases h;cases d<;>simp[fits]at F;refine⟨by rcases A with rfl | rfl<;>rfl,kf0 op A (λo=>⟨λe=>by subst e;rfl,λe=>by subst e;rfl⟩) ?_⟩;intro n;simp[Op.equalIn,run_underlying I]
 ·rename_i a a';simp only[VRel]at C H;subst C;subst H;simp at h;rcases A with rfl | rfl<;>exact⟨rfl,by simp[binOp,Op.stringOp,<- h]⟩
 ·rename_i r n c Y Z;simp only[VRel]at H;obtain⟨_,_,rfl⟩:=H;cases h;cases d<;>simp[fits]at F;cases r with
  | none =>
   simp only[VRel]at C;obtain⟨_,_,rfl⟩:=C;refine⟨by rcases A with rfl | rfl<;>rfl,kf0 op A (λo=>⟨λe=>by subst e;rfl,λe=>by subst e;rfl⟩) ?_⟩;intro n;simp[Op.equalIn,run_underlying I]
  | some r =>simp only[VRel]at C;obtain⟨a,c,rfl,_⟩:=C;refine⟨by rcases A with rfl | rfl<;>rfl,kf0 op A (λo=>⟨λe=>by subst e;rfl,λe=>by subst e;rfl⟩) ?_⟩;intro n;simp[Op.equalIn,run_underlying I]
 ·rename_i r;simp only[VRel]at H;subst H;cases h;cases d<;>simp[fits]at F;cases r with
  | none =>
   simp only[VRel]at C;subst C;refine⟨by rcases A with rfl | rfl<;>rfl,kf0 op A (λo=>⟨λe=>by subst e;rfl,λe=>by subst e;rfl⟩) ?_⟩;intro n;simp[Op.equalIn,run_underlying I]
  | some r =>simp only[VRel]at C;obtain⟨a,_,rfl⟩:=C;refine⟨by rcases A with rfl | rfl<;>rfl,kf0 op A (λo=>⟨λe=>by subst e;rfl,λe=>by subst e;rfl⟩) ?_⟩;intro n;simp[Op.equalIn,run_underlying I]
 ·rename_i r;simp only[VRel]at H;subst H;cases h;cases d<;>simp[fits]at F;cases r with
  | none =>
   simp only[VRel]at C;subst C;refine⟨by rcases A with rfl | rfl<;>rfl,kf0 op A (λo=>⟨λe=>by subst e;rfl,λe=>by subst e;rfl⟩) ?_⟩;intro n;simp[Op.equalIn,run_underlying I]
  | some r =>simp only[VRel]at C;obtain⟨a,_,rfl⟩:=C;refine⟨by rcases A with rfl | rfl<;>rfl,kf0 op A (λo=>⟨λe=>by subst e;rfl,λe=>by subst e;rfl⟩) ?_⟩;intro n;simp[Op.equalIn,run_underlying I]
 ·simp only[VRel]at C H;subst C;subst H;cases h;cases d<;>simp[fits]at F;refine⟨by rcases A with rfl | rfl<;>rfl,kf0 op A (λo=>⟨λe=>by subst e;rfl,λe=>by subst e;rfl⟩) ?_⟩;intro n;simp[Op.equalIn,run_underlying I]
 ·simp only[VRel]at C H;obtain⟨g,x,y,rfl,_⟩:=C;subst H;cases h;cases d<;>simp[fits]at F;refine⟨by rcases A with rfl | rfl<;>rfl,kf0 op A (λo=>⟨λe=>by subst e;rfl,λe=>by subst e;rfl⟩) ?_⟩;intro n;simp[Op.equalIn,run_underlying I]
 ·cases h
theorem klf{μ:Mu}{t:TypeId}{cs:List AV}{off:Nat}{v:AV}(h:partA P t cs off=some v){us:Array Value}(H:VRels μ cs us.toList)(h1:cs.all AV.one=true)(w:World) :
  ∃u,(part t us off).run P w=.ok u w/\VRel μ v u:=by
 unfold partA at h;split at h
 ·rename_i d A;rcases kcs h with⟨C,h⟩ | ⟨C,h⟩
  ·obtain⟨Q,h⟩:=kz h;cases h;refine⟨.agg (us.extract off (off+P.cellsOf t)),by simp[part,kok A,C,kpv A],?_⟩;simp only[VRel];refine⟨_,rfl,?_,?_⟩
   ·have:=(H.drop off).take (P.cellsOf t);rw[Array.toList_extract]
    simpa[List.extract]using this
   ·rw[List.all_eq_true]at h1|-;exactλx K=>h1 x (List.mem_of_mem_drop (List.mem_of_mem_take K))
  ·obtain⟨u,I,F⟩:=H.get off v h;refine⟨u,?_,F⟩;simp only[Array.getElem?_toList]at I;simp[part,kok A,C,I]
 ·cases h
theorem kbme{μ:Mu}{x y:AV}{b:Bool}(h:eqCell x y=some b){u v:Value}(C:VRel μ x u)(F:VRel μ y v){t:TypeId}{d:TypeDesc}(H:P.underlying t=some d)
  (A:fits x d=true) (K:isStr x=false) (n:Nat) (w:World):(Op.equalIn (n+1) t u v).run P w=.ok b w:=by
 unfold eqCell at h;split at h
 ·rename_i k a Q a';simp only[VRel]at C F;subst C;subst F;obtain⟨h1,I⟩:=kz h;simp at h1 I;subst h1;subst I;cases d<;>simp[fits]at A;simp[Op.equalIn,run_underlying H];rfl
 ·rename_i a a';simp only[VRel]at C F;subst C;subst F;cases h;cases d<;>simp[fits]at A;simp[Op.equalIn,run_underlying H]
 ·simp[isStr]at K
 ·rename_i r n c U X;simp only[VRel]at F;obtain⟨_,_,rfl⟩:=F;cases h;cases d<;>simp[fits]at A;cases r with
  | none =>
   simp only[VRel]at C;obtain⟨_,_,rfl⟩:=C;simp[Op.equalIn,run_underlying H]
  | some r =>simp only[VRel]at C;obtain⟨a,c,rfl,_⟩:=C;simp[Op.equalIn,run_underlying H]
 ·rename_i r;simp only[VRel]at F;subst F;cases h;cases d<;>simp[fits]at A;cases r with
  | none =>
   simp only[VRel]at C;subst C;simp[Op.equalIn,run_underlying H]
  | some r =>simp only[VRel]at C;obtain⟨a,_,rfl⟩:=C;simp[Op.equalIn,run_underlying H]
 ·rename_i r;simp only[VRel]at F;subst F;cases h;cases d<;>simp[fits]at A;cases r with
  | none =>
   simp only[VRel]at C;subst C;simp[Op.equalIn,run_underlying H]
  | some r =>simp only[VRel]at C;obtain⟨a,_,rfl⟩:=C;simp[Op.equalIn,run_underlying H]
 ·simp only[VRel]at C F;subst C;subst F;cases h;cases d<;>simp[fits]at A;simp[Op.equalIn,run_underlying H]
 ·simp only[VRel]at C F;obtain⟨g,x,y,rfl,_⟩:=C;subst F;cases h;cases d<;>simp[fits]at A;simp[Op.equalIn,run_underlying H]
 ·cases h
theorem ky2{μ:Mu}(w:World):∀(d:Nat)(t:TypeId)(x y:AV)(b:Bool),eqD P d t x y=some b->∀(u v:Value),VRel μ x u->VRel μ y v->∀n,(Op.equalIn (d+n) t u v).run P w=.ok b w
 | 0,t,x,y,b,h,_,_,_,_,_=>by simp[eqD]at h
 | d+1,t,x,y,b,h,u,v,F,H,n=>by
  rw[show d+1+n=(d+n)+1 from by omega];have IH:=ky2 (μ:=μ) w d;unfold eqD at h;split at h
  ·rename_i fs A;split at h
   ·rename_i xs ys;obtain⟨I,h'⟩:=kej h;clear h;have h:=h';clear h';simp only[VRel]at F H;obtain⟨us,rfl,U,h1⟩:=F;obtain⟨vs,rfl,X,Y⟩:=H;have K:P.fieldsOf t=fs:=by simp[Program.fieldsOf,A]
    rw[run_equalIn_struct w (d+n) t us vs (by rw[K];exact A) I,K];clear A K I;generalize fs.toList=l at h|-
    induction l generalizing b with
    | nil=>simp[eqFs]at h;simp[Op.eqFields,h]
    | cons f l ih =>
     simp only[eqFs]at h;obtain⟨hn,h⟩:=kej h;simp only[qbu,Option.map_eq_some_iff]at h;obtain⟨a,Z,c,hc,r,hr,s,Q,rfl⟩:=h;obtain⟨ua,ra,va⟩:=klf Z U h1 w;obtain⟨uc,rc,vc⟩:=klf hc X Y w;have C:=IH _ _ _ _ hr _ _ va vc n;have aa:f.name≠ "_" := by simpa using hn
     simp only[Op.eqFields,aa,ne_eq,not_false_eq_true,if_true,Sem.run_bind,ra,rc,C,Result.andThen_ok];cases r
     ·simp
     ·simpa using ih s Q
   ·cases h
  ·rename_i m e A;split at h
   ·rename_i de xs ys ac;simp only[VRel]at F H;obtain⟨us,rfl,U,h1⟩:=F;obtain⟨vs,rfl,X,Y⟩:=H;obtain⟨i,hi⟩:=kz4 ac;rw[run_equalIn_array w (d+n) us vs A hi];generalize List.range m=l at h
    induction l generalizing b with
    | nil=>simp[eqIs]at h;simp[Op.eqItems,h]
    | cons f l ih =>
     simp only[eqIs,qbu,Option.map_eq_some_iff]at h;obtain⟨a,Z,c,hc,r,hr,s,Q,rfl⟩:=h;obtain⟨ua,ra,va⟩:=klf Z U h1 w;obtain⟨uc,rc,vc⟩:=klf hc X Y w;have C:=IH _ _ _ _ hr _ _ va vc n;simp only[Op.eqItems,Sem.run_bind,ra,rc,C,Result.andThen_ok];cases r
     ·simp
     ·simpa using ih s Q
   ·cases h
  ·rename_i dd _ _ A;obtain⟨Q,h⟩:=kej h;obtain⟨K,h⟩:=kz h;exact kbme h F H A K Q (d+n) w
  ·cases h
end Go.Ab
namespace Go.Ab
variable{P:Program}{O:World}{R:Type}
theorem kblz{μ:Mu}{op:BinOp}{t:TypeId}{x y:AV}{k:AV->Option R}{r:R}(h:binK P op t x y k=some r){u v:Value}(H:VRel μ x u)(I:VRel μ y v)(Y Z:Operand)(w:World) :
  ∃z a,k z=some r/\VRel μ z a/\(eqGuard op t Y Z u v).run P w=.ok () w/\(binOp op t u v).run P w=.ok a w:=by
 have C:∀(neg:Bool),(op=if neg then .neq else .eql)->(∃b,eqAV P t x y=some b/\k (.bool (if neg then !b else b))=some r)->
   ∃z a,k z=some r/\VRel μ z a/\(eqGuard op t Y Z u v).run P w=.ok () w/\(binOp op t u v).run P w=.ok a w:=by
  intro neg K ⟨b,A,U⟩;have F:op=.eql\/op=.neq:=by cases neg<;>simp at K<;>simp[K]
  have Q:(if op=.eql then b else !b)=(if neg then !b else b):=by cases neg<;>simp at K<;>subst K<;>simp
  unfold eqAV at A;split at A
  ·rename_i xs ys;obtain⟨hg,A⟩:=kej A;simp only[VRel]at H I;obtain⟨us,rfl,hu,h1⟩:=H;obtain⟨vs,rfl,hv,h2⟩:=I;have hE:=ky2 (P:=P) (μ:=μ) w 20 t _ _ b A (.agg us) (.agg vs) (by simp only[VRel];exact⟨us,rfl,hu,h1⟩) (by simp only[VRel];exact⟨vs,rfl,hv,h2⟩) 9980;have X:(Op.equal t (.agg us) (.agg vs)).run P w=.ok b w:=hE;refine⟨_,.bool (if neg then !b else b),U,by simp[VRel],?_,?_⟩
   ·rcases F with rfl | rfl<;>simp[eqGuard,hg]
   ·rw[<- Q];rcases F with rfl | rfl
    ·show(do pure (.bool (<- Op.equal t (.agg us) (.agg vs))):Sem Value).run P w=_;simp only[Sem.run_bind,X,Result.andThen_ok,Sem.run_pure,if_true]
    ·show(do pure (.bool (!(<- Op.equal t (.agg us) (.agg vs)))):Sem Value).run P w=_;simp only[Sem.run_bind,X,Result.andThen_ok,Sem.run_pure];rfl
  ·split at A
   ·rename_i d hd;obtain⟨_,A⟩:=kej A;obtain⟨hf,A⟩:=kz A;obtain⟨e1,e2⟩:=kbif A H I hd hf op F Y Z w;refine⟨_,.bool (if neg then !b else b),U,by simp[VRel],e1,?_⟩;rw[e2,Q]
   ·cases A
 unfold binK at h;split at h
 ·rename_i kd a _ b;obtain⟨h1,h⟩:=kej h;simp only[VRel]at H I;subst H;subst I;simp at h1;refine⟨_,.int kd (ishl kd a b),h,by simp[VRel],kp4 _ _ _ _ _ _ _ _ _,?_⟩;have:¬b<0:=by omega
  simp[binOp,Op.shift,this,ishl]
 ·rename_i kd a _ b;obtain⟨h1,h⟩:=kej h;simp only[VRel]at H I;subst H;subst I;simp at h1;refine⟨_,.int kd (ishr kd a b),h,by simp[VRel],kp4 _ _ _ _ _ _ _ _ _,?_⟩;have:¬b<0:=by omega
  simp[binOp,Op.shift,this,ishr]
 ·rename_i kd a aa b _ _;obtain⟨h1,h2⟩:=kz h;simp only[VRel]at H I;simp at h1;subst h1;obtain⟨z,a',e1,e2,e3⟩:=k6c h2 t w;subst H;subst I;exact⟨z,a',e1,e2 μ,kp4 _ _ _ _ _ _ _ _ _,e3⟩
 ·rw[qbu]at h;obtain⟨b,A,U⟩:=h;exact C false rfl ⟨b,A,U⟩
 ·rw[qbu]at h;obtain⟨b,A,U⟩:=h;exact C true rfl ⟨b,A,U⟩
 ·cases h
theorem k8p{μ:Mu}{op:UnOp}{x:AV}{k:AV->Option R}{r:R}(h:unK op x k=some r){u:Value}(A:VRel μ x u)(w:World) :
  ∃z a,k z=some r/\VRel μ z a/\(Op.unary op u).run P w=.ok a w:=by
 unfold unK at h;split at h
 ·rename_i kd n;simp only[VRel]at A;subst A;exact⟨_,.int kd (kd.wrap (0-n)),h,by simp[VRel],by simp[Op.unary,Op.intArith]⟩
 ·rename_i kd n;simp only[VRel]at A;subst A;refine⟨_,.int kd (ixor kd (cond kd.signed (-1) kd.max) n),h,by simp[VRel],?_⟩;simp only[Op.unary,Op.intBits,ixor];cases kd.signed<;>rfl
 ·rename_i b;simp only[VRel]at A;subst A;exact⟨_,.bool (!b),h,by simp[VRel],by simp[Op.unary]⟩
 ·cases h
theorem kbe4{μ:Mu}{s d:TypeId}{x:AV}{k:AV->Option R}{r:R}(h:kkc P s d x k=some r){u:Value}(A:VRel μ x u)(w:World) :
  ∃z a,k z=some r/\VRel μ z a/\(convert s d u).run P w=.ok a w:=by
 unfold kkc at h;split at h
 ·rename_i F kd _ n h1 C;simp only[VRel]at A;subst A;refine⟨_,.int kd (kd.wrap n),h,by simp[VRel],?_⟩;simp[convert,run_underlying h1,run_underlying C,Conv.intToInt]
 ·rename_i s' h1 C;simp only[VRel]at A;subst A;exact⟨_,.string s',h,by simp[VRel],by simp[convert,run_underlying h1,run_underlying C]⟩
 ·cases h
theorem k3o{μ:Mu}{h:AH}{w:World}(S:Sim P O μ h w){cs:List AV}{us:List Value}(A:VRels μ cs us)(h1:cs.all AV.one=true)(e:TypeId) :
  Good P O μ h w (.ptr (some h.next)) (h.alloc (.cells cs e)) (.pointer (some ⟨w.heap.size,0,none⟩)) (w.alloc (.cells us.toArray e)):=by
 obtain⟨a,b,c⟩:=kpq (rest:=[]) S A h1 e;simp only[List.append_nil]at a b c;refine⟨_,?_,a,b,c⟩;simp only[VRel];exact⟨_,RRel.new 0,rfl⟩
theorem k4r{μ:Mu}{i:Nat}{L:Loc}(A:L.base=0)(n:Nat):VRel (Mu.set μ i L) (.slice (some (.new i 0)) n (.is n)) (.slice (some ⟨L.block,0,none⟩) n n):=by simp only[VRel];exact⟨_,n,rfl,.inr ⟨L,ke5 _ _ _,by simp[A]⟩,qbp _,rfl⟩
theorem kbla(vs:List Value):∀(k off:Nat)(cells:Array Value),off+k+vs.length<=cells.size->
  ((vs.zipIdx k).foldl (λcs (c:Value×Nat)=>cs.setIfInBounds (off+c.2) c.1) cells).toList=cells.toList.take (off+k)++vs++cells.toList.drop (off+k+vs.length):=by
 induction vs with
 | nil=>intro k off cells h;simp
 | cons v vs ih =>
  intro k off cells h;simp only[qb2]at h;simp only[List.zipIdx_cons,List.foldl_cons];rw[ih (k+1) off _ (by simp;omega)];simp only[Array.toList_setIfInBounds]
  have h1:(cells.toList.set (off+k) v).take (off+(k+1))=cells.toList.take (off+k)++[v]:=by rw[show off+(k+1)=(off+k)+1 from by omega,qch (by simp;omega)];rw[List.take_set_of_le (qbp _)];simp
  have A:(cells.toList.set (off+k) v).drop (off+(k+1)+vs.length)=cells.toList.drop (off+k+(vs.length+1)):=by rw[List.drop_set_of_lt (by omega)];congr 1;omega
  rw[h1,A];simp
theorem kbad{cells cs:List AV}(h:cells.all AV.one=true)(k:cs.all AV.one=true)(off:Nat):(splice cells off cs).all AV.one=true:=by
 rw[List.all_eq_true]at *
 intro x A;simp only[splice,qb5]at A;rcases A with(A | A) | A
 ·exact h x (List.mem_of_mem_take A)
 ·exact k x A
 ·exact h x (List.mem_of_mem_drop A)
theorem klz{μ:Mu}{place:Nat->Option (Nat×TypeId)}{rp:Nat->Option (Nat×Nat)}(X:∀i off t,place i=some (off,t)->rp i=some (off,P.cellsOf t)) :
  ∀{A:List (Nat×AV)}{cells:List AV}{k:List AV->Option R}{r:R},fillK P place A cells k=some r->
  ∀{us:List Value}{arr:Array Value},VRels μ (A.map (·.2)) us->VRels μ cells arr.toList->cells.all AV.one=true->
  ∃cs out,k cs=some r/\Instr.fill rp arr ((A.map (·.1)).zip us)=some out/\VRels μ cs out.toList/\cs.all AV.one=true/\out.size=arr.size
 | [],cells,k,r,h,us,arr,I,C,h1=>by
  have:=I.nil_inv;subst this;exact⟨cells,arr,h,rfl,C,h1,rfl⟩
 | (i,v)::rest,cells,k,r,h,us,arr,I,C,h1=>by
  obtain⟨x,xs,rfl,hx,K⟩:=I.cons_inv;simp only[fillK]at h;split at h
  ·cases h
  ·rename_i off t Q;obtain⟨cs,h,Y,e2,Z,e4,_⟩:=krg h hx;obtain⟨hb,h⟩:=kz h;have aa:off+cs.length<=cells.length:=Nat.le_of_ble_eq_true hb;have U:=C.length;have F:=Y.length;have ac:off+x.cells.size<=arr.size:=by simp at U F;omega
   have hf:=kbla x.cells.toList 0 off arr (by simp;omega)
   have H:VRels μ (splice cells off cs) ((x.cells.toList.zipIdx 0).foldl (λcs (c:Value×Nat)=>cs.setIfInBounds (off+c.2) c.1) arr).toList:=by rw[hf];simp only[splice,Nat.add_zero];refine((C.take off).append Y).append ?_;rw[F];exact C.drop _
   obtain⟨cs',out,f1,f2,f3,f4,f5⟩:=klz X h K H (kbad h1 e2 off);refine⟨cs',out,f1,?_,f3,f4,?_⟩
   ·simp only[List.map_cons,List.zip_cons_cons,Instr.fill,X i off t Q];rw[if_neg (by simp[Z];rw[<- Z];omega)]
    have hz:x.cells.zipIdx.foldl (λcs (c:Value×Nat)=>cs.setIfInBounds (off+c.2) c.1) arr=(x.cells.toList.zipIdx 0).foldl (λcs (c:Value×Nat)=>cs.setIfInBounds (off+c.2) c.1) arr:=by rw[<- Array.foldl_toList,Array.toList_zipIdx]
    exact(congrArg (λq=>Instr.fill rp q ((rest.map (·.1)).zip xs)) hz).trans f2
   ·rw[f5];have:=congrArg List.length hf;simp only[Array.length_toList,qb0,qcf,List.length_drop]at this;omega
end Go.Ab
namespace Go.Ab
variable{P:Program}{O:World}{R:Type}
def OpGoes(P:Program)(o:Oper)(a:Act)(w:World)(G:Value->World->Prop):Prop:=∀(next:Act->World->Prop)(Q:Exit->Act->World->Prop),(∀u w',G u w'->next (a.put o.dst u) w')->o.wp P a w next Q
theorem OpGoes.of_value{o:Oper}{a:Act}{w w':World}{u:Value}{G:Value->World->Prop}(h:(execOp a.eval o).run P w=.ok (.value u) w')(g:G u w'):OpGoes P o a w G:=λnext Q A=>by unfold Oper.wp;rw[h,Oper.upon_value];exact A u w' g
abbrev qe:=@OpGoes.of_value
theorem OpGoes.of_skip{o:Oper}{a:Act}{w w':World}{G:Value->World->Prop}(h:(execOp a.eval o).run P w=.ok .skip w')(g:G undef w'):OpGoes P o a w G:=λnext Q A=>by unfold Oper.wp;rw[h,Oper.upon_skip];exact A undef w' g
theorem OpGoes.of_call{o:Oper}{a:Act}{w w':World}{f:FuncId}{args:Array Value}{G:Value->World->Prop}(h:(execOp a.eval o).run P w=.ok (.enter f args) w')
  (g:Calls P f args w' λe A=>∃u,e=.returned u/\G u A):OpGoes P o a w G:=λnext Q C=>by
 unfold Oper.wp;rw[h,Oper.upon_enter];refine g.mono λe A ⟨u,F,H⟩=>?_;subst F;exact C u A H
theorem OpGoes.of_sem{o:Oper}{a:Act}{w w':World}{u:Value}{s:Sem Value}{G:Value->World->Prop}(A:execOp a.eval o=(do pure (.value (<- s))))(h:s.run P w=.ok u w')(g:G u w'):OpGoes P o a w G:=qe (by rw[A];simp only[Sem.run_bind,h,Result.andThen_ok,Sem.run_pure]) g
abbrev qf:=@OpGoes.of_sem
def OpOk(P:Program)(O:World)(μ:Mu)(h:AH)(w:World)(o:Oper)(a:Act)(k:AV->AH->Option R)(r:R):Prop:=∃v h1,k v h1=some r/\OpGoes P o a w (Good P O μ h w v h1)
theorem kvo(n:Nat)(zs:Array Value)(C:0<n->0<zs.size):((Array.range (n*zs.size)).map (zs[· % zs.size]!)).toList=(List.replicate n zs.toList).flatten:=by
 simp only[Array.toList_map,Array.toList_range]
 induction n with
 | zero=>simp
 | succ n ih =>
  have A:=C (by omega);have ih:=ih (λh=>A);rw[List.replicate_succ',List.flatten_append,<- ih,show(n+1)*zs.size=n*zs.size+zs.size from by rw[Nat.succ_mul],List.range_add,List.map_append];congr 1;simp only[List.map_map,List.flatten_cons,List.flatten_nil,List.append_nil];apply List.ext_getElem
  ·simp
  ·intro i h1 F;simp at h1;simp[Nat.mul_add_mod_self_right,Nat.mod_eq_of_lt h1,getElem!_pos,h1]
theorem koz(l:List AV)(n:Nat):repC l n=(List.replicate n l).flatten:=by
 induction n with
 | zero=>rfl
 | succ n ih=>simp[repC,ih,List.replicate_succ]
theorem VRels.rep{μ:Mu}{vs:List AV}{us:List Value}(h:VRels μ vs us):∀n,VRels μ (List.replicate n vs).flatten (List.replicate n us).flatten
 | 0=>qb
 | n+1=>by simp only[List.replicate_succ,List.flatten_cons];exact h.append (VRels.rep h n)
theorem ks5{vs:List AV}(h:vs.all AV.one=true)(n:Nat):(repC vs n).all AV.one=true:=by
 rw[koz];simp only[List.all_eq_true]at *
 intro x A;simp only[List.mem_flatten,List.mem_replicate]at A;obtain⟨l,⟨_,rfl⟩,A⟩:=A;exact h x A
theorem kbi0(k:IntKind)(n:Int)(w:World):(asInt (.int k n)).run P w=.ok n w:=rfl
theorem k27{μ:Mu}{r:Option Ref}{n:Nat}{i:Int}{size:Nat}{q:Ref}(h:idx r n i size=some q):∃A,r=some A/\0<=i/\i<n/\q=A.add (i.toNat*size):=by
 unfold idx at h;split at h
 ·rename_i A;obtain⟨h1,C⟩:=kz h;simp at h1;cases C;exact⟨A,rfl,h1.1,h1.2,rfl⟩
 ·cases h
theorem kbdm{C:Array Field}{F:List (Nat×Nat)}(h:kqs P C=some F)(i off:Nat)(t:TypeId)(hi:((C.toList[i]?).map λf=>(f.offset,f.type))=some (off,t)):F[i]?=some (off,P.cellsOf t):=by
 unfold kqs at h;generalize C.toList=l at h hi
 induction l generalizing F i with
 | nil=>simp at hi
 | cons f l ih =>
  rw[List.mapM_cons]at h;simp only[bind,qbu,Option.map_eq_some_iff,pure,qcb]at h;obtain⟨p,⟨I,H,rfl⟩,rest,A,rfl⟩:=h;cases i with
  | zero =>
   simp at hi;obtain⟨rfl,rfl⟩:=hi;simp[Program.cellsOf,H]
  | succ i =>
   have:=ih i A (by simpa using hi)
   simpa using this
theorem kk4{μ:Mu}{t:TypeId}{zs:List AV}(h:kch P t=some zs) :
  ∃z i,P.info? t=some i/\i.zero=some z/\VRels μ zs z.cells.toList/\zs.all AV.one=true:=by
 unfold kch at h;split at h
 ·rename_i i hi;split at h
  ·rename_i z A;obtain⟨h1,C⟩:=VRels.ofCells (μ:=μ) h;exact⟨z,i,hi,A,h1,C⟩
  ·cases h
 ·cases h
theorem kbbb{rec:Rec}{μ:Mu}{N:Nat}{fr:Fr}{h:AH}{w:World}{o:Oper}{a:Act}(S:Sim P O μ h w)(F:FRel μ N fr a.tmps){t:TypeId}{A:Array (Nat×Operand)}(ho:o.op=.build t A)
  {k:AV->AH->Option R} {r:R} (hk:opK P rec o.op o.type fr h k=some r):OpOk P O μ h w o a k r:=by
 obtain⟨dst,op,type,pos,K,guard⟩:=o;dsimp only at hk ho;subst ho;simp only[opK]at hk;have aa:execOp a.eval ⟨dst,.build t A,type,pos,K,guard⟩=(do pure (.value (<- Instr.build t (A.map λ(i,x)=>(i,a.eval x))))):=rfl
 have H:(A.map λ(i,x)=>(i,a.eval x)).toList=(A.toList.map (·.1)).zip ((A.toList.map (·.2)).map a.eval):=by
  simp only[Array.toList_map,List.map_map];generalize A.toList=l
  induction l with
  | nil=>rfl
  | cons p l ih=>simp[ih]
 have I:∀vs:List AV,evs fr (A.toList.map (·.2))=some vs->((A.toList.map (·.1)).zip vs).map (·.1)=A.toList.map (·.1)/\((A.toList.map (·.1)).zip vs).map (·.2)=vs:=by intro vs C;have:=(kdz F C).length;simp only[qb1]at this;exact⟨List.map_fst_zip (by rw[qb1];omega),List.map_snd_zip (by rw[qb1];omega)⟩
 split at hk
 ·rename_i vs zs fs C hz hd;obtain⟨hp,Q⟩:=kz hk;obtain⟨pl,U⟩:=Option.isSome_iff_exists.1 hp;obtain⟨z,ti,X,Y,h2,h3⟩:=kk4 (μ:=μ) hz;obtain⟨m1,m2⟩:=I vs C;obtain⟨cs,out,Z,f1,f2,f3,f4⟩:=klz (μ:=μ) (rp:=λi=>pl.toArray[i]?) (λi off t' hi=>by simpa using kbdm U i off t' hi) Q (us:=(A.toList.map (·.2)).map a.eval) (arr:=z.cells) (by rw[m2];exact kdz F C) h2 h3;refine⟨_,h,Z,qf aa (run_build w t _ out ?_) (qd S (by simp only[VRel];exact⟨out,rfl,f2,f3⟩))⟩;rw[H];rw[m1]at f1;unfold kqs at U;simp only[Program.built,X,hd,Y,U];exact f1
 ·rename_i vs zs n e C hz hd;obtain⟨hp,Q⟩:=kz hk;obtain⟨ie,ac⟩:=Option.isSome_iff_exists.1 hp;obtain⟨z,ti,X,Y,h2,h3⟩:=kk4 (μ:=μ) hz;obtain⟨m1,m2⟩:=I vs C;obtain⟨cs,out,Z,f1,f2,f3,f4⟩:=klz (μ:=μ) (rp:=λi=>some (i*ie.size,ie.size)) (λi off t' hi=>by simp at hi;obtain⟨rfl,rfl⟩:=hi;simp[Program.cellsOf,ac]) Q (us:=(A.toList.map (·.2)).map a.eval) (arr:=z.cells) (by rw[m2];exact kdz F C) h2 h3;refine⟨_,h,Z,qf aa (run_build w t _ out ?_) (qd S (by simp only[VRel];exact⟨out,rfl,f2,f3⟩))⟩;rw[H];rw[m1]at f1;simp only[Program.built,X,hd,Y,ac];exact f1
 ·cases hk
theorem kbi7{rec:Rec}{μ:Mu}{N:Nat}{fr:Fr}{h:AH}{w:World}{o:Oper}{a:Act}(S:Sim P O μ h w)(F:FRel μ N fr a.tmps){t:TypeId}{n:Nat}{A:Array (Nat×Operand)}(ho:o.op=.buildSlice t n A)
  {k:AV->AH->Option R} {r:R} (H:opK P rec o.op o.type fr h k=some r):OpOk P O μ h w o a k r:=by
 obtain⟨dst,op,type,pos,I,guard⟩:=o;dsimp only at H ho;subst ho;simp only[opK]at H;have aa:execOp a.eval ⟨dst,.buildSlice t n A,type,pos,I,guard⟩=(do pure (.value (<- Instr.buildSlice t n (A.map λ(i,x)=>(i,a.eval x))))):=rfl
 have K:(A.map λ(i,x)=>(i,a.eval x)).toList=(A.toList.map (·.1)).zip ((A.toList.map (·.2)).map a.eval):=by
  simp only[Array.toList_map,List.map_map];generalize A.toList=l
  induction l with
  | nil=>rfl
  | cons p l ih=>simp[ih]
 split at H
 ·rename_i vs e Q hd;split at H
  ·rename_i zs hz;obtain⟨hb,ac⟩:=kz H;simp only[qb9]at hb;have ah:n*P.cellsOf e<=16777216:=Nat.le_of_ble_eq_true hb.1;have ai:zs.length=P.cellsOf e:=Nat.eq_of_beq_eq_true hb.2;obtain⟨z,ti,U,ad,h2,h3⟩:=kk4 (μ:=μ) hz;have ae:z.cells.size=P.cellsOf e:=by have:=h2.length;simp at this;omega
   have C:=(kdz F Q).length;simp only[qb1]at C;have m1:((A.toList.map (·.1)).zip vs).map (·.1)=A.toList.map (·.1):=List.map_fst_zip (by rw[qb1];exact Nat.le_of_eq C);have m2:((A.toList.map (·.1)).zip vs).map (·.2)=vs:=List.map_snd_zip (by rw[qb1];exact Nat.le_of_eq C.symm)
   have X:((Array.range (n*P.cellsOf e)).map (z.cells[· % z.cells.size]!)).toList=(List.replicate n z.cells.toList).flatten:=by
    by_cases h0:P.cellsOf e=0
    ·have:z.cells.toList=[]:=by apply List.eq_nil_of_length_eq_zero;rw[Array.length_toList];omega
     rw[h0,this];simp[Array.range_zero']
    ·rw[<- ae];exact kvo n z.cells (by omega)
   obtain⟨cs,out,af,Y,f2,f3,f4⟩:=klz (μ:=μ) (rp:=λi=>some (i*P.cellsOf e,P.cellsOf e)) (λi off t' hi=>by simp at hi|-;exact⟨hi.1,by rw[hi.2]⟩) ac (us:=(A.toList.map (·.2)).map a.eval) (arr:=(Array.range (n*P.cellsOf e)).map (z.cells[· % z.cells.size]!))
    (by rw[m2];exact kdz F Q) (by rw[X,koz];exact h2.rep n) (ks5 h3 n)
   rw[m1,<- K]at Y;obtain⟨g1,g2,g3⟩:=kpq (rest:=[]) S (us:=out.toList) f2 f3 e;simp only[List.append_nil,Array.toArray_toList]at g1 g2 g3;refine⟨_,_,af,qf aa (w':=w.alloc (.cells out e)) (u:=.slice (some ⟨w.heap.size,0,none⟩) n n) ?_ ⟨_,k4r rfl n,g1,g2,g3⟩⟩;have hs:(sizeOf e).run P w=.ok (P.cellsOf e) w:=by simp[sizeOf,typeInfo,U,Program.cellsOf]
   have Z:¬(16777216<n*P.cellsOf e):=by omega
   by_cases h0:n*P.cellsOf e=0
   ·have ag:∀f g:Nat->Value,(Array.range (n*P.cellsOf e)).map f=(Array.range (n*P.cellsOf e)).map g:=λf g=>by rw[h0];simp[Array.range_zero']
    rw[ag (z.cells[· % z.cells.size]!) ((#[]:Array Value)[· % (#[]:Array Value).size]!)]at Y;simp only[Instr.buildSlice,Sem.run_bind,run_underlying hd,Result.andThen_ok,hs,Sem.run_ite,if_neg Z,h0,if_true,Sem.run_pure];rw[h0]at Y;simp only[Y,newRow,Sem.run_bind,run_newObj,Result.andThen_ok,Sem.run_pure];rfl
   ·simp only[Instr.buildSlice,Sem.run_bind,run_underlying hd,Result.andThen_ok,hs,Sem.run_ite,if_neg Z,if_neg h0,zeroValue,typeInfo,run_program,U,ad,Sem.run_pure,Y,newRow,run_newObj];rfl
  ·cases H
 ·cases H
theorem kba6{rec:Rec}{μ:Mu}{N:Nat}{fr:Fr}{h:AH}{w:World}{o:Oper}{a:Act}(S:Sim P O μ h w)(F:FRel μ N fr a.tmps){t:TypeId}{l c:Operand}(ho:o.op=.makeSlice t l c)
  {k:AV->AH->Option R} {r:R} (A:opK P rec o.op o.type fr h k=some r):OpOk P O μ h w o a k r:=by
 obtain⟨dst,op,type,pos,ac,guard⟩:=o;dsimp only at A ho;subst ho;simp only[opK]at A;split at A
 ·rename_i k1 l' k2 I e hl hc hd;split at A
  ·rename_i zs hz;obtain⟨hb,K⟩:=kz A;have hb:=Nat.eq_of_beq_eq_true hb;rw[qbu]at K;obtain⟨q,hq,ad⟩:=K;unfold kby at hq;obtain⟨Q,U⟩:=kz hq;simp only[qbw]at Q;obtain⟨b1,b2,b3,b4⟩:=Q;simp only[qcb]at U;subst U;obtain⟨z,C,H,ae,h2,h3⟩:=kk4 (μ:=μ) hz;have af:z.cells.size=C.size:=by have:=h2.length;simp[Program.cellsOf,H]at this hb;omega
   have X:=kbc F hl;have Y:=kbc F hc;simp only[VRel]at X Y;have hm:(ks:Int)=70368744177664:=rfl;rw[hm]at b3 b4
   have ag:(C.bytes:Int)*I<=281474976710656:=by
    have ah:P.bytesOf e=C.bytes:=by simp[Program.bytesOf,H]
    rw[ah,Int.mul_comm]at b4;omega
   have Z:=run_make (P:=P) w t e C z hd H ae k1 k2 l' I b1 b2 ag (by omega)
   have aa:(madeCells z.cells (I.toNat*C.size)).toList=(List.replicate I.toNat z.cells.toList).flatten:=by
    unfold madeCells;by_cases h0:C.size=0
    ·have:z.cells.toList=[]:=by apply List.eq_nil_of_length_eq_zero;rw[Array.length_toList];omega
     rw[h0,this];simp[Array.range_zero']
    ·rw[<- af];exact kvo _ z.cells (by omega)
   obtain⟨g1,g2,g3⟩:=kpq (rest:=[]) S (cs:=repC zs I.toNat) (us:=(madeCells z.cells (I.toNat*C.size)).toList) (by rw[aa,koz];exact h2.rep _) (ks5 h3 _) e;simp only[List.append_nil,Array.toArray_toList]at g1 g2 g3;refine⟨_,_,ad,qf (s:=Instr.makeSlice t (a.eval l) (a.eval c)) rfl (by rw[X,Y];exact Z) ⟨_,?_,g1,g2,g3⟩⟩;simp only[VRel,Sl.v];exact⟨_,_,rfl,.inr (RRel.new 0),by omega,rfl⟩
  ·cases A
 ·cases A
theorem k99{rec:Rec}{μ:Mu}{N:Nat}{fr:Fr}{h:AH}{w:World}{o:Oper}{a:Act}(S:Sim P O μ h w)(F:FRel μ N fr a.tmps){s:TypeId}{x:Operand}{f:Nat}(Z:o.op=.fieldAddr s x f)
  {k:AV->AH->Option R} {r:R} (H:opK P rec o.op o.type fr h k=some r):OpOk P O μ h w o a k r:=by
 obtain⟨dst,op,type,pos,U,guard⟩:=o;dsimp only at H Z;subst Z;simp only[opK]at H;split at H
 ·rename_i p C hp A;obtain⟨h0,I⟩:=kej H;rw[qbu]at I;obtain⟨q,hq,X⟩:=I;subst hq;have Q:=kbc F hp;simp only[VRel]at Q;obtain⟨ad,Q,he⟩:=Q;unfold ko5 at A;split at A
  ·rename_i fs hd;have K:P.cellsOf C.type≠0:=λe=>by rw[e]at h0;cases h0
   have hs:∃i,P.info? C.type=some i:=by
    cases hi:P.info? C.type with
    | none=>simp[Program.cellsOf,hi]at K
    | some i=>exact⟨i,rfl⟩
   obtain⟨i,hi⟩:=hs;have Y:(sizeOf C.type).run P w=.ok (P.cellsOf C.type) w:=by simp[sizeOf,typeInfo,hi,Program.cellsOf]
   simp only[Array.getElem?_toList]at A;refine⟨_,h,X,qf (s:=Instr.fieldAt s (a.eval x) f) (u:=.pointer (some (ad.add C.offset))) rfl ?_ (qd S (by simp only[VRel];exact⟨_,Q.add _,rfl⟩))⟩;rw[he];simp[Instr.fieldAt,run_underlying hd,A,Instr.sureAddr,fieldPlace,Y,K]
  ·cases A
 ·cases H
theorem kbga{rec:Rec}{μ:Mu}{N:Nat}{fr:Fr}{h:AH}{w:World}{o:Oper}{a:Act}(S:Sim P O μ h w)(F:FRel μ N fr a.tmps){t:TypeId}{x:Operand}{f:Nat}(U:o.op=.field t x f)
  {k:AV->AH->Option R} {r:R} (C:opK P rec o.op o.type fr h k=some r):OpOk P O μ h w o a k r:=by
 obtain⟨dst,op,type,pos,H,guard⟩:=o;dsimp only at C U;subst U;simp only[opK]at C;split at C
 ·rename_i cs fd Y A;rw[qbu]at C;obtain⟨v,Z,I⟩:=C;have X:=kbc F Y;simp only[VRel]at X;obtain⟨us,he,K,h1⟩:=X;unfold ko5 at A;split at A
  ·rename_i fs hd;simp only[Array.getElem?_toList]at A;obtain⟨u,hu,Q⟩:=klf Z K h1 w;refine⟨v,h,I,qf (s:=Instr.field t (a.eval x) f) rfl ?_ (qd S Q)⟩;rw[he];simp[Instr.field,run_underlying hd,A,asAgg,hu]
  ·cases A
 ·cases C
theorem k89{rec:Rec}{μ:Mu}{N:Nat}{fr:Fr}{h:AH}{w:World}{o:Oper}{a:Act}(S:Sim P O μ h w)(F:FRel μ N fr a.tmps){t:TypeId}{x i:Operand}(ho:o.op=.indexAddr t x i)
  {k:AV->AH->Option R} {r:R} (U:opK P rec o.op o.type fr h k=some r):OpOk P O μ h w o a k r:=by
 obtain⟨dst,op,type,pos,aa,guard⟩:=o;dsimp only at U ho;subst ho;simp only[opK]at U;split at U
 ·rename_i p n cp kd j e hx hi hd;obtain⟨A,C⟩:=kz U;rw[qbu]at C;obtain⟨q,hq,I⟩:=C;obtain⟨r',rfl,j0,j1,rfl⟩:=k27 (μ:=μ) hq;have X:=kbc F hx;have H:=kbc F hi;simp only[VRel]at X H;obtain⟨Z,c,he,ac,Y⟩:=X;obtain⟨ie,K⟩:=Option.isSome_iff_exists.1 A;have hs:(sizeOf e).run P w=.ok (P.cellsOf e) w:=by simp[sizeOf,typeInfo,K,Program.cellsOf]
  have Q:RRel μ r' Z:=by
   rcases ac with h0 | h0
   ·have:n<=c:=by cases cp<;>exact Y.1
    omega
   ·exact h0
  refine⟨_,h,I,qf (s:=Instr.indexAt t (a.eval x) (a.eval i)) (u:=.pointer (some (Z.add (j.toNat*P.cellsOf e)))) rfl ?_ (qd S (by simp only[VRel];exact⟨_,Q.add _,rfl⟩))⟩;rw[he,H];simp[Instr.indexAt,asIntOf,run_underlying hd,j0,j1,hs]
 ·rename_i p kd j n e hx hi hd;obtain⟨A,C⟩:=kz U;rw[qbu]at C;obtain⟨q,hq,I⟩:=C;obtain⟨r',rfl,j0,j1,rfl⟩:=k27 (μ:=μ) hq;have X:=kbc F hx;have H:=kbc F hi;simp only[VRel]at X H;obtain⟨Z,Q,he⟩:=X;obtain⟨ie,K⟩:=Option.isSome_iff_exists.1 A;have hs:(sizeOf e).run P w=.ok (P.cellsOf e) w:=by simp[sizeOf,typeInfo,K,Program.cellsOf]
  refine⟨_,h,I,qf (s:=Instr.indexAt t (a.eval x) (a.eval i)) (u:=.pointer (some (Z.add (j.toNat*P.cellsOf e)))) rfl ?_ (qd S (by simp only[VRel];exact⟨_,Q.add _,rfl⟩))⟩;rw[he,H];simp[Instr.indexAt,asIntOf,run_underlying hd,j0,j1,hs,Instr.sureAddr]
 ·cases U
theorem kbm0{rec:Rec}{μ:Mu}{N:Nat}{fr:Fr}{h:AH}{w:World}{o:Oper}{a:Act}(S:Sim P O μ h w)(F:FRel μ N fr a.tmps){t:TypeId}{x i:Operand}(ho:o.op=.index t x i)
  {k:AV->AH->Option R} {r:R} (I:opK P rec o.op o.type fr h k=some r):OpOk P O μ h w o a k r:=by
 obtain⟨dst,op,type,pos,X,guard⟩:=o;dsimp only at I ho;subst ho;simp only[opK]at I;split at I
 ·rename_i cs kd j n e Y hi Z;obtain⟨K,A⟩:=kz I;simp only[qbw]at K;rw[qbu]at A;obtain⟨v,U,C⟩:=A;have Q:=kbc F Y;have H:=kbc F hi;simp only[VRel]at Q H;obtain⟨us,he,aa,h1⟩:=Q;obtain⟨u,hu,ac⟩:=klf U aa h1 w
  have ad:∃d,P.underlying e=some d:=by
   unfold partA at U;split at U
   ·exact⟨_,‹_›⟩
   ·cases U
  obtain⟨d,ae⟩:=ad;have C:=kbgy C;refine⟨v,h,C,qf (s:=Instr.index t (a.eval x) (a.eval i)) rfl ?_ (qd S ac)⟩;rw[he,H];simp[Instr.index,asIntOf,run_underlying Z,K.1,K.2,kpv ae,hu]
 ·rename_i s kd j Y hi Z;obtain⟨K,A⟩:=kz I;simp only[qbw]at K;rw[qbu]at A;obtain⟨b,hb,C⟩:=A;have Q:=kbc F Y;have H:=kbc F hi;simp only[VRel]at Q H;refine⟨_,h,C,qf (s:=Instr.index t (a.eval x) (a.eval i)) (u:=.int .u8 (b.toNat:Int)) rfl ?_ (qd S (by simp[VRel]))⟩;rw[Q,H];simp[Instr.index,asIntOf,run_underlying Z,K,hb]
 ·cases I
theorem kbjo{rec:Rec}{μ:Mu}{N:Nat}{fr:Fr}{h:AH}{w:World}{o:Oper}{a:Act}(S:Sim P O μ h w)(F:FRel μ N fr a.tmps){t:TypeId}{x y:Operand}(X:o.op=.store t x y)
  {k:AV->AH->Option R} {r:R} (A:opK P rec o.op o.type fr h k=some r):OpOk P O μ h w o a k r:=by
 obtain⟨dst,op,type,pos,K,guard⟩:=o;dsimp only at A X;subst X;simp only[opK]at A;split at A
 ·rename_i p v Y Z;obtain⟨cs,C,h1,h2,h3,h4,d,hd⟩:=krg A (kbc F Z);rw[qbu]at C;obtain⟨q,hq,H⟩:=C;subst hq;rw[qbu]at H;obtain⟨h',Q,U⟩:=H;have I:=kbc F Y;simp only[VRel]at I;obtain⟨ad,I,he⟩:=I;obtain⟨w',e1,e2,e3,e4⟩:=kry (i:=0) S (by simpa[Addr.add]using I) h1 h2 Q;refine⟨_,h',U,OpGoes.of_skip (w':=w') ?_ ⟨μ,by simp[VRel,undef,VRels],e2,e3,e4⟩⟩;simp only[execOp,Sem.run_bind];rw[he];simp[Instr.storeAt,Instr.sureAddr,storeVar,kpv hd,h3,e1]
 ·cases A
theorem khs{μ:Mu}{N:Nat}{fr:Fr}{a:Act}(F:FRel μ N fr a.tmps){x:Option Operand}{d:Int}{k:Int->Option R}{r:R}(h:boundK fr x d k=some r) :
  ∃n,k n=some r/\((x.map a.eval=none/\n=d)\/∃kd,x.map a.eval=some (.int kd n)):=by
 unfold boundK at h;split at h
 ·exact⟨d,h,.inl ⟨rfl,rfl⟩⟩
 ·split at h
  ·rename_i kd n A;have:=kbc F A;simp only[VRel]at this;exact⟨n,h,.inr ⟨kd,by simp[this]⟩⟩
  ·cases h
theorem kgd{kd:IntKind}{n:Int}{y:Nat}{c:BoundsCode}(h0:0<=n)(h1:n<=y)(w:World):(Instr.sliceBound (.int kd n) y c).run P w=.ok n.toNat w:=by simp[Instr.sliceBound,asIntOf,h0,h1]
theorem kvs{isS:Bool}{len cap:Nat}{lo hi:Option Value}{l h:Int}(A:(lo=none/\l=0)\/∃kd,lo=some (.int kd l))(C:(hi=none/\h=(len:Int))\/∃kd,hi=some (.int kd h))
  (b:0<=l/\l<=h/\h<=(cap:Int)) (w:World):(Instr.sliceBounds isS len cap lo hi none).run P w=.ok (l.toNat,h.toNat,cap) w:=by
 obtain⟨b1,b2,b3⟩:=b;rcases A with⟨rfl,rfl⟩ | ⟨F,rfl⟩<;>rcases C with⟨rfl,rfl⟩ | ⟨H,rfl⟩
 ·simp[Instr.sliceBounds]
 ·simp[Instr.sliceBounds,kgd (P:=P) (show 0<=h by omega) b3]
 ·simp[Instr.sliceBounds,kgd (P:=P) b1 b2]
 ·simp[Instr.sliceBounds,kgd (P:=P) (show 0<=h by omega) b3,kgd (P:=P) b1 (show l<=(h.toNat:Int) by omega)]
theorem kbcb{isS:Bool}{len cap:Nat}{lo hi A:Option Value}{l h m:Int}(C:(lo=none/\l=0)\/∃kd,lo=some (.int kd l))(F:∃kd,hi=some (.int kd h))(H:∃kd,A=some (.int kd m))
  (b:0<=l/\l<=h/\h<=m/\m<=(cap:Int)) (w:World):(Instr.sliceBounds isS len cap lo hi A).run P w=.ok (l.toNat,h.toNat,m.toNat) w:=by
 obtain⟨b1,b2,b3,b4⟩:=b;obtain⟨I,rfl⟩:=F;obtain⟨km,rfl⟩:=H;rcases C with⟨rfl,rfl⟩ | ⟨K,rfl⟩
 ·simp[Instr.sliceBounds,kgd (P:=P) (show 0<=m by omega) b4,kgd (P:=P) (show 0<=h by omega) (show h<=(m.toNat:Int) by omega)]
 ·simp[Instr.sliceBounds,kgd (P:=P) (show 0<=m by omega) b4,kgd (P:=P) (show 0<=h by omega) (show h<=(m.toNat:Int) by omega),kgd (P:=P) b1 (show l<=(h.toNat:Int) by omega)]
theorem k25{μ:Mu}{r:Option Ref}{n:Nat}{c:Cap}{l h:Int}{size:Nat}{s:Sl}(K:cutSl ⟨r,n,c⟩ l h size=some s){u:Value}(F:VRel μ (.slice r n c) u) :
  ∃C cap,u=.slice C n cap/\(0<=l/\l<=h/\h<=(cap:Int))/\VRel μ s.v (.slice (if cap=l.toNat then C else C.map (·.add (l.toNat*size))) (h.toNat-l.toNat) (cap-l.toNat)):=by
 unfold cutSl at K;cases c with
 | is c =>
  obtain⟨b,Q⟩:=kz K;simp only[qbw]at b;simp only[qcb]at Q;subst Q;cases r with
  | none =>
   simp only[VRel]at F;obtain⟨rfl,Y,rfl⟩:=F;cases Y;have hl:l=0:=by omega
   have hh:h=0:=by omega
   subst hl;subst hh;exact⟨none,0,rfl,by simp,by simp[VRel,Sl.v]⟩
  | some r =>
   simp only[VRel]at F;obtain⟨C,H,rfl,I,Z,aa⟩:=F;subst aa;refine⟨some C,H,rfl,b,?_⟩;by_cases A:H=l.toNat
   ·simp only[A,if_true,Sl.v,VRel];exact⟨C,_,rfl,.inl (by omega),by omega,rfl⟩
   ·simp only[A,if_false,Sl.v,Option.map_some,VRel];refine⟨_,_,rfl,?_,by omega,rfl⟩;rcases I with h0 | h0
    ·omega
    ·exact .inr (h0.add _)
 | opn sz =>
  obtain⟨hz,K⟩:=kz K;have hz:=Nat.eq_of_beq_eq_true hz;subst hz;obtain⟨b,Q⟩:=kz K;simp only[qbw]at b;simp only[qcb]at Q;subst Q;cases r with
  | none =>
   simp only[VRel]at F;obtain⟨_,Y,_⟩:=F;cases Y
  | some r =>
   simp only[VRel]at F;obtain⟨C,H,rfl,I,Z,i,o,L,rfl,hL,U⟩:=F;refine⟨some C,H,rfl,⟨b.1,b.2.1,by omega⟩,?_⟩;have ac:l.toNat<=H:=by omega
   have X:l.toNat*sz+(H-l.toNat)*sz=H*sz:=by rw[<- Nat.add_mul];congr 1;omega
   by_cases A:H=l.toNat
   ·simp only[A,if_true,Sl.v,Option.map_some,VRel];exact⟨C,_,rfl,.inl (by omega),by omega,i,_,L,rfl,hL,by rw[A]at X U;omega⟩
   ·simp only[A,if_false,Sl.v,Option.map_some,VRel];refine⟨_,_,rfl,?_,by omega,i,_,L,rfl,hL,by omega⟩;rcases I with h0 | h0
    ·omega
    ·exact .inr (h0.add _)
theorem kbfr{μ:Mu}{r:Option Ref}{n:Nat}{c:Cap}{l h m:Int}{size:Nat}{s:Sl}(K:cutSl3 ⟨r,n,c⟩ l h m size=some s){u:Value}(C:VRel μ (.slice r n c) u) :
  ∃A cap,u=.slice A n cap/\(0<=l/\l<=h/\h<=m/\m<=(cap:Int))/\VRel μ s.v (.slice (if m.toNat=l.toNat then A else A.map (·.add (l.toNat*size))) (h.toNat-l.toNat) (m.toNat-l.toNat)):=by
 unfold cutSl3 at K;cases c with
 | is c =>
  obtain⟨b,F⟩:=kz K;simp only[qbw]at b;simp only[qcb]at F;subst F;cases r with
  | none =>
   simp only[VRel]at C;obtain⟨rfl,Q,rfl⟩:=C;cases Q;have Z:l=0:=by omega
   have hh:h=0:=by omega
   have hm:m=0:=by omega
   subst Z;subst hh;subst hm;exact⟨none,0,rfl,by simp,by simp[VRel,Sl.v]⟩
  | some r =>
   simp only[VRel]at C;obtain⟨A,U,rfl,H,X,Y⟩:=C;subst Y;refine⟨some A,U,rfl,b,?_⟩;by_cases I:m.toNat=l.toNat
   ·simp only[I,if_true,Sl.v,VRel];exact⟨A,_,rfl,.inl (by omega),by omega,rfl⟩
   ·simp only[I,if_false,Sl.v,Option.map_some,VRel];refine⟨_,_,rfl,?_,by omega,rfl⟩;rcases H with h0 | h0
    ·omega
    ·exact .inr (h0.add _)
 | opn sz =>
  obtain⟨b,F⟩:=kz K;simp only[qbw]at b;simp only[qcb]at F;obtain⟨rfl,rfl,rfl⟩:=b;subst F;cases r with
  | none =>
   simp only[VRel]at C;obtain⟨_,Q,_⟩:=C;cases Q
  | some r =>simp only[VRel]at C;obtain⟨A,U,rfl,H,X,_⟩:=C;refine⟨some A,U,rfl,by simp,?_⟩;simp only[if_true,Sl.v,VRel];exact⟨A,_,rfl,.inl (by simp),by simp,rfl⟩
theorem k83{rec:Rec}{μ:Mu}{N:Nat}{fr:Fr}{h:AH}{w:World}{o:Oper}{a:Act}(S:Sim P O μ h w)(F:FRel μ N fr a.tmps){t:TypeId}{x:Operand}{lo hi mx:Option Operand}(ho:o.op=.slice t x lo hi mx)
  {k:AV->AH->Option R} {r:R} (Y:opK P rec o.op o.type fr h k=some r):OpOk P O μ h w o a k r:=by
 obtain⟨dst,op,type,pos,ae,guard⟩:=o;dsimp only at Y ho;subst ho;simp only[opK]at Y;split at Y
 ·rename_i v hv;have Z:=kbc F hv;unfold sliceK at Y;split at Y
  ·rename_i e q n c hd;obtain⟨l,Q,hl⟩:=khs F Y;obtain⟨hh,A,K⟩:=khs F Q;split at A
   ·obtain⟨C,A⟩:=kz A;obtain⟨ie,U⟩:=Option.isSome_iff_exists.1 C;have hs:(sizeOf e).run P w=.ok (P.cellsOf e) w:=by simp[sizeOf,typeInfo,U,Program.cellsOf]
    rw[qbu]at A;obtain⟨s,X,H⟩:=A;obtain⟨ad,cap,he,hb,I⟩:=k25 X Z;refine⟨_,h,H,qf (s:=Instr.sliceAt t (a.eval x) (lo.map a.eval) (hi.map a.eval) none) rfl ?_ (qd S I)⟩;rw[he];simp only[Instr.sliceAt,Sem.run_bind,run_underlying hd,Result.andThen_ok,Instr.slice,kvs (P:=P) (isS:=true) hl K hb,hs,Sem.run_pure]
   ·rename_i m;obtain⟨C,A⟩:=kz A;simp only[qb9]at C;obtain⟨C,aa⟩:=C;obtain⟨ie,U⟩:=Option.isSome_iff_exists.1 C;have hs:(sizeOf e).run P w=.ok (P.cellsOf e) w:=by simp[sizeOf,typeInfo,U,Program.cellsOf]
    obtain⟨mm,H,af⟩:=khs F A;rw[qbu]at H;obtain⟨s,X,ag⟩:=H;obtain⟨ad,cap,he,hb,I⟩:=kbfr X Z
    have ah:∃kd,hi.map a.eval=some (.int kd hh):=by
     rcases K with⟨h0,_⟩ | h0
     ·cases hi<;>simp at h0 aa
     ·exact h0
    have ai:∃kd,(some m).map a.eval=some (.int kd mm):=by
     rcases af with⟨h0,_⟩ | h0
     ·simp at h0
     ·exact h0
    refine⟨_,h,ag,qf (s:=Instr.sliceAt t (a.eval x) (lo.map a.eval) (hi.map a.eval) ((some m).map a.eval)) rfl ?_ (qd S I)⟩;rw[he];simp only[Instr.sliceAt,Sem.run_bind,run_underlying hd,Result.andThen_ok,Instr.slice,kbcb (P:=P) (isS:=true) hl ah ai hb,hs,Sem.run_pure]
  ·rename_i n e q hd;obtain⟨l,Q,hl⟩:=khs F Y;obtain⟨hh,A,K⟩:=khs F Q;split at A
   ·obtain⟨C,A⟩:=kz A;obtain⟨ie,U⟩:=Option.isSome_iff_exists.1 C;have hs:(sizeOf e).run P w=.ok (P.cellsOf e) w:=by simp[sizeOf,typeInfo,U,Program.cellsOf]
    rw[qbu]at A;obtain⟨s,X,H⟩:=A;simp only[VRel]at Z;obtain⟨ac,Z,aj⟩:=Z;obtain⟨ad,cap,he,hb,I⟩:=k25 X (u:=.slice (some ac) n n) (by simp only[VRel];exact⟨ac,n,rfl,.inr Z,qbp _,rfl⟩);cases he;refine⟨_,h,H,qf (s:=Instr.sliceAt t (a.eval x) (lo.map a.eval) (hi.map a.eval) none) rfl ?_ (qd S I)⟩;rw[aj];simp only[Instr.sliceAt,Sem.run_bind,run_underlying hd,Result.andThen_ok,Instr.sureAddr,Sem.run_pure,kvs (P:=P) (isS:=false) hl K hb,hs];by_cases ak:n=l.toNat<;>simp[ak]
   ·cases A
  ·rename_i s hd;obtain⟨l,Q,hl⟩:=khs F Y;obtain⟨hh,A,K⟩:=khs F Q;split at A
   ·obtain⟨hb,H⟩:=kz A;simp only[qbw]at hb;simp only[VRel]at Z;refine⟨_,h,H,qf (s:=Instr.sliceAt t (a.eval x) (lo.map a.eval) (hi.map a.eval) none) (u:=.string (s.extract l.toNat hh.toNat)) rfl ?_ (qd S (by simp[VRel]))⟩;rw[Z];simp[Instr.sliceAt,Instr.slice,run_underlying hd,kvs (P:=P) (isS:=false) hl K hb]
   ·cases A
  ·cases Y
 ·cases Y
theorem kbmt{rec:Rec}{μ:Mu}{N:Nat}{fr:Fr}{h:AH}{w:World}{o:Oper}{a:Act}(S:Sim P O μ h w)(F:FRel μ N fr a.tmps){t:TypeId}{x:Operand}(C:o.op=.makeInterface t x)
  {k:AV->AH->Option R} {r:R} (A:opK P rec (.makeInterface t x) o.type fr h k=some r):OpOk P O μ h w o a k r:=by
 simp only[opK]at A;split at A
 ·rename_i v d H I;obtain⟨hi,A⟩:=kej A
  have run:(Instr.makeInterface t (a.eval x)).run P w=.ok (.iface t (a.eval x)) w:=by unfold Instr.makeInterface;simp only[Sem.run_bind,run_underlying I,Result.andThen_ok];cases d<;>first | rfl | cases hi
  refine⟨_,h,A,qf (s:=Instr.makeInterface t (a.eval x)) (by simp only[execOp,C]) run (qd S ?_)⟩;simp only[VRel];exact⟨_,rfl,kbc F H⟩
 ·cases A
theorem kbhh{rec:Rec}{μ:Mu}{N:Nat}{fr:Fr}{h:AH}{w:World}{o:Oper}{a:Act}(S:Sim P O μ h w)(F:FRel μ N fr a.tmps){x:Operand}{C t:TypeId}{ok:Bool}(Q:o.op=.typeAssert x C t ok)
  {k:AV->AH->Option R} {r:R} (A:opK P rec (.typeAssert x C t ok) o.type fr h k=some r):OpOk P O μ h w o a k r:=by
 simp only[opK]at A;split at A
 ·rename_i v d X Y;rw[qbu]at A;obtain⟨⟨t',y⟩,Z,A⟩:=A;obtain⟨I,A⟩:=kz A;have H:=kdf A;clear A;rw[qb9,qci]at I;have K:=kbc F X;rw[k2p Z]at K;simp only[VRel]at K;obtain⟨u,he,U⟩:=K;have ht:t'=t:=Nat.eq_of_beq_eq_true I.2;subst ht;have hi:=I.1
  have run:(Instr.typeAssert (a.eval x) C t' ok).run P w=.ok (if ok then .tuple #[u,.bool true]else u) w:=by unfold Instr.typeAssert;simp only[he,Sem.run_bind,run_underlying Y,Result.andThen_ok];cases d<;>first | (cases hi;done) | simp
  cases ok with
  | false=>exact⟨_,h,H,qf (s:=Instr.typeAssert (a.eval x) C t' false) (by simp only[execOp,Q]) run (qd S U)⟩
  | true =>refine⟨_,h,H,qf (s:=Instr.typeAssert (a.eval x) C t' true) (by simp only[execOp,Q]) run (qd S ?_)⟩;simp only[VRel];exact⟨_,rfl,qc U (qc (by simp[VRel]) qb)⟩
 ·cases A
theorem kbnf{rec:Rec}{μ:Mu}{N:Nat}{fr:Fr}{h:AH}{w:World}{o:Oper}{a:Act}(S:Sim P O μ h w)(F:FRel μ N fr a.tmps)(Y:∀c,o.op≠.call c)
  {k:AV->AH->Option R} {r:R} (A:opK P rec o.op o.type fr h k=some r):OpOk P O μ h w o a k r:=by
 obtain⟨dst,op,type,pos,aa,guard⟩:=o;dsimp only at A Y;cases op<;>simp only[opK]at A
 case call c=>exact absurd rfl (Y c)
 case move x =>rw[kjk,qbu]at A;obtain⟨v,C,A⟩:=A;exact⟨v,h,A,qe (u:=a.eval x) rfl (qd S (kbc F C))⟩
 case assign x =>rw[kjk,qbu]at A;obtain⟨v,C,A⟩:=A;exact⟨v,h,A,qe (u:=a.eval x) rfl (qd S (kbc F C))⟩
 case pick c x y =>
  split at A
  ·rename_i t ht;have hc:=kbc F ht;simp only[VRel]at hc;rcases kcs A with⟨rfl,H⟩ | ⟨rfl,H⟩<;>rw[qbu]at H<;>obtain⟨v,C,H⟩:=H
   ·exact⟨v,h,H,qe (u:=a.eval x) (by simp[execOp,hc,asBool]) (qd S (kbc F C))⟩
   ·exact⟨v,h,H,qe (u:=a.eval y) (by simp[execOp,hc,asBool]) (qd S (kbc F C))⟩
  ·cases A
 case alloc t =>
  split at A
  ·rename_i zs K;obtain⟨z,h1,Q,h3⟩:=k00 (μ:=μ) K w;refine⟨_,_,A,qf (s:=Instr.alloc t true (.tuple #[])) rfl ?_ (k3o S Q h3 t)⟩;simp[Instr.alloc,h1,newVar,newRow]
  ·cases A
 case box t x =>rw[qbu]at A;obtain⟨v,C,A⟩:=A;obtain⟨cs,A,h1,Q,h3,_⟩:=krg A (kbc F C);refine⟨_,_,A,qf (s:=Instr.box t (a.eval x)) rfl ?_ (k3o S h1 Q t)⟩;simp[Instr.box,newVar,newRow]
 case build t parts=>exact kbbb (rec:=rec) S F rfl A
 case buildSlice t n parts=>exact kbi7 (rec:=rec) S F rfl A
 case load t x =>
  split at A
  ·rename_i q hq;have C:=kbc F hq;simp only[VRel]at C;obtain⟨ad,I,U⟩:=C;obtain⟨v,u,A,X,hl⟩:=ksq S I A;refine⟨v,h,A,qf (s:=Instr.loadAt t (a.eval x)) rfl ?_ (qd S X)⟩;rw[U];simp[Instr.loadAt,Instr.sureAddr,hl]
  ·cases A
  ·cases A
 case store t x y=>exact kbjo (rec:=rec) S F rfl A
 case nilCheck x =>
  split at A
  ·rename_i p hp;rw[qbu]at A;obtain⟨q,rfl,A⟩:=A;have I:=kbc F hp;refine⟨_,h,A,qe (u:=a.eval x) ?_ (qd S I)⟩;simp only[VRel]at I;obtain⟨ad,_,U⟩:=I;simp only[execOp];rw[U];rfl
  ·rename_i f b c hf;have I:=kbc F hf;refine⟨_,h,A,qe (u:=a.eval x) ?_ (qd S I)⟩;simp only[VRel]at I;obtain⟨g,x1,x2,U,hg,_⟩:=I;simp only[FnRel]at hg;subst hg;simp only[execOp];rw[U];rfl
  ·cases A
 case binOp op t x y yt =>
  split at A
  ·rename_i v1 v2 h1 Q;obtain⟨z,u,A,K,Z,e2⟩:=kblz A (kbc F h1) (kbc F Q) x y w;refine⟨z,h,A,qe (u:=u) ?_ (qd S K)⟩;simp[execOp,Z,e2]
  ·cases A
 case unOp op t x =>
  split at A
  ·rename_i v h1;obtain⟨z,u,A,K,Z⟩:=k8p (P:=P) A (kbc F h1) w;exact⟨z,h,A,qf rfl Z (qd S K)⟩
  ·cases A
 case convert s d x =>
  split at A
  ·rename_i v h1;obtain⟨z,u,A,K,Z⟩:=kbe4 A (kbc F h1) w;exact⟨z,h,A,qf rfl Z (qd S K)⟩
  ·cases A
 case makeFunc f first captured =>
  split at A
  ·rename_i x y g h1 Q;refine⟨_,h,A,qe (u:=.func (.func g) (first.map a.eval) (captured.map a.eval)) rfl (qd S ?_)⟩;simp only[VRel];exact⟨_,_,_,rfl,rfl,by simpa using kdz F h1,by simpa using kdz F Q⟩
  ·cases A
 case makeInterface t x=>exact kbmt (rec:=rec) S F rfl (by simp only[opK];exact A)
 case typeAssert x xt t ok=>exact kbhh (rec:=rec) S F rfl (by simp only[opK];exact A)
 case makeSlice t l c=>exact kba6 (rec:=rec) S F rfl A
 case slice t x lo hi mx=>exact k83 (rec:=rec) S F rfl A
 case fieldAddr s x f=>exact k99 (rec:=rec) S F rfl A
 case field t x f=>exact kbga (rec:=rec) S F rfl A
 case indexAddr t x i=>exact k89 (rec:=rec) S F rfl A
 case index t x i=>exact kbm0 (rec:=rec) S F rfl A
 case extract x i =>
  split at A
  ·rename_i vs C;rw[qbu]at A;obtain⟨v,ac,A⟩:=A;have I:=kbc F C;simp only[VRel]at I;obtain⟨us,U,ae⟩:=I;obtain⟨u,hu,X⟩:=ae.get i v ac;refine⟨v,h,A,qf (s:=Instr.extract (a.eval x) i) rfl ?_ (qd S X)⟩;rw[U];simp only[Array.getElem?_toList]at hu;simp[Instr.extract,hu]
  ·cases A
 all_goals cases A
end Go.Ab
namespace Go.Ab
variable{P:Program}{O:World}{R:Type}
theorem k0h(need:Nat):∀(A c:Nat),c<=need+(need+768)/4->Builtin.growBy need A c<=need+(need+768)/4
 | 0,c,h=>h
 | n+1,c,h=>by
  unfold Builtin.growBy;split
  ·exact h
  ·exact k0h need n _ (by omega)
theorem kbj9{need old:Nat}(h:old<need):Builtin.nextslicecap need old<=2*need:=by
 unfold Builtin.nextslicecap;split
 ·omega
 ·split
  ·omega
  ·have:=k0h need 4 old (by omega);omega
theorem knm{μ:Mu}{h:AH}{w:World}(S:Sim P O μ h w){r:Option Ref}{n m size:Nat}{c:Cap}{u:Value}(F:VRel μ (.slice r n c) u)(hm:m<=n){cs:List AV}
  (A:h.getsO r (m*size)=some cs) :
  ∃us:List Value,us.length=m*size/\(Builtin.firstCells size m u).run P w=.ok us.toArray w/\VRels μ cs us/\cs.all AV.one=true:=by
 cases r with
 | none =>
  simp only[VRel]at F;obtain⟨rfl,_,rfl⟩:=F;simp[AH.getsO]at A;subst A;have:m=0:=by omega
  subst this;exact⟨[],by simp,by simp[Builtin.firstCells],qb,rfl⟩
 | some r =>
  simp only[VRel]at F;obtain⟨a,I,rfl,H,C⟩:=F;have Q:n<=I:=by cases c<;>exact C.1
  simp only[AH.getsO]at A;rcases H with h0 | U
  ·have:m=0:=by omega
   subst this;simp only[Nat.zero_mul,AH.gets,qcb]at A;subst A;exact⟨[],by simp,by simp[Builtin.firstCells,loadCells,loadCellsFrom],qb,rfl⟩
  ·obtain⟨us,K,X,Y,Z⟩:=kp3 S _ U A;exact⟨us,K,run_firstCells_some w size m a n I us K X,Y,Z⟩
theorem kbev(zero:Array Value)(n:Nat):(Builtin.zeroCells zero n).size=n*zero.size:=by simp[Builtin.zeroCells]
theorem Sim.drew{μ:Mu}{h:AH}{w:World}(S:Sim P O μ h w):Sim P O μ h w.drew:={old:=S.old,os:=S.os,tape:=S.tape,output:=S.output,base:=S.base,keep:=S.keep,dom:=S.dom,place:=S.place,blk:=λi L b A C=>(S.blk i L b A C).step (Mu.le_refl μ) (λ_=>rfl),inj:=S.inj}
theorem kbar(need old:Nat)(elem:TypeId)(t:Nat):need<=Question.cut (.appendCap need old elem) t:=by simp[Question.cut]
theorem k9d{μ:Mu}{ts:Array TypeId}{ty t t' e f:TypeId}{w:World}{base:Option Addr}{n c m size:Nat}{ux:Value}{F H:List Value}
  (h0:ts[0]?=some t) (h1:ts[1]?=some t') (hd:P.underlying t=some (.slice e)) (ac:P.underlying t'=some (.slice f)) (hs:P.cellsOf e=size)
  (hn:(Builtin.lenOf ux).run P w=.ok m w) (U:c<n+m) (I:growOk P (n+m) e size=true)
  (ho:(Builtin.firstCells size n (.slice base n c)).run P w.drew=.ok F.toArray w.drew) (X:(Builtin.firstCells size m ux).run P w.drew=.ok H.toArray w.drew) :
  ∃(cap:Nat)(rest:List Value),n+m<=cap/\rest.length=(cap-(n+m))*size/\
   (Builtin.append_ ts ty #[.slice base n c,ux]).run P w=.ok (.slice (some ⟨w.heap.size,0,none⟩) (n+m) cap) (w.drew.alloc (.cells ((F++H)++rest).toArray e)):=by
 unfold growOk at I;simp only[qb9,qbw]at I;obtain⟨⟨ad,ae⟩,hz⟩:=I;split at hz
 ·rename_i zs af;have hz:=Nat.eq_of_beq_eq_true hz;obtain⟨z,Y,K,ag,ah,_⟩:=kk4 (μ:=μ) af;have ai:z.cells.size=size:=by have:=ah.length;simp at this;omega
  have aj:P.bytesOf e=Y.bytes:=by simp[Program.bytesOf,K]
  have ak:P.cellsOf e=Y.size:=by simp[Program.cellsOf,K]
  have hm:ks=70368744177664:=rfl;rw[hm,aj]at ad;rw[hm]at ae;have al:=kbj9 U
  have Z:¬(281474976710656<Builtin.nextslicecap (n+m) c*Y.bytes):=by have:Builtin.nextslicecap (n+m) c*Y.bytes<=2*(n+m)*Y.bytes:=Nat.mul_le_mul_right _ al;rw[Nat.mul_assoc]at this;omega
  have aa:¬((n:Int)+(m:Int)>IntKind.i64.max):=by have:IntKind.i64.max=9223372036854775807:=rfl;rw[this];omega
  refine⟨Question.cut (.appendCap (n+m) c e) (w.tape w.drawn (.appendCap (n+m) c e)),(Builtin.zeroCells z.cells (Question.cut (.appendCap (n+m) c e) (w.tape w.drawn (.appendCap (n+m) c e))-(n+m))).toList,kbar _ _ _ _,by simp[kbev,ai],?_⟩;have Q:¬(n+m<=c):=by omega
  have A:(Question.appendCap (n+m) c e).forced=false:=rfl;rw[<- hs,ak]at ho X;have C:c<n+m:=U;simp[Builtin.append_,h0,h1,run_underlying hd,run_underlying ac,sizeOf,typeInfo,K,hn,C,Q,aa,Z,ho,X,zeroValue,ag,newRow,A];rw[if_neg (by omega)];congr 3;apply Array.ext';simp
 ·cases hz
theorem k8a{μ:Mu}{h:AH}{w:World}(S:Sim P O μ h w)(i o:Nat):Sim P O μ (h.kill (some (.new i o))) w/\Ext μ h w μ (h.kill (some (.new i o))):=by
 have A:∀j,Live (h.kill (some (.new i o))) j->Live h j/\(j=i->h.blks.size<=i):=λj K=>by
  by_cases C:i=j
  ·subst C;rcases Nat.lt_or_ge i h.blks.size with Q | I
   ·exact absurd rfl (K .dead (by simp[AH.kill,Q]))
   ·exact⟨λb F=>by simp[Array.getElem?_eq_none I]at F,λ_=>I⟩
  ·exact⟨λb F=>K b (by simp only[AH.kill];rw[Array.getElem?_setIfInBounds_ne C];exact F),λe=>absurd e.symm C⟩
 refine⟨{old:=S.old,os:=S.os,tape:=S.tape,output:=S.output,base:=S.base,keep:=S.keep,dom:=λj L H=>by simpa[AH.kill]using S.dom j L H,place:=S.place,blk:=λj L b H F=>?_,inj:=λj k L M H U X Y Z=>S.inj j k L M H U (A j X).1 (A k Y).1 Z},?_⟩
 ·by_cases C:i=j
  ·subst C;have:=S.dom i L H;simp[AH.kill,this]at F;subst F;trivial
  ·simp only[AH.kill]at F;rw[Array.getElem?_setIfInBounds_ne C]at F;exact S.blk j L b H F
 ·exact⟨by simp[AH.kill],Mu.le_refl μ,λ_ _=>rfl,λj _ K=>(A j K).1,λj M h1 h2=>by simp[AH.kill]at h2;omega⟩
theorem kbmu{μ:Mu}{h:AH}{w w':World}(S:Sim P O μ h w){i o:Nat}{L:Loc}(hL:μ i=some L){bs:List AV}{e:TypeId}(hb:h.blks[i]?=some (.cells bs e)){c':Array Value}{cs:List AV}
  (ac:w'.heap[L.block]?=some (.cells c' e (0,0))) (ai:c'.size=L.base+L.total) (ho:o<=L.total) (aj:cs.length<=L.total-o) (ak:∀(j:Nat)(v:AV),cs[j]?=some v->∃u,c'[L.base+o+j]?=some u/\VRel μ v u) (h1:cs.all AV.one=true)
  (Q:∀b,b≠L.block->w'.heap[b]?=w.heap[b]?) (I:w'.heap.size=w.heap.size) (al:w'.os=w.os) (aa:w'.tape=w.tape) (ad:w'.output=w.output) :
  Sim P O (Mu.set μ h.blks.size ⟨L.block,L.base+o,L.total-o⟩) ((h.kill (some (.new i o))).alloc (.cells cs e)) w'/\
  Ext μ h w (Mu.set μ h.blks.size ⟨L.block,L.base+o,L.total-o⟩) ((h.kill (some (.new i o))).alloc (.cells cs e))/\Frm μ h w w':=by
 have hi:i<h.blks.size:=S.dom i L hL
 have hf:μ h.blks.size=none:=by
  cases hq:μ h.blks.size with
  | none=>rfl
  | some L=>have:=S.dom _ _ hq;omega
 have U:=Mu.le_set (L:=⟨L.block,L.base+o,L.total-o⟩) hf;have K:(h.kill (some (.new i o))).blks.size=h.blks.size:=by simp[AH.kill]
 have am:=S.place i L hL
 have ae:∀j b,((h.kill (some (.new i o))).alloc (.cells cs e)).blks[j]?=some b->(j=h.blks.size/\b=.cells cs e)\/(j≠h.blks.size/\j=i/\b=.dead)\/(j≠h.blks.size/\j≠i/\h.blks[j]?=some b):=λj b H=>by
  simp only[Array.getElem?_push,K]at H;by_cases F:j=h.blks.size
  ·simp[F]at H;exact .inl ⟨F,H.symm⟩
  ·rw[if_neg F]at H;by_cases X:i=j
   ·subst X;simp[AH.kill,hi]at H;exact .inr (.inl ⟨F,rfl,H.symm⟩)
   ·simp only[AH.kill]at H;rw[Array.getElem?_setIfInBounds_ne X]at H;exact .inr (.inr ⟨F,λe=>X e.symm,H⟩)
 have A:∀j,j≠h.blks.size->Live ((h.kill (some (.new i o))).alloc (.cells cs e)) j->Live h j/\j≠i:=λj F hl=>by
  have af:j≠i:=λZ=>by subst Z;exact absurd rfl (hl .dead (by simp only[Array.getElem?_push,K,if_neg F];simp[AH.kill,hi]))
  refine⟨λb Y=>hl b ?_,af⟩;simp only[Array.getElem?_push,K,if_neg F];simp only[AH.kill];rw[Array.getElem?_setIfInBounds_ne (λe=>af e.symm)];exact Y
 refine⟨{old:=S.old,os:=al.trans S.os,tape:=aa.trans S.tape,output:=ad.trans S.output,base:=by rw[I];exact S.base,keep:=λb Y=>?_,dom:=λj M C=>?_,place:=λj M C=>?_,blk:=λj M b C Y=>?_,inj:=λj k M N C hN lj lk Z=>?_},?_,?_⟩
 ·rw[Q b (by omega)];exact S.keep b Y
 ·unfold Mu.set at C;split at C
  ·subst_vars;simp[K]
  ·have:=S.dom j M C;simp[K];omega
 ·unfold Mu.set at C;split at C
  ·cases C;rw[I];exact am
  ·rw[I];exact S.place j M C
 ·rcases ae j b Y with⟨F,rfl⟩ | ⟨F,_,rfl⟩ | ⟨F,X,ag⟩
  ·subst F;rw[ke5]at C;cases C;exact⟨⟨c',ac,by rw[ai];simp only[];omega,aj,λk v hk=>let ⟨u,a,b⟩:=ak k v hk;⟨u,a,b.mono U⟩⟩,h1⟩
  ·trivial
  ·unfold Mu.set at C;rw[if_neg F]at C;refine(S.blk j M b C ag).step U λhd=>Q _ λZ=>X (S.inj j i M L C hL (λb' ah=>by rw[ag]at ah;cases ah;exact hd) (kfd hb) Z)
 ·unfold Mu.set at C hN;split at C<;>split at hN
  ·omega
  ·rename_i F hk;cases C;exact absurd (S.inj i k L N hL hN (kfd hb) (A k hk lk).1 Z) (λe=>(A k hk lk).2 e.symm)
  ·rename_i F hk;cases hN;exact absurd (S.inj j i M L C hL (A j F lj).1 (kfd hb) Z) (A j F lj).2
  ·rename_i F hk;exact S.inj j k M N C hN (A j F lj).1 (A k hk lk).1 Z
 ·refine⟨by simp[K],U,λj F=>by unfold Mu.set;rw[if_neg (by omega)],λj F hl=>(A j (by omega) hl).1,λj M h2 h3 C=>.inr ⟨i,L,hi,kfd hb,hL,?_⟩⟩;simp[K]at h3;have:j=h.blks.size:=by omega
  subst this;rw[ke5]at C;cases C;rfl
 ·exact⟨by omega,λb _ hn=>Q b λZ=>hn i L hi (kfd hb) hL Z.symm⟩
theorem k05{h:AH}:∀{n:Nat}{r:Ref}{vs:List AV},h.gets r n=some vs->vs.length=n
 | 0,r,vs,A=>by simp only[AH.gets,qcb]at A;subst A;rfl
 | n+1,r,vs,A=>by simp only[AH.gets,qbu,Option.map_eq_some_iff]at A;obtain⟨v,h1,ws,C,rfl⟩:=A;simp[k05 C]
theorem VRel.slice_open{μ:Mu}{r:Option Ref}{n:Nat}{c:Cap}{u:Value}(h:VRel μ (.slice r n c) u):∃base cap,u=.slice base n cap/\n<=cap:=by
 cases r with
 | none=>simp only[VRel]at h;obtain⟨rfl,_,rfl⟩:=h;exact⟨none,0,rfl,qbp _⟩
 | some r=>simp only[VRel]at h;obtain⟨a,k,rfl,_,A⟩:=h;exact⟨some a,k,rfl,by cases c<;>exact A.1⟩
theorem kbna{μ:Mu}{h:AH}{w:World}(S:Sim P O μ h w){A cs:List AV}{C us rest:List Value}(I:VRels μ A C)(h1:A.all AV.one=true)(K:VRels μ cs us)(Q:cs.all AV.one=true)(e:TypeId){need cap size:Nat}
  (F:need<=cap) (H:rest.length=(cap-need)*size) (Z:C.length+us.length=need*size) :
  Good P O μ h w (.slice (some h.next) need (.opn size)) (h.alloc (.cells (A++cs) e)) (.slice (some ⟨w.heap.size,0,none⟩) need cap) (w.drew.alloc (.cells ((C++us)++rest).toArray e)):=by
 obtain⟨U,X,Y⟩:=kpq (rest:=rest) S.drew (I.append K) (by rw[List.all_append,h1,Q];rfl) e;refine⟨_,?_,U,X,Y⟩;simp only[VRel];refine⟨_,cap,rfl,.inr (RRel.new 0),F,_,0,_,rfl,ke5 _ _ _,?_⟩;have:(cap-need)*size+need*size=cap*size:=by rw[<- Nat.add_mul];congr 1;omega
 simp;omega
theorem kblp{μ:Mu}{h:AH}{w:World}(S:Sim P O μ h w){ts:Array TypeId}{ty t t' e f:TypeId}(h0:ts[0]?=some t)(h1:ts[1]?=some t')(hd:P.underlying t=some (.slice e))(Q:P.underlying t'=some (.slice f))
  (bd:(P.info? e).isSome=true) {r:Option Ref} {n:Nat} {c:Cap} {x:AV} {u ux:Value} (F:VRel μ (.slice r n c) u) (hx:VRel μ x ux) {p:List AV×Nat} (hp:kbg P e x h=some p)
  {v:AV} {h':AH} (I:kv P ⟨r,n,c⟩ p.1 p.2 e (P.cellsOf e) h=some (v,h')):Yields P (Builtin.append_ ts ty #[u,ux]) w (Good P O μ h w v h'):=by
 obtain⟨ie,hi⟩:=Option.isSome_iff_exists.1 bd;have hs:(sizeOf e).run P w=.ok (P.cellsOf e) w:=by simp[sizeOf,typeInfo,hi,Program.cellsOf]
 unfold kbg at hp;split at hp
 ·rename_i r2 m c2;simp only[Option.map_eq_some_iff]at hp;obtain⟨cs,hg,rfl⟩:=hp
  have H:(Builtin.lenOf ux).run P w=.ok m w:=by obtain⟨_,_,rfl,_⟩:=hx.slice_open;rfl
  obtain⟨C,n1,n2,n3,n4⟩:=knm S hx (qbp _) hg;obtain⟨bk,d1,d2,d3,d4⟩:=knm S.drew hx (qbp _) hg;obtain⟨base,cap,rfl,be⟩:=F.slice_open
  have grow:∀{h2:AH},Sim P O μ h2 w->cap<n+m->growOk P (n+m) e (P.cellsOf e)=true->∀{old:List AV},h.getsO r (n*P.cellsOf e)=some old->
    Yields P (Builtin.append_ ts ty #[.slice base n cap,ux]) w (Good P O μ h2 w (.slice (some h2.next) (n+m) (.opn (P.cellsOf e))) (h2.alloc (.cells (old++cs) e))):=by
   intro h2 S2 U Z old A;obtain⟨aq,o1,o2,o3,o4⟩:=knm S.drew F (qbp _) A;obtain⟨bm,rest,k1,k2,k3⟩:=k9d (μ:=μ) (ty:=ty) h0 h1 hd Q rfl H U Z o2 d2;exact⟨_,_,k3,kbna S2 o3 o4 d3 d4 e k1 k2 (by rw[o1,d1,Nat.add_mul])⟩
  unfold kv at I;dsimp only at I;split at I
  ·rename_i c';rcases kcs I with⟨hb,I⟩ | ⟨hb,I⟩
   ·
    have hb:=Nat.le_of_ble_eq_true hb;cases r with
    | none =>
     simp only[qcb,qcc]at I;obtain⟨rfl,rfl⟩:=I;simp only[VRel]at F;obtain⟨rfl,h2,h3⟩:=F;cases h2;cases h3;have:m=0:=by omega
     subst this;refine⟨_,_,?_,qd S (u:=.slice none 0 0) (by simp[VRel])⟩;simp[Builtin.append_,h0,h1,run_underlying hd,run_underlying Q,hs,H,n2]
    | some r =>
     simp only[qbu,qcb,qcc]at I;obtain⟨h2,ah,rfl,rfl⟩:=I;simp only[VRel]at F;obtain⟨a,k,he,ai,bf,rfl⟩:=F;cases he;rcases ai with ar | af
     ·have aj:m=0:=by omega
      have bg:n=0:=by omega
      subst aj;subst bg;subst ar;have aa:C=[]:=List.eq_nil_of_length_eq_zero (by omega);subst aa
      have bh:cs=[]:=by have:=n3.length;exact List.eq_nil_of_length_eq_zero this.symm
      subst bh;simp only[AH.puts,qcb]at ah;subst ah;refine⟨.slice (some a) 0 0,w,?_,qd S (by simp only[VRel];exact⟨a,0,rfl,.inl rfl,qbp _,rfl⟩)⟩;simp[Builtin.append_,h0,h1,run_underlying hd,run_underlying Q,hs,H,n2,storeCells]
     ·obtain⟨w',e1,e2,e3,e4⟩:=kry (i:=0) (a:=a.add (n*P.cellsOf e)) S (by rw[show(a.add (n*P.cellsOf e)).add 0=a.add (n*P.cellsOf e)from by simp[Addr.add]];exact af.add (n*P.cellsOf e)) n3 n4 ah;refine⟨.slice (some a) (n+m) cap,w',?_,μ,by simp only[VRel];exact⟨a,cap,rfl,.inr af,hb,rfl⟩,e2,e3,e4⟩;simp[Builtin.append_,h0,h1,run_underlying hd,run_underlying Q,hs,H,n2,hb,e1]
   ·obtain⟨Z,I⟩:=kz I;simp only[qbu,qcb,qcc]at I;obtain⟨old,A,rfl,rfl⟩:=I
    have U:cap<n+m:=by
     have au:cap=c':=by
      cases r with
      | none=>simp only[VRel]at F;obtain⟨_,h2,h3⟩:=F;cases h2;cases h3;rfl
      | some r=>simp only[VRel]at F;obtain⟨a,k,he,_,_,hk⟩:=F;cases he;exact hk
     subst au;rcases Nat.lt_or_ge cap (n+m)with h' | h'
     ·exact h'
     ·rw[Nat.ble_eq_true_of_le h']at hb;cases hb
    exact grow S U Z A
  ·rename_i sz;rcases kcs I with⟨hb,ac⟩ | ⟨hb,ac⟩
   ·have aj:=Nat.eq_of_beq_eq_true hb;subst aj;simp only[qcb,qcc]at ac;obtain⟨rfl,rfl⟩:=ac;have aa:C=[]:=List.eq_nil_of_length_eq_zero (by omega);subst aa;refine⟨.slice base n cap,w,?_,qd S F⟩;cases base<;>simp[Builtin.append_,h0,h1,run_underlying hd,run_underlying Q,hs,H,n2,storeCells,be]
   ·obtain⟨ag,X⟩:=kz ac;simp only[qb9]at ag;obtain⟨ak,Z⟩:=ag;have ak:=Nat.eq_of_beq_eq_true ak;clear I ac;subst ak;split at X
    ·rename_i i o;split at X
     ·rename_i bs e' aw;obtain⟨ax,ay⟩:=kz X;have az:=Nat.eq_of_beq_eq_true ax;clear X ax;subst az;simp only[qbu,qcb,qcc]at ay;obtain⟨old,A,rfl,rfl⟩:=ay;obtain⟨S2,E2⟩:=k8a S i o;have al:(h.kill (some (.new i o))).blks.size=h.blks.size:=by simp[AH.kill]
      have am:(h.kill (some (.new i o))).next=h.next:=by simp[AH.next,al]
      rcases Nat.lt_or_ge cap (n+m)with U | an
      ·obtain⟨u',w',g1,ν,g2,g3,g4,g5⟩:=grow S2 U Z A;rw[am]at g2;refine⟨u',w',g1,ν,g2,g3,E2.trans g4 (qbp _),?_⟩;exact⟨g5.1,λb ap hn=>g5.2 b ap λj M Y hl hM=>hn j M (by rw[al]at Y;exact Y) (E2.2.2.2.1 j (by rw[al]at Y;exact Y) hl) hM⟩
      ·
       simp only[VRel]at F;obtain⟨a,k,he,ai,bf,i',o',L,bi,hL,bn⟩:=F;cases he;cases bi;simp only[AH.getsO]at A
       have bq:0<n+m:=by
        rcases Nat.eq_zero_or_pos m with h' | h'
        ·subst h';simp at hb
        ·omega
       rcases ai with ar | af
       ·omega
       ·obtain⟨L',a0,rfl⟩:=af;rw[hL]at a0;cases a0;obtain⟨aq,o1,o2,o3,o4⟩:=kp3 S _ (r:=.new i o) ⟨L,hL,rfl⟩ A;obtain⟨⟨cc,c1,c2,c3,c4⟩,c5⟩:=S.blk i L _ hL aw;have ba:(n+m)*P.cellsOf e'<=cap*P.cellsOf e':=Nat.mul_le_mul_right _ an;rw[Nat.add_mul]at ba
        have bb:=run_storeCells_at P L.block (L.base+o+n*P.cellsOf e') e' C 0 cc w c1 (by omega) (λv hv=>by
         obtain⟨j,Y⟩:=List.mem_iff_getElem?.1 hv
         have ad:j<cs.length:=by
          have:=n3.length;rcases Nat.lt_or_ge j cs.length with h' | h'
          ·exact h'
          ·rw[List.getElem?_eq_none (by omega)]at Y;cases Y
         obtain⟨u,F,ae⟩:=n3.get j cs[j] (by simp[ad]);rw[Y]at F;cases F;exact ae.one (List.all_eq_true.1 n4 _ (by simp)))
        have bj:old.length=n*P.cellsOf e':=k05 A;have bp:cs.length=m*P.cellsOf e':=by have:=n3.length;omega
        simp only[Nat.add_zero]at bb
        obtain⟨g1,g2,g3⟩:=kbmu (o:=o) (w':=w.setRow L.block (cc.toList.take (L.base+o+n*P.cellsOf e')++C++cc.toList.drop (L.base+o+n*P.cellsOf e'+C.length)).toArray) S hL aw
         (cs:=old++cs) (setRow_heap w _ cc _ e' (0,0) c1) (by simp;omega) (by omega) (by simp;omega) (λj v Y=>by
          rcases Nat.lt_or_ge j old.length with ad | ad
          ·rw[List.getElem?_append_left ad]at Y;obtain⟨u,F,ae⟩:=o3.get j v Y;have K:=o2 j u F;rw[ktd]at K;simp only[World.cell?,c1]at K;refine⟨u,?_,ae⟩;simp only[List.getElem?_toArray];rw[List.append_assoc,List.getElem?_append_left (by simp;omega),List.getElem?_take];rw[if_pos (by omega)]
           simpa using K
          ·rw[List.getElem?_append_right ad]at Y;obtain⟨u,F,ae⟩:=n3.get _ v Y;refine⟨u,?_,ae⟩;simp only[List.getElem?_toArray]
           have U:j-old.length<C.length:=by
            rcases Nat.lt_or_ge (j-old.length) C.length with h' | h'
            ·exact h'
            ·rw[List.getElem?_eq_none h']at F;cases F
           rw[List.append_assoc,List.getElem?_append_right (by simp;omega),List.getElem?_append_left (by simp;omega)];rw[<- F];congr 1;simp;omega) (by rw[List.all_append,o4,n4];rfl) (λb ap=>setRow_other w _ b _ ap) (by simp) rfl rfl rfl
        refine⟨.slice (some ⟨L.block,L.base+o,none⟩) (n+m) cap,_,?_,_,?_,g1,g2,g3⟩
        ·have bc:(⟨L.block,L.base+o,none⟩:Addr).add (n*P.cellsOf e')=⟨L.block,L.base+o+n*P.cellsOf e',none⟩:=ktd _ _ _;simp[Builtin.append_,h0,h1,run_underlying hd,run_underlying Q,hs,H,n2,an,bc,bb]
        ·simp only[VRel];refine⟨_,cap,rfl,.inr (RRel.new (L:=⟨L.block,L.base+o,L.total-o⟩) 0),an,_,0,_,rfl,ke5 _ _ _,?_⟩;simp only[];omega
     ·cases X
    ·cases X
 ·cases hp
end Go.Ab

/- Words and laws that the last text joins. -/
import Derived.Calls
import Derived.Orders
import Derived.KernelRfl
import Derived.Laws.Append
import Derived.Laws.CopyRow
import Derived.RangeFuncRecord
import Derived.WalkSpells
import Derived.ChangeKeysEq
import Derived.Laws.StructEq
import Derived.Laws.Tables
import Derived.Laws.MakeOwn
import Derived.Laws.BitsLemmas
set_option linter.unusedVariables false
set_option linter.unusedSimpArgs false
set_option linter.unusedSectionVars false
namespace Go.Ab
abbrev qbr:=@Nat.le_refl
abbrev qbs:=@Nat.le_trans
abbrev qbt:=@Nat.lt_of_lt_of_le
abbrev qbu:=@Nat.lt_of_le_of_lt
abbrev qbv:=@Option.bind_some
abbrev qbw:=@Option.bind_eq_some_iff
abbrev qbx:=@decide_eq_false_iff_not
abbrev qby:=@decide_eq_true_eq
abbrev qbz:=@decide_eq_true
abbrev qb0:=@decide_eq_false
abbrev qb1:=@of_decide_eq_true
abbrev qb2:=@List.length_append
abbrev qb3:=@List.length_map
abbrev qb4:=@List.length_cons
abbrev qb5:=@List.getElem_mem
abbrev qb6:=@List.getElem?_eq_getElem
abbrev qb7:=@List.mem_append
abbrev qb8:=@List.mem_cons
abbrev qb9:=@List.length_set
abbrev qca:=@List.length_replicate
abbrev qcb:=@Bool.and_eq_true
abbrev qcc:=@Bool.or_eq_true
abbrev qcd:=@Option.some.injEq
abbrev qce:=@Prod.mk.injEq
abbrev qcf:=@Array.getElem?_eq_some_iff
abbrev qcg:=@List.getElem?_eq_some_iff
abbrev qch:=@List.length_drop
abbrev qci:=@List.length_take
abbrev qcj:=@List.drop_eq_getElem_cons
abbrev qck:=@List.take_succ_eq_append_getElem
abbrev qcl:=@Bool.not_eq_true'
abbrev qcm:=@Bool.not_eq_false'
abbrev qcn:=@List.length_range
abbrev qco:=@List.mem_range
abbrev qcp:=@Bool.false_eq_true
inductive Ref where
 | old (a:Addr)
 | new (i off:Nat)
 deriving DecidableEq
def Ref.add:Ref->Nat->Ref
 | .old a,n=>.old (a.add n)
 | .new i o,n=>.new i (o+n)
inductive Cap where
 | is (c:Nat)
 | opn (size:Nat)
 deriving DecidableEq
inductive AV where
 | bool (b:Bool)
 | int (k:IntKind) (n:Int)
 | str (s:ByteArray)
 | ptr (r:Option Ref)
 | slice (r:Option Ref) (len:Nat) (cap:Cap)
 | map (r:Option Nat)
 | func (fn:Fn) (first captured:List AV)
 | nilFunc
 | iface (t:TypeId) (v:AV)
 | nilIface
 | agg (cs:List AV)
 | tup (vs:List AV)
structure Sl where
 ref:Option Ref
 len:Nat
 cap:Cap
 deriving DecidableEq
def Sl.v(s:Sl):AV:=.slice s.ref s.len s.cap
namespace AV
def asInt(k:IntKind):AV->Option Int
 | .int y n=>cond (decide (y=k)) (some n) none
 | _=>none
def asBool:AV->Option Bool
 | .bool b=>some b
 | _=>none
def asStr:AV->Option ByteArray
 | .str s=>some s
 | _=>none
def asPtr:AV->Option (Option Ref)
 | .ptr r=>some r
 | _=>none
def asSl:AV->Option Sl
 | .slice r n c=>some ⟨r,n,c⟩
 | _=>none
def asMap:AV->Option (Option Nat)
 | .map r=>some r
 | _=>none
def asAgg:AV->Option (List AV)
 | .agg cs=>some cs
 | _=>none
def one:AV->Bool
 | .agg _ | .tup _=>false
 | _=>true
def asTup0:AV->Option Unit
 | .tup []=>some ()
 | _=>none
def asTup2:AV->Option (AV×AV)
 | .tup [a,b]=>some (a,b)
 | _=>none
def asTup3:AV->Option (AV×AV×AV)
 | .tup [a,b,c]=>some (a,b,c)
 | _=>none
def asTup4:AV->Option (AV×AV×AV×AV)
 | .tup [a,b,c,d]=>some (a,b,c,d)
 | _=>none
def asIface:AV->Option (TypeId×AV)
 | .iface t v=>some (t,v)
 | _=>none
def ofCell:Value->Option AV
 | .bool b=>some (.bool b)
 | .int k n=>some (.int k n)
 | .string s=>some (.str s)
 | .pointer none=>some (.ptr none)
 | .pointer (some a)=>some (.ptr (some (.old a)))
 | .slice none n c=>cond (Nat.beq n 0&&Nat.beq c 0) (some (.slice none 0 (.is 0))) none
 | .slice (some a) n c=>cond (Nat.ble n c) (some (.slice (some (.old a)) n (.is c))) none
 | .map none=>some (.map none)
 | .nilFunc=>some .nilFunc
 | .nilIface=>some .nilIface
 | _=>none
def ofCells:List Value->Option (List AV)
 | []=>some []
 | v::vs=>match ofCell v,ofCells vs with
  | some x,some xs=>some (x::xs)
  | _,_=>none
def ofValue:Value->Option AV
 | .agg cs=>(ofCells cs.toList).map .agg
 | .tuple cs=>(ofCells cs.toList).map .tup
 | v=>ofCell v
end AV
structure AEnt where
 key:AV
 val:AV
 born:Nat
abbrev Fr:=List (Nat×AV)
inductive ABlk where
 | cells (cs:List AV) (elem:TypeId)
 | map (es:List AEnt) (clock:Nat)
 | loop (state:LoopState) (pending:Option Code) (fn:FuncId) (fr:Fr) (params:Array Tmp) (assign body:Code) (defers:Nat)
 | deferred
 | dead
structure AH where
 old:Array Obj
 blks:Array ABlk
def AH.cell(h:AH):Ref->Option AV
 | .old a=>match h.old[a.block]? with
  | some (.cells c _ _)=>if a.spot.isSome then none else(c[a.off]?).bind AV.ofCell
  | _=>none
 | .new i o=>match h.blks[i]? with
  | some (.cells cs _)=>cs[o]?
  | _=>none
def AH.put(h:AH)(r:Ref)(v:AV):Option AH :=
 match r with
 | .old _=>none
 | .new i o=>match h.blks[i]? with
  | some (.cells cs e)=>if o<cs.length then some {h with blks:=h.blks.setIfInBounds i (.cells (cs.set o v) e)}else none
  | _=>none
def AH.puts(h:AH)(r:Ref):List AV->Option AH
 | []=>some h
 | v::vs=>(h.put r v).bind λh'=>h'.puts (r.add 1) vs
def AH.gets(h:AH)(r:Ref):Nat->Option (List AV)
 | 0=>some []
 | n+1=>(h.cell r).bind λv=>(h.gets (r.add 1) n).map (v :: ·)
def AH.getsO(h:AH)(r:Option Ref)(n:Nat):Option (List AV) :=
 match r with
 | some r=>h.gets r n
 | none=>some []
@[reducible] def AH.alloc(h:AH)(b:ABlk):AH:={h with blks:=h.blks.push b}
@[reducible] def AH.next(h:AH):Ref:=.new h.blks.size 0
def AH.kill(h:AH):Option Ref->AH
 | some (.new i _)=>{h with blks:=h.blks.setIfInBounds i .dead}
 | _=>h
namespace Fr
def get:Fr->Nat->Option AV
 | [],_=>none
 | (s,v)::r,t=>cond (Nat.beq s t) (some v) (get r t)
def keep(fr:Fr):List Nat->Fr
 | []=>[]
 | t::ts=>match get fr t with
  | some v=>(t,v)::keep fr ts
  | none=>keep fr ts
end Fr
def evO(fr:Fr):Operand->Option AV
 | .tmp t=>fr.get t
 | .const v=>AV.ofValue v
 | .global g=>some (.ptr (some (.old ⟨g,0,none⟩)))
 | .func f=>some (.func (.func f) [] [])
def evs(fr:Fr):List Operand->Option (List AV)
 | []=>some []
 | x::xs=>match evO fr x,evs fr xs with
  | some v,some vs=>some (v::vs)
  | _,_=>none
inductive Leaf where
 | int (k:IntKind) | bool | str | slice | ptr | map | any
def leafOf:TypeDesc->Option Leaf
 | .int k=>some (.int k)
 | .bool=>some .bool
 | .string=>some .str
 | .slice _=>some .slice
 | .pointer _=>some .ptr
 | .map _ _=>some .map
 | .func ..=>some .any
 | .interface _=>some .any
 | _=>none
def repL(l:List Leaf):Nat->List Leaf
 | 0=>[]
 | n+1=>l++repL l n
def leaves(P:Program):Nat->TypeId->Option (List Leaf)
 | 0,_=>none
 | d+1,t=>match P.underlying t with
  | some (.struct fs)=>fs.toList.foldr (λf y=>match leaves P d f.type,y with
    | some l,some r=>some (l++r)
    | _,_=>none) (some [])
  | some (.array n e)=>(leaves P d e).map λl=>repL l n
  | some x=>(leafOf x).map λl=>[l]
  | none=>none
def isIfcD:TypeDesc->Bool
 | .interface _=>true
 | _=>false
def isAggD:TypeDesc->Bool
 | .struct _ | .array _ _=>true
 | _=>false
section
variable{R:Type}
def leafK(l:Leaf)(x:Option AV)(k:AV->Option R):Option R :=
 match l with
 | .int kd=>(x.bind (AV.asInt kd)).bind λn=>k (.int kd n)
 | .bool=>(x.bind AV.asBool).bind λb=>k (.bool b)
 | .str=>(x.bind AV.asStr).bind λs=>k (.str s)
 | .slice=>(x.bind AV.asSl).bind λs=>k (.slice s.ref s.len s.cap)
 | .ptr=>(x.bind AV.asPtr).bind λr=>k (.ptr r)
 | .map=>(x.bind AV.asMap).bind λr=>k (.map r)
 | .any=>x.bind k
def kd5(get:Nat->Option AV):List Leaf->Nat->(List AV->Option R)->Option R
 | [],_,k=>k []
 | l::ls,i,k=>leafK l (get i) λv=>kd5 get ls (i+1) λvs=>k (v::vs)
def loadK(P:Program)(t:TypeId)(r:Ref)(h:AH)(k:AV->Option R):Option R :=
 match P.underlying t with
 | some d=>cond (isAggD d)
   (match leaves P 20 t with
    | some ls=>cond (Nat.beq ls.length (P.cellsOf t)) (kd5 (λi=>h.cell (r.add i)) ls 0 λvs=>k (.agg vs)) none
    | none=>none)
   (match leafOf d with
    | some l=>leafK l (h.cell r) k
    | none=>none)
 | none=>none
def seeK(P:Program)(t:TypeId)(v:AV)(k:AV->Option R):Option R :=
 match P.underlying t with
 | some d=>cond (isAggD d)
   (match leaves P 20 t with
    | some ls=>v.asAgg.bind λcs=>cond (Nat.beq cs.length ls.length) (kd5 (λi=>cs[i]?) ls 0 λvs=>k (.agg vs)) none
    | none=>none)
   (match leafOf d with
    | some l=>leafK l (some v) k
    | none=>none)
 | none=>none
def khe(P:Program)(t:TypeId)(v:AV)(k:AV->Option R):Option R :=
 match P.underlying t with
 | some (.tuple ts)=>match ts.toList with
  | []=>(v.asTup0).bind λ_=>k (.tup [])
  | [a,b]=>(v.asTup2).bind λp=>seeK P a p.1 λx=>seeK P b p.2 λy=>k (.tup [x,y])
  | [a,b,c]=>(v.asTup3).bind λp=>seeK P a p.1 λx=>seeK P b p.2.1 λy=>seeK P c p.2.2 λz=>k (.tup [x,y,z])
  | [a,b,c,d]=>(v.asTup4).bind λp=>seeK P a p.1 λx=>seeK P b p.2.1 λy=>seeK P c p.2.2.1 λz=>seeK P d p.2.2.2 λu=>k (.tup [x,y,z,u])
  | _=>none
 | _=>seeK P t v k
def cellsK(P:Program)(t:TypeId)(v:AV)(k:List AV->Option R):Option R :=
 match P.underlying t with
 | some d=>cond (isAggD d) (v.asAgg.bind λcs=>cond (Nat.beq cs.length (P.cellsOf t)) (k cs) none) (cond (Nat.beq (P.cellsOf t) 1) (cond v.one (k [v]) none) none)
 | none=>none
def iand(k:IntKind)(a b:Int):Int:=k.wrap ((BitVec.ofInt k.bits a&&&BitVec.ofInt k.bits b).toNat:Int)
def ior(k:IntKind)(a b:Int):Int:=k.wrap ((BitVec.ofInt k.bits a|||BitVec.ofInt k.bits b).toNat:Int)
def ixor(k:IntKind)(a b:Int):Int:=k.wrap ((BitVec.ofInt k.bits a ^^^ BitVec.ofInt k.bits b).toNat:Int)
def kvd(k:IntKind)(a b:Int):Int:=k.wrap ((BitVec.ofInt k.bits a&&&~~~ BitVec.ofInt k.bits b).toNat:Int)
def ishl(k:IntKind)(a b:Int):Int:=k.wrap (a*2^(min b.toNat k.bits))
def ishr(k:IntKind)(a b:Int):Int:=a.fdiv (2^(min b.toNat k.bits))
def high0:Nat:=0
def high1:Nat:=high0
def high2:Nat:=high1
def high3:Nat:=high2
def condH{A:Type}(b:Bool)(x y:A):A:=(λ(_:Nat)=>match b with
 | true=>x
 | false=>y) high3
def takeH{A B:Type}(o:Option A)(k:A->Option B):Option B:=(λ(_:Nat)=>match o with
 | some a=>k a
 | none=>none) high3
theorem kkf{A B:Type}(o:Option A)(k:A->Option B):takeH o k=o.bind k:=by cases o<;>rfl
theorem kd4{A:Type}(b:Bool)(x y:A):condH b x y=cond b x y:=by cases b<;>rfl
def intK(op:BinOp)(kd:IntKind)(a b:Int)(k:AV->Option R):Option R :=
 match op with
 | .add=>k (.int kd (kd.wrap (a+b)))
 | .sub=>k (.int kd (kd.wrap (a-b)))
 | .mul=>k (.int kd (kd.wrap (a*b)))
 | .quo=>cond (decide (b=0)) none (k (.int kd (kd.wrap (a.tdiv b))))
 | .rem=>cond (decide (b=0)) none (k (.int kd (a.tmod b)))
 | .and=>k (.int kd (iand kd a b))
 | .or=>k (.int kd (ior kd a b))
 | .xor=>k (.int kd (ixor kd a b))
 | .andNot=>k (.int kd (kvd kd a b))
 | .eql=>k (.bool (decide (a=b)))
 | .neq=>k (.bool (!decide (a=b)))
 | .lss=>k (.bool (decide (a<b)))
 | .leq=>k (.bool (decide (a<=b)))
 | .gtr=>k (.bool (decide (a>b)))
 | .geq=>k (.bool (decide (a>=b)))
 | .shl | .shr=>none
def eqCell:AV->AV->Option Bool
 | .int k a,.int y b=>cond (decide (k=y)) (some (decide (a=b))) none
 | .bool a,.bool b=>some (a==b)
 | .str a,.str b=>some (a.toList==b.toList)
 | .slice r _ _,.slice none _ _=>some r.isNone
 | .ptr r,.ptr none=>some r.isNone
 | .map r,.map none=>some r.isNone
 | .nilFunc,.nilFunc=>some true
 | .func _ _ _,.nilFunc=>some false
 | _,_=>none
def fits:AV->TypeDesc->Bool
 | .slice _ _ _,.slice _=>true
 | .ptr _,.pointer _=>true
 | .map _,.map _ _=>true
 | .nilFunc,.func _ _ _=>true
 | .func _ _ _,.func _ _ _=>true
 | .bool _,.bool=>true
 | .int _ _,.int _=>true
 | .str _,.string=>true
 | _,_=>false
def partA(P:Program)(t:TypeId)(cs:List AV)(off:Nat):Option AV :=
 match P.underlying t with
 | some d=>cond (isAggD d) (cond (Nat.ble (off+P.cellsOf t) cs.length) (some (.agg ((cs.drop off).take (P.cellsOf t)))) none) cs[off]?
 | none=>none
def eqFs(P:Program)(eq:TypeId->AV->AV->Option Bool)(xs ys:List AV):List Field->Option Bool
 | []=>some true
 | f::fs=>cond (f.name == "_") none ((partA P f.type xs f.offset).bind λa=>(partA P f.type ys f.offset).bind λb=>(eq f.type a b).bind λr=>(eqFs P eq xs ys fs).map λs=>r&&s)
def eqIs(P:Program)(eq:AV->AV->Option Bool)(e:TypeId)(xs ys:List AV):List Nat->Option Bool
 | []=>some true
 | i::is=>(partA P e xs (i*P.cellsOf e)).bind λa=>(partA P e ys (i*P.cellsOf e)).bind λb=>(eq a b).bind λr=>(eqIs P eq e xs ys is).map λs=>r&&s
def isStr:AV->Bool
 | .str _=>true
 | _=>false
def eqD(P:Program):Nat->TypeId->AV->AV->Option Bool
 | 0,_,_,_=>none
 | d+1,t,x,y=>match P.underlying t with
  | some (.struct fs)=>match x,y with
   | .agg xs,.agg ys=>cond (P.stoodInHeld t) none (eqFs P (eqD P d) xs ys fs.toList)
   | _,_=>none
  | some (.array n e)=>match P.underlying e,x,y with
   | some _,.agg xs,.agg ys=>eqIs P (eqD P d e) e xs ys (List.range n)
   | _,_,_=>none
  | some dd=>cond (isStr x) none (cond (fits x dd) (eqCell x y) none)
  | none=>none
def eqAV(P:Program)(t:TypeId)(x y:AV):Option Bool :=
 match x,y with
 | .agg _,.agg _=>cond (P.eqGuardType P.depth t) none (eqD P 20 t x y)
 | x,y=>match P.underlying t with
  | some d=>cond (isAggD d) none (cond (fits x d) (eqCell x y) none)
  | none=>none
def binK(P:Program)(op:BinOp)(t:TypeId)(x y:AV)(k:AV->Option R):Option R :=
 match op,x,y with
 | .shl,.int kd a,.int _ b=>condH (decide (b<0)) none (k (.int kd (ishl kd a b)))
 | .shr,.int kd a,.int _ b=>condH (decide (b<0)) none (k (.int kd (ishr kd a b)))
 | op,.int kd a,.int z b=>condH (decide (kd=z)) (intK op kd a b k) none
 | .eql,x,y=>(eqAV P t x y).bind λb=>k (.bool b)
 | .neq,x,y=>(eqAV P t x y).bind λb=>k (.bool (!b))
 | _,_,_=>none
def unK(op:UnOp)(x:AV)(k:AV->Option R):Option R :=
 match op,x with
 | .neg,.int kd n=>k (.int kd (kd.wrap (0-n)))
 | .xor,.int kd n=>k (.int kd (ixor kd (cond kd.signed (-1) kd.max) n))
 | .not,.bool b=>k (.bool (!b))
 | _,_=>none
def splice(cells:List AV)(off:Nat)(vs:List AV):List AV:=cells.take off++vs++cells.drop (off+vs.length)
def fillK(P:Program)(place:Nat->Option (Nat×TypeId)):List (Nat×AV)->List AV->(List AV->Option R)->Option R
 | [],cells,k=>k cells
 | (i,v)::rest,cells,k=>match place i with
  | none=>none
  | some (off,t)=>cellsK P t v λcs=>cond (Nat.ble (off+cs.length) cells.length) (fillK P place rest (splice cells off cs) k) none
def kc4(P:Program)(t:TypeId):Option (List AV) :=
 match P.info? t with
 | some i=>match i.zero with
  | some z=>AV.ofCells z.cells.toList
  | none=>none
 | none=>none
def repC(l:List AV):Nat->List AV
 | 0=>[]
 | n+1=>l++repC l n
def idx(r:Option Ref)(len:Nat)(i:Int)(size:Nat):Option Ref :=
 match r with
 | some r=>cond (decide (0<=i/\i<(len:Int))) (some (r.add (i.toNat*size))) none
 | none=>none
def cutSl(s:Sl)(l h:Int)(size:Nat):Option Sl :=
 match s.cap with
 | .is c=>cond (decide (0<=l/\l<=h/\h<=(c:Int)))
   (some {ref:=if c=l.toNat then s.ref else s.ref.map (·.add (l.toNat*size)),len:=h.toNat-l.toNat,cap:=.is (c-l.toNat)}) none
 | .opn sz=>cond (Nat.beq sz size) (cond (decide (0<=l/\l<=h/\h<=(s.len:Int)))
   (some {ref:=s.ref.map (·.add (l.toNat*size)),len:=h.toNat-l.toNat,cap:=.opn sz}) none) none
def cutSl3(s:Sl)(l h m:Int)(size:Nat):Option Sl :=
 match s.cap with
 | .is c=>cond (decide (0<=l/\l<=h/\h<=m/\m<=(c:Int)))
   (some {ref:=if m.toNat=l.toNat then s.ref else s.ref.map (·.add (l.toNat*size)),len:=h.toNat-l.toNat,cap:=.is (m.toNat-l.toNat)}) none
 | .opn _=>cond (decide (0=l/\h=0/\m=0)) (some {ref:=s.ref,len:=0,cap:=.is 0}) none
def ky:Nat:=70368744177664
def growOk(P:Program)(need:Nat)(elem:TypeId)(size:Nat):Bool :=
 decide (need*P.bytesOf elem<=ky/\need<=ky)&&(match kc4 P elem with | some zs=>Nat.beq zs.length size | none=>false)
def kx(P:Program)(s:Sl)(cs:List AV)(n:Nat)(elem:TypeId)(size:Nat)(h:AH):Option (AV×AH) :=
 match s.cap with
 | .is c=>cond (Nat.ble (s.len+n) c)
   (match s.ref with
    | some r=>(h.puts (r.add (s.len*size)) cs).bind λh'=>some (.slice (some r) (s.len+n) (.is c),h')
    | none=>some (.slice none 0 (.is 0),h))
   (cond (growOk P (s.len+n) elem size)
    ((h.getsO s.ref (s.len*size)).bind λold=>some (.slice (some h.next) (s.len+n) (.opn size),h.alloc (.cells (old++cs) elem))) none)
 | .opn sz=>cond (Nat.beq n 0) (some (.slice s.ref s.len (.opn sz),h))
   (cond (Nat.beq sz size&&growOk P (s.len+n) elem size)
    (match s.ref with
     | some (.new i o)=>match h.blks[i]? with
      | some (.cells bs e)=>cond (Nat.beq e elem)
        ((h.getsO s.ref (s.len*size)).bind λold=>some (.slice (some h.next) (s.len+n) (.opn size),(h.kill s.ref).alloc (.cells (old++cs) elem))) none
      | _=>none
     | _=>none) none)
end
end Go.Ab
namespace Go.Ab
inductive Key where
 | fn (f:FuncId) (args:List AV)
 | pt (f:FuncId) (todo:List Item) (fr:Fr)
 | round (l:Nat) (args:List AV)
 | rpt (l:Nat) (f:FuncId) (todo:List Item) (fr:Fr)
abbrev Rec:=Key->AH->Option (AV×AH)
section
variable{R:Type}
def imin(a b:Int):Int:=cond (decide (b<a)) b a
def imax(a b:Int):Int:=cond (decide (a<b)) b a
def prim(name:String)(args:List AV):Option AV :=
 match args with
 | [.int _ x,.int _ y,.int _ c] =>
  cond (name == "math/bits.Add64")
   (cond (decide (0<=x/\0<=y/\0<=c/\c<=1)) (some (.tup [.int .u64 ((x+y+c)%18446744073709551616),.int .u64 ((x+y+c)/18446744073709551616)])) none)
   (cond (name == "math/bits.Sub64")
    (cond (decide (0<=x/\0<=y/\y<18446744073709551616/\0<=c/\c<=1)) (some (.tup [.int .u64 ((x-y-c)%18446744073709551616),.int .u64 (cond (decide (x<y+c)) 1 0)])) none) none)
 | _=>none
def callF(P:Program)(rec:Rec)(f:FuncId)(args:List AV)(h:AH):Option (AV×AH) :=
 match P.funcs[f]? with
 | some fn=>cond (fn.name == "runtime.NumGoroutine") none (match fn.body with
  | some _=>rec (.fn f args) h
  | none=>cond (fn.origin == "") ((prim fn.name args).map λv=>(v,h)) none)
 | none=>none
def callV(P:Program)(rec:Rec)(v:AV)(args:List AV)(h:AH):Option (AV×AH) :=
 match v with
 | .func (.func f) first captured=>callF P rec f (first++args++captured) h
 | _=>none
def lenK(P:Program)(t:TypeId)(x:AV)(k:AV->Option R):Option R :=
 match P.underlying t,x with
 | some .string,.str s=>k (.int .i64 (s.size:Int))
 | some (.array n _),_=>k (.int .i64 (n:Int))
 | some (.slice _),.slice _ n _=>k (.int .i64 (n:Int))
 | _,_=>none
def kbb(P:Program)(elem:TypeId)(x:AV)(h:AH):Option (List AV×Nat) :=
 match x with
 | .slice r n _=>(h.getsO r (n*P.cellsOf elem)).map λcs=>(cs,n)
 | _=>none
def copyH(s d:Sl)(size:Nat)(h:AH):Option AH :=
 match d.ref,s.ref with
 | some rd,some rs=>(h.gets rs (min s.len d.len*size)).bind λcs=>h.puts rd cs
 | _,_=>some h
def kgr(P:Program)(b:Builtin)(z:List TypeId)(xs:List AV)(h:AH)(k:AV->AH->Option R):Option R :=
 match b,z,xs with
 | .len,t::_,[x]=>lenK P t x λv=>k v h
 | .min,_,[.int kd a,.int _ b]=>k (.int kd (imin a b)) h
 | .max,_,[.int kd a,.int _ b]=>k (.int kd (imax a b)) h
 | .append,t::u::_,[.slice r n c,x]=>match P.underlying t,P.underlying u with
  | some (.slice e),some (.slice _)=>cond (P.info? e).isSome ((kbb P e x h).bind λp =>
    (kx P ⟨r,n,c⟩ p.1 p.2 e (P.cellsOf e) h).bind λq=>leafK .slice (some q.1) λv=>k v q.2) none
  | _,_=>none
 | .copy,t::_,[.slice r n c,.slice F y G]=>match P.underlying t with
  | some (.slice e)=>cond (P.info? e).isSome ((copyH ⟨F,y,G⟩ ⟨r,n,c⟩ (P.cellsOf e) h).bind λh'=>k (.int .i64 ((min y n:Nat):Int)) h') none
  | _=>none
 | _,_,_=>none
def kkb(P:Program)(t:TypeId)(name:String)(v:AV)(h:AH)(k:FuncId->AV->Option R):Option R :=
 match P.info? t with
 | some i=>match i.methods.find? (λm=>m.name==name)with
  | some m=>cond m.path.isEmpty (match m.func,P.underlying t,v with
   | some (f,true),some (.pointer _),v=>k f v
   | some (f,false),some (.pointer e),.ptr (some r)=>loadK P e r h λu=>k f u
   | _,_,_=>none) none
  | none=>none
 | none=>none
def callK(P:Program)(rec:Rec)(c:Call)(ty:TypeId)(fr:Fr)(h:AH)(k:AV->AH->Option R):Option R :=
 match evs fr c.args.toList with
 | none=>none
 | some xs=>match c.callee with
  | .builtin b=>kgr P b c.argTypes.toList xs h k
  | .value f=>match evO fr f with
   | some v=>(callV P rec v xs h).bind λq=>khe P ty q.1 λv=>k v q.2
   | none=>none
  | .invoke r name=>match evO fr r with
   | some v=>v.asIface.bind λp=>kkb P p.1 name p.2 h λf u=>(callF P rec f (u::xs) h).bind λq=>khe P ty q.1 λv=>k v q.2
   | none=>none
def boundK(fr:Fr)(x:Option Operand)(y:Int)(k:Int->Option R):Option R :=
 match x with
 | none=>k y
 | some o=>match evO fr o with
  | some (.int _ n)=>k n
  | _=>none
def sliceK(P:Program)(t:TypeId)(x:AV)(fr:Fr)(lo z F:Option Operand)(k:AV->Option R):Option R :=
 match P.underlying t,x with
 | some (.slice e),.slice r n c=>boundK fr lo 0 λl=>boundK fr z (n:Int) λy=>match F with
  | none=>cond (P.info? e).isSome ((cutSl ⟨r,n,c⟩ l y (P.cellsOf e)).bind λs=>k s.v) none
  | some m=>cond ((P.info? e).isSome&&z.isSome) (boundK fr (some m) 0 λG=>(cutSl3 ⟨r,n,c⟩ l y G (P.cellsOf e)).bind λs=>k s.v) none
 | some (.array n e),.ptr (some r)=>boundK fr lo 0 λl=>boundK fr z (n:Int) λy=>match F with
  | none=>cond (P.info? e).isSome ((cutSl ⟨some r,n,.is n⟩ l y (P.cellsOf e)).bind λs=>k s.v) none
  | some _=>none
 | some .string,.str s=>boundK fr lo 0 λl=>boundK fr z (s.size:Int) λy=>match F with
  | none=>cond (decide (0<=l/\l<=y/\y<=(s.size:Int))) (k (.str (s.extract l.toNat y.toNat))) none
  | some _=>none
 | _,_=>none
def kk4(P:Program)(y dst:TypeId)(x:AV)(k:AV->Option R):Option R :=
 match P.underlying y,P.underlying dst,x with
 | some (.int _),some (.int kd),.int _ n=>k (.int kd (kd.wrap n))
 | some .string,some .string,.str s=>k (.str s)
 | _,_,_=>none
def kqv(P:Program)(t:TypeId)(f:Nat):Option Field :=
 match P.underlying t with
 | some (.struct fs)=>fs.toList[f]?
 | _=>none
def kr2(P:Program)(y:Array Field):Option (List (Nat×Nat)):=y.toList.mapM λf=>(P.info? f.type).map λi=>(f.offset,i.size)
def kbm(l c:Int)(elem:TypeId)(bytes:Nat)(zs:List AV)(h:AH):Option (Sl×AH):=cond (decide (0<=l/\l<=c/\c<=(ky:Int)/\c*bytes<=(ky:Int))) (some (⟨some h.next,l.toNat,.is c.toNat⟩,h.alloc (.cells (repC zs c.toNat) elem))) none
def aggK(P:Program)(t:TypeId)(v:AV)(k:AV->Option R):Option R:=match P.underlying t with
 | some d=>cond (isAggD d) (seeK P t v k) (k v)
 | none=>none
def opK(P:Program)(rec:Rec)(o:Op)(ty:TypeId)(fr:Fr)(h:AH)(k:AV->AH->Option R):Option R :=
 match o with
 | .move x | .assign x=>takeH (evO fr x) λv=>k v h
 | .pick c a b=>match evO fr c with
  | some (.bool t)=>cond t ((evO fr a).bind λv=>k v h) ((evO fr b).bind λv=>k v h)
  | _=>none
 | .alloc t=>match kc4 P t with
  | some zs=>k (.ptr (some h.next)) (h.alloc (.cells zs t))
  | none=>none
 | .box t x=>(evO fr x).bind λv=>cellsK P t v λcs=>k (.ptr (some h.next)) (h.alloc (.cells cs t))
 | .build t parts=>match evs fr (parts.toList.map (·.2)),kc4 P t,P.underlying t with
  | some vs,some zs,some (.struct fs)=>cond (kr2 P fs).isSome (fillK P (λi=>(fs.toList[i]?).map λf=>(f.offset,f.type)) ((parts.toList.map (·.1)).zip vs) zs λcs=>k (.agg cs) h) none
  | some vs,some zs,some (.array _ e)=>cond (P.info? e).isSome (fillK P (λi=>some (i*P.cellsOf e,e)) ((parts.toList.map (·.1)).zip vs) zs λcs=>k (.agg cs) h) none
  | _,_,_=>none
 | .buildSlice t n parts=>match evs fr (parts.toList.map (·.2)),P.underlying t with
  | some vs,some (.slice e)=>match kc4 P e with
   | some zs=>cond (Nat.ble (n*P.cellsOf e) 16777216&&Nat.beq zs.length (P.cellsOf e))
     (fillK P (λi=>some (i*P.cellsOf e,e)) ((parts.toList.map (·.1)).zip vs) (repC zs n) λcs=>k (.slice (some h.next) n (.is n)) (h.alloc (.cells cs e))) none
   | none=>none
  | _,_=>none
 | .load t a=>match evO fr a with
  | some (.ptr (some r))=>loadK P t r h λv=>k v h
  | some (.ptr none)=>none
  | _=>none
 | .store t a x=>match evO fr a,evO fr x with
  | some (.ptr p),some v=>cellsK P t v λcs=>p.bind λr=>(h.puts r cs).bind λh'=>k (.tup []) h'
  | _,_=>none
 | .nilCheck x=>match evO fr x with
  | some (.ptr p)=>p.bind λr=>k (.ptr (some r)) h
  | some (.func (.func f) a b)=>k (.func (.func f) a b) h
  | _=>none
 | .binOp op t x y _=>match evO fr x,evO fr y with
  | some a,some b=>binK P op t a b λv=>k v h
  | _,_=>none
 | .unOp op _ x=>match evO fr x with
  | some a=>unK op a λv=>k v h
  | none=>none
 | .convert s d x=>match evO fr x with
  | some a=>kk4 P s d a λv=>k v h
  | none=>none
 | .makeFunc f first captured=>match evs fr first.toList,evs fr captured.toList,f with
  | some a,some b,.func g=>k (.func (.func g) a b) h
  | _,_,_=>none
 | .makeSlice t l c=>match evO fr l,evO fr c,P.underlying t with
  | some (.int _ l),some (.int _ c),some (.slice e)=>match kc4 P e with
   | some zs=>cond (Nat.beq zs.length (P.cellsOf e)) ((kbm l c e (P.bytesOf e) zs h).bind λq=>k q.1.v q.2) none
   | none=>none
  | _,_,_=>none
 | .slice t x lo z mx=>match evO fr x with
  | some a=>sliceK P t a fr lo z mx λv=>k v h
  | none=>none
 | .fieldAddr s x f=>match evO fr x,kqv P s f with
  | some (.ptr p),some fd=>cond (Nat.beq (P.cellsOf fd.type) 0) none (p.bind λr=>k (.ptr (some (r.add fd.offset))) h)
  | _,_=>none
 | .field t x f=>match evO fr x,kqv P t f with
  | some (.agg cs),some fd=>(partA P fd.type cs fd.offset).bind λv=>k v h
  | _,_=>none
 | .indexAddr t x i=>match evO fr x,evO fr i,P.underlying t with
  | some (.slice r n _),some (.int _ j),some (.slice e)=>condH (P.info? e).isSome ((idx r n j (P.cellsOf e)).bind λq=>k (.ptr (some q)) h) none
  | some (.ptr r),some (.int _ j),some (.array n e)=>condH (P.info? e).isSome ((idx r n j (P.cellsOf e)).bind λq=>k (.ptr (some q)) h) none
  | _,_,_=>none
 | .index t x i=>match evO fr x,evO fr i,P.underlying t with
  | some (.agg cs),some (.int _ j),some (.array n e)=>cond (decide (0<=j/\j<(n:Int))) ((partA P e cs (j.toNat*P.cellsOf e)).bind λv=>aggK P e v λv'=>k v' h) none
  | some (.str s),some (.int _ j),some .string=>cond (decide (0<=j)) ((s[j.toNat]?).bind λb=>k (.int .u8 (b.toNat:Int)) h) none
  | _,_,_=>none
 | .extract x i=>match evO fr x with
  | some (.tup vs)=>(vs[i]?).bind λv=>k v h
  | _=>none
 | .makeInterface t x=>match evO fr x,P.underlying t with
  | some v,some d=>cond (isIfcD d) none (k (.iface t v) h)
  | _,_=>none
 | .typeAssert x _ t ok=>match evO fr x,P.underlying t with
  | some v,some d=>v.asIface.bind λp=>cond (!isIfcD d&&Nat.beq p.1 t) (seeK P t p.2 λu=>cond ok (k (.tup [u,.bool true]) h) (k u h)) none
  | _,_=>none
 | .call c=>callK P rec c ty fr h k
 | _=>none
end
abbrev Keep:=FuncId->Nat->Option (List Nat)
def putT{R:Type}(n:Nat)(d:Option Tmp)(v:AV)(fr:Fr)(k:Fr->Option R):Option R :=
 match d with
 | none=>k fr
 | some t=>condH (Nat.blt t n) (k ((t,v)::fr)) none
theorem ki1{R:Type}(n:Nat)(d:Option Tmp)(v:AV)(fr:Fr)(k:Fr->Option R):putT n d v fr k=match d with
 | none=>k fr
 | some t=>cond (Nat.blt t n) (k ((t,v)::fr)) none:=by cases d<;>simp only[putT,kd4]
def resK(P:Program)(fr:Fr)(h:AH):List ResultVar->(List AV->Option (AV×AH))->Option (AV×AH)
 | [],k=>k []
 | .tmp t::rs,k=>(fr.get t).bind λv=>resK P fr h rs λvs=>k (v::vs)
 | .cell a t::rs,k=>match fr.get a with
  | some (.ptr (some r))=>loadK P t r h λv=>resK P fr h rs λvs=>k (v::vs)
  | _=>none
def kio(P:Program)(fn:Func)(fr:Fr)(h:AH):Option (AV×AH) :=
 resK P fr h fn.results.toList λvs=>match vs with
  | [v]=>some (v,h)
  | vs=>some (.tup vs,h)
def learn(c:Operand)(b:Bool)(fr:Fr):Fr :=
 match c with
 | .tmp t=>(t,.bool b)::fr
 | _=>fr
def kwy(K:Keep)(f:FuncId)(id n:Nat):List Nat:=match K f (1000000+id)with
 | some l=>l
 | none=>List.range n
def resvOf(K:Keep)(f:FuncId)(id:Nat):List Nat:=match K f (2000000+id)with
 | some l=>l
 | none=>[]
def preOf(K:Keep)(f:FuncId)(id:Nat):List Nat:=match K f (3000000+id)with
 | some l=>l
 | none=>[]
def AH.setBlk(h:AH)(i:Nat)(b:ABlk):AH:={h with blks:=h.blks.setIfInBounds i b}
def findA(kd:IntKind)(n:Int):List AEnt->Nat->Option (Option (Nat×AV))
 | [],_=>some none
 | e::es,i=>match e.key with
  | .int y m=>cond (decide (y=kd)) (cond (decide (n=m)) (some (some (i,e.val))) (findA kd n es (i+1))) none
  | _=>none
def AH.mapAt(h:AH)(i:Nat):Option (List AEnt×Nat):=match h.blks[i]? with
 | some (.map es ck)=>some (es,ck)
 | _=>none
def mapGet(h:AH)(r:Option Nat)(kd:IntKind)(n:Int):Option (Option AV):=match r with
 | none=>some none
 | some i=>(h.mapAt i).bind λp=>(findA kd n p.1 0).map λq=>q.map Prod.snd
def mapPut(h:AH)(i:Nat)(kd:IntKind)(n:Int)(v:AV):Option AH:=(h.mapAt i).bind λp=>(findA kd n p.1 0).map λq=>match q with
 | some x=>h.setBlk i (.map (p.1.modify x.1 λe=>⟨.int kd n,v,e.born⟩) p.2)
 | none=>h.setBlk i (.map (p.1++[⟨.int kd n,v,p.2⟩]) (p.2+1))
def mapDel(h:AH)(r:Option Nat)(kd:IntKind)(n:Int):Option AH:=match r with
 | none=>some h
 | some i=>(h.mapAt i).bind λp=>(findA kd n p.1 0).map λq=>match q with
  | some x=>h.setBlk i (.map (p.1.eraseIdx x.1) p.2)
  | none=>h.setBlk i (.map p.1 p.2)
def mapLen(h:AH)(r:Option Nat):Option Nat:=match r with
 | none=>some 0
 | some i=>(h.mapAt i).map λp=>p.1.length
def klc(h:AH)(r:Option Nat):Option AH:=match r with
 | none=>some h
 | some i=>(h.mapAt i).map λp=>h.setBlk i (.map [] p.2)
def mapEnt(h:AH)(i:Nat)(kd:IntKind)(n:Int)(z:AV):Option (AV×Int×AH):=(h.mapAt i).bind λp=>(findA kd n p.1 0).bind λq=>match q with
 | some x=>(p.1[x.1]?).map λe=>(x.2,(e.born:Int),h.setBlk i (.map (p.1.modify x.1 λe=>⟨.int kd n,e.val,e.born⟩) p.2))
 | none=>some (z,(p.2:Int),h.setBlk i (.map (p.1++[⟨.int kd n,z,p.2⟩]) (p.2+1)))
def mapSet(h:AH)(i:Nat)(born:Int)(v:AV):Option AH:=(h.mapAt i).bind λp=>(p.1.findIdx? λe=>decide ((e.born:Int)=born)).map λj=>h.setBlk i (.map (p.1.modify j λe=>⟨e.key,v,e.born⟩) p.2)
def zeroA(P:Program)(t:TypeId):Option AV:=(P.info? t).bind λi=>i.zero.bind AV.ofValue
def opM{R:Type}(P:Program)(rec:Rec)(o:Op)(ty:TypeId)(fr:Fr)(h:AH)(k:AV->AH->Option R):Option R :=
 match o with
 | .makeMap _ none=>k (.map (some h.blks.size)) (h.alloc (.map [] 0))
 | .mapUpdate t m x v=>match P.underlying t,evO fr m,evO fr x,evO fr v with
  | some (.map kt _),some (.map r),some (.int kd n),some val=>match P.underlying kt with
   | some (.int y)=>cond (decide (kd=y)) (r.bind λi=>(mapPut h i kd n val).bind λh'=>k (.tup []) h') none
   | _=>none
  | _,_,_,_=>none
 | .insert t m x v=>match P.underlying t,evO fr m,evO fr x,evO fr v with
  | some (.map kt _),some (.map r),some (.int kd n),some val=>match P.underlying kt with
   | some (.int y)=>cond (decide (kd=y)) (r.bind λi=>(mapPut h i kd n val).bind λh'=>k (.tup []) h') none
   | _=>none
  | _,_,_,_=>none
 | .lookup t m x ok=>match P.underlying t,evO fr m,evO fr x with
  | some (.map kt et),some (.map r),some (.int kd n)=>match P.underlying kt,zeroA P et with
   | some (.int y),some z=>cond (decide (kd=y)) ((mapGet h r kd n).bind λq=>seeK P et (q.getD z) λv=>cond ok (k (.tup [v,.bool q.isSome]) h) (k v h)) none
   | _,_=>none
  | _,_,_=>none
 | .mapEntry t m x=>match P.underlying t,evO fr m,evO fr x with
  | some (.map kt et),some (.map (some i)),some (.int kd n)=>match P.underlying kt,zeroA P et with
   | some (.int y),some z=>cond (decide (kd=y)) ((mapEnt h i kd n z).bind λq=>seeK P et q.1 λv=>k (.tup [v,.int .i64 q.2.1]) q.2.2) none
   | _,_=>none
  | _,_,_=>none
 | .entryStore _ m s v=>match evO fr m,evO fr s,evO fr v with
  | some (.map (some i)),some (.int _ n),some val=>(mapSet h i n val).bind λh'=>k (.tup []) h'
  | _,_,_=>none
 | .call c=>match c.callee,evs fr c.args.toList,c.argTypes.toList with
  | .builtin .len,some [.map r],t::_=>match P.underlying t with
   | some (.map _ _)=>(mapLen h r).bind λn=>k (.int .i64 (n:Int)) h
   | _=>none
  | .builtin .delete,some [.map r,.int kd n],t::_=>match P.underlying t with
   | some (.map kt _)=>match P.underlying kt with
    | some (.int y)=>cond (decide (kd=y)) ((mapDel h r kd n).bind λh'=>k (.tup []) h') none
    | _=>none
   | _=>none
  | .builtin .clear,some [.map r],t::_=>match P.underlying t with
   | some (.map _ _)=>(klc h r).bind λh'=>k (.tup []) h'
   | _=>none
  | _,_,_=>opK P rec o ty fr h k
 | _=>opK P rec o ty fr h k
def findP(kd:IntKind)(a b:Int):List AEnt->Nat->Option (Option (Nat×AV))
 | [],_=>some none
 | e::es,i=>match e.key with
  | .agg [.int z x,.int F y]=>cond (decide (z=kd)&&decide (F=kd)) (cond (decide (a=x)&&decide (b=y)) (some (some (i,e.val))) (findP kd a b es (i+1))) none
  | _=>none
def kk5(h:AH)(r:Option Nat)(kd:IntKind)(a b:Int):Option (Option AV):=match r with
 | none=>some none
 | some i=>(h.mapAt i).bind λp=>(findP kd a b p.1 0).map λq=>q.map Prod.snd
def kmk(h:AH)(i:Nat)(kd:IntKind)(a b:Int)(v:AV):Option AH:=(h.mapAt i).bind λp=>(findP kd a b p.1 0).map λq=>match q with
 | some x=>h.setBlk i (.map (p.1.modify x.1 λe=>⟨.agg [.int kd a,.int kd b],v,e.born⟩) p.2)
 | none=>h.setBlk i (.map (p.1++[⟨.agg [.int kd a,.int kd b],v,p.2⟩]) (p.2+1))
def pairKd(P:Program)(y:TypeId):Option IntKind:=match P.underlying y with
 | some (.array n e)=>match P.underlying e with
  | some (.int kd)=>cond (Nat.beq n 2&&Nat.beq (P.cellsOf e) 1) (some kd) none
  | _=>none
 | _=>none
def opP{R:Type}(P:Program)(rec:Rec)(o:Op)(ty:TypeId)(fr:Fr)(h:AH)(k:AV->AH->Option R):Option R :=
 match o with
 | .mapUpdate t m x v=>match P.underlying t,evO fr m,evO fr x,evO fr v with
  | some (.map kt _),some (.map r),some (.agg [.int y a,.int F b]),some val=>match pairKd P kt with
   | some kd=>cond (decide (y=kd)&&decide (F=kd)) (r.bind λi=>(kmk h i kd a b val).bind λh'=>k (.tup []) h') none
   | none=>none
  | _,_,_,_=>opM P rec (.mapUpdate t m x v) ty fr h k
 | .lookup t m x ok=>match P.underlying t,evO fr m,evO fr x with
  | some (.map kt et),some (.map r),some (.agg [.int y a,.int F b])=>match pairKd P kt,zeroA P et with
   | some kd,some z=>cond (decide (y=kd)&&decide (F=kd)) ((kk5 h r kd a b).bind λq=>seeK P et (q.getD z) λv=>cond ok (k (.tup [v,.bool q.isSome]) h) (k v h)) none
   | _,_=>none
  | _,_,_=>opM P rec (.lookup t m x ok) ty fr h k
 | o=>opM P rec o ty fr h k
def nonEff:Op->Bool
 | .move _ | .assign _ | .pick _ _ _ | .build _ _ | .load _ _ | .nilCheck _ | .binOp _ _ _ _ _ | .unOp _ _ _ | .convert _ _ _ | .makeFunc _ _ _
 | .slice _ _ _ _ _ | .fieldAddr _ _ _ | .field _ _ _ | .indexAddr _ _ _ | .index _ _ _ | .extract _ _ | .makeInterface _ _ | .typeAssert _ _ _ _=>true
 | .call c=>match c.callee with
  | .builtin .len | .builtin .min | .builtin .max=>true
  | _=>false
 | _=>false
def opX{R:Type}(P:Program)(rec:Rec)(o:Op)(ty:TypeId)(fr:Fr)(h:AH)(k:AV->AH->Option R):Option R:=cond (nonEff o) (opK P rec o ty fr h k) (opP P rec o ty fr h k)
def opsK{R:Type}(P:Program)(rec:Rec)(N:Nat)(ops:Array Oper):List Nat->Fr->AH->(Fr->AH->Option R)->Option R
 | [],fr,h,k=>k fr h
 | i::is,fr,h,k=>match ops[i]? with
  | none=>none
  | some o =>
   let go:=λfr=>opX P rec o.op o.type fr h λv h'=>putT N o.dst v fr λy=>opsK P rec N ops is y h' k
   let skip:=λfr=>putT N o.dst (.tup []) fr λy=>opsK P rec N ops is y h k
   match o.guard with
   | none=>go fr
   | some (j,b)=>match ((ops[j]?).bind (·.dst))with
    | none=>none
    | some t=>match fr.get t with
     | some (.bool c)=>cond c
       (cond b (go ((t,.bool true)::fr)) (skip ((t,.bool true)::fr)))
       (cond b (skip ((t,.bool false)::fr)) (go ((t,.bool false)::fr)))
     | some (.tup [])=>skip fr
     | _=>none
structure Look where
 at_:Nat
 ref:Ref
 size:Nat
def kb0(P:Program)(i:Nat)(o:Op)(fr:Fr):List Look :=
 match o with
 | .load t a=>match evO fr a with
  | some (.ptr (some r))=>match P.underlying t with
   | some d=>[⟨i,r,cond (isAggD d) (P.cellsOf t) 1⟩]
   | none=>[]
  | _=>[]
 | _=>[]
def SameBlk(h h':AH):Ref->Prop
 | .new i _=>h'.blks[i]?=h.blks[i]?
 | .old _=>True
def SameAt(h h':AH)(r:Ref)(n:Nat):Prop:=(∀j,j<n->h'.cell (r.add j)=h.cell (r.add j))/\(n=0->SameBlk h h' r)
open Classical in
noncomputable def whenK{R:Type}(p:Prop)(x:Option R):Option R:=if p then x else none
noncomputable def checkP{R:Type}(m:Nat)(h h':AH)(x:Option R):List Look->Option R
 | []=>x
 | p::ps=>cond (m.testBit p.at_) (checkP m h h' x ps) (whenK (SameAt h h' p.ref p.size) (checkP m h h' x ps))
def depsOf(o:Oper):Nat:=o.after.toList.foldl (λm e=>cond (Region.binds .any e) (m|||1 <<< e.on) m) 0
def orBits(d:Nat):List Nat->Nat->Nat
 | [],_=>0
 | a::as,i=>cond (d.testBit i) (a|||orBits d as (i+1)) (orBits d as (i+1))
def ancsOf:List Nat->List Nat->List Nat
 | acc,[]=>acc
 | acc,d::ds=>ancsOf (acc++[d|||orBits d acc 0]) ds
def readyB(y:List Nat)(m i:Nat):Bool:=match y[i]? with
 | some d=>Nat.beq (d&&&m) d&&!m.testBit i
 | none=>false
def onlyB(n:Nat)(y:List Nat)(m i:Nat):Bool:=(List.range n).all λj=>Nat.beq j i||!readyB y m j
def freeB(ops:Array Oper)(y:List Nat)(m i:Nat)(o:Oper):Bool:=(List.range ops.size).all λj =>
 Nat.beq j i||m.testBit j||(match y[j]? with | some d=>d.testBit i | none=>false)||(match ops[j]? with | some oj=>o.apart ops oj | none=>false)
noncomputable def opsD{R:Type}(P:Program)(rec:Rec)(N:Nat)(ops:Array Oper)(y z:List Nat):List Nat->Nat->List Look->Fr->AH->(Fr->AH->Option R)->Option R
 | [],m,_,fr,h,k=>cond (Nat.beq m (2^ops.size-1)) (k fr h) none
 | i::c,m,ps,fr,h,k=>match ops[i]?,z[i]? with
  | some o,some an=>cond (readyB y m i)
   (cond (nonEff o.op)
    (cond (freeB ops y m i o) (opsK P rec N ops [i] fr h λF h'=>opsD P rec N ops y z c (m|||1 <<< i) (kb0 P i o.op fr++ps) F h' k) none)
    (cond (onlyB ops.size y m i) (opsK P rec N ops [i] fr h λF h'=>checkP an h h' (opsD P rec N ops y z c (m|||1 <<< i) ps F h' k) ps) none)) none
  | _,_=>none
noncomputable def drawK{R:Type}(P:Program)(rec:Rec)(N:Nat)(ops:Array Oper)(y:List Nat)(fr:Fr)(h:AH)(k:Fr->AH->Option R):Option R:=cond (Nat.beq y.length ops.size) (opsD P rec N ops (ops.toList.map depsOf) (ancsOf [] (ops.toList.map depsOf)) y 0 [] fr h k) none
def Fr.low(N:Nat)(fr:Fr):Fr:=fr.filter λp=>Nat.blt p.1 N
def lowB(N:Nat)(ops:Array Oper):Bool:=ops.toList.all λo=>(o.looksAt ops).all λt=>Nat.blt t N
def layB:Op->Bool
 | .alloc _ | .box _ _ | .buildSlice _ _ _ | .makeSlice _ _ _ | .makeMap _ none=>true
 | _=>false
def isTmp(t:Tmp):Operand->Bool
 | .tmp s=>Nat.beq s t
 | _=>false
def heldB(ops:Array Oper)(o:Oper):Bool:=(List.range ops.size).all λj=>match (ops[j]?).bind (·.dst)with
 | some t=>!(o.op.operands.toList.any (isTmp t))||(depsOf o).testBit j
 | none=>true
noncomputable def finK{R:Type}(cs:List Operand)(a b:Fr)(x:Option R):Option R:=match cs with
 | []=>x
 | c::cs=>whenK ((c::cs).map (evO a)=(c::cs).map (evO b)) x
noncomputable def drawR{R:Type}(P:Program)(rec:Rec)(N:Nat)(y:List Nat)(fp:Fr):List Nat->List Operand->Array Oper->List Look->Fr->AH->(Fr->AH->Option R)->Option R
 | [],cs,ops,ps,fr,h,k=>cond (Nat.beq y.length ops.size) (opsD P rec N ops (ops.toList.map depsOf) (ancsOf [] (ops.toList.map depsOf)) y 0 ps fr h λz h'=>finK cs (z.low N) fp (k (z.low N) h')) none
 | i::is,cs,ops,ps,fr,h,k=>match ops[i]? with
  | some o=>cond (layB o.op&&heldB ops o) (opX P rec o.op o.type fp h λv h'=>drawR P rec N y fp is (o.op.operands.toList++cs) (ops.setIfInBounds i {o with op:=.move (.tmp (N+i))}) (⟨i,h.next,0⟩::ps) ((N+i,v)::fr) h' k) none
  | none=>none
noncomputable def drawX{R:Type}(P:Program)(rec:Rec)(N:Nat)(ops:Array Oper)(y z F:List Nat)(fr:Fr)(h:AH)(k:Fr->AH->Option R):Option R :=
 match z with
 | []=>drawK P rec N ops y fr h k
 | i::is=>cond (lowB N ops) (opsK P rec N ops F fr h λfp _=>drawR P rec N y fp (i::is) [] ops [] fr h k) none
def kj5(o:Op)(fr:Fr):Option (Nat×List AV):=match o with
 | .call c=>match c.callee,evs fr c.args.toList with
  | .value f,some xs=>match evO fr f with
   | some (.func (.yield l) [] [])=>some (l,xs)
   | _=>none
  | _,_=>none
 | _=>none
def opY{R:Type}(P:Program)(rec:Rec)(o:Op)(ty:TypeId)(fr:Fr)(h:AH)(k:AV->AH->Option R):Option R :=
 match kj5 o fr with
 | some p=>(rec (.round p.1 p.2) h).bind λq=>khe P ty q.1 λv=>k v q.2
 | none=>opP P rec o ty fr h k
def opsY{R:Type}(P:Program)(rec:Rec)(N:Nat)(ops:Array Oper):List Nat->Fr->AH->(Fr->AH->Option R)->Option R
 | [],fr,h,k=>k fr h
 | i::is,fr,h,k=>match ops[i]? with
  | none=>none
  | some o =>
   let go:=λfr=>opY P rec o.op o.type fr h λv h'=>putT N o.dst v fr λy=>opsY P rec N ops is y h' k
   let skip:=λfr=>putT N o.dst (.tup []) fr λy=>opsY P rec N ops is y h k
   match o.guard with
   | none=>go fr
   | some (j,b)=>match ((ops[j]?).bind (·.dst))with
    | none=>none
    | some t=>match fr.get t with
     | some (.bool c)=>cond c
       (cond b (go ((t,.bool true)::fr)) (skip ((t,.bool true)::fr)))
       (cond b (skip ((t,.bool false)::fr)) (go ((t,.bool false)::fr)))
     | some (.tup [])=>skip fr
     | _=>none
def kcq(l:Nat)(y:Option Code)(h:AH):Option (AV×AH) :=
 match h.blks[l]? with
 | some (.loop _ _ f fr ps as bd d)=>some (.bool y.isNone,h.setBlk l (.loop (cond y.isNone .ready .done) y f fr ps as bd d))
 | _=>none
def leaveA(P:Program)(fn:Func)(ro:Option Nat)(y:Option Code)(fr:Fr)(h:AH):Option (AV×AH) :=
 match ro with
 | some l=>kcq l y h
 | none=>match y with
  | none=>kio P fn fr h
  | some .ret=>kio P fn fr h
  | some _=>none
def beginA(l:Nat)(h:AH):Option AH :=
 match h.blks[l]? with
 | some (.loop .ready pe f fr ps as bd d)=>some (h.setBlk l (.loop .busy pe f fr ps as bd d))
 | _=>none
def kdd(l:Nat)(h:AH):Option (Option Code×AH) :=
 match h.blks[l]? with
 | some (.loop st pe _ _ _ _ _ _)=>cond (st==.busy) none (some (pe,h.setBlk l .dead))
 | _=>none
def kh1(ops:Array Oper):Bool:=ops.toList.any λo=>match o.op with
 | .defer _=>true
 | _=>false
noncomputable def execA(P:Program)(K:Keep)(rec:Rec)(ro:Option Nat)(f:FuncId)(fn:Func):Nat->Bool->List Item->Fr->AH->Option (AV×AH)
 | 0,_,_,_,_=>none
 | n+1,fresh,todo,fr,h=>match todo with
  | []=>leaveA P fn ro none fr h
  | .code .ret::_=>leaveA P fn ro (some .ret) fr h
  | .code .skip::k=>execA P K rec ro f fn n fresh k fr h
  | .code (.label _)::k=>execA P K rec ro f fn n fresh k fr h
  | .inBlock _::k=>execA P K rec ro f fn n fresh k fr h
  | .inScope _::k=>execA P K rec ro f fn n fresh k fr h
  | .code (.seq a b)::k=>execA P K rec ro f fn n fresh (.code a::.code b::k) fr h
  | .code (.cond c a b)::k=>match evO fr c with
   | some (.bool t)=>cond t (execA P K rec ro f fn n fresh (.code a::k) (learn c true fr) h) (execA P K rec ro f fn n fresh (.code b::k) (learn c false fr) h)
   | _=>none
  | .code (.block id body)::k=>execA P K rec ro f fn n fresh (.code body::.inBlock id::k) fr h
  | .code (.loop body)::k=>execA P K rec ro f fn n fresh (.code body::.inLoop body::k) fr h
  | .inLoop body::k=>execA P K rec ro f fn n fresh (.code body::.inLoop body::k) fr h
  | .code (.scope body)::k=>execA P K rec ro f fn n fresh (.code body::.inScope body::k) fr h
  | .code (.exit id)::k=>match exitTo id k with
   | some z=>execA P K rec ro f fn n fresh z fr h
   | none=>leaveA P fn ro (some (.exit id)) fr h
  | .code (.goto l)::k=>match gotoIn l k with
   | some z=>execA P K rec ro f fn n fresh z fr h
   | none=>leaveA P fn ro (some (.goto l)) fr h
  | .code (.region id ops draw)::k =>
   condH fresh
    (condH draw (condH (ro.isSome&&kh1 ops) none (drawX P rec fn.ntmps ops (kwy K f id ops.size) (resvOf K f id) (preOf K f id) fr h λy h'=>execA P K rec ro f fn n false k y h')) (opsY P rec fn.ntmps ops (List.range ops.size) fr h λy h'=>execA P K rec ro f fn n false k y h'))
    (match K f id with
     | some L=>match ro with
      | none=>rec (.pt f todo (fr.keep L)) h
      | some l=>rec (.rpt l f todo (fr.keep L)) h
     | none=>condH draw (condH (ro.isSome&&kh1 ops) none (drawX P rec fn.ntmps ops (kwy K f id ops.size) (resvOf K f id) (preOf K f id) fr h λy h'=>execA P K rec ro f fn n false k y h')) (opsY P rec fn.ntmps ops (List.range ops.size) fr h λy h'=>execA P K rec ro f fn n false k y h'))
  | .beginRound::k=>match ro with
   | some l=>(beginA l h).bind λh'=>execA P K rec ro f fn n fresh k fr h'
   | none=>none
  | .code (.rangeFunc g ps as bd)::k=>match ro with
   | some _=>none
   | none=>condH fresh (match evO fr g with
    | some (.func (.func gf) first captured)=>(callF P rec gf (first++[.func (.yield h.blks.size) [] []]++captured) (h.alloc (.loop .ready none f (fr.keep (List.range fn.ntmps)) ps as bd 0))).bind λq =>
      (kdd h.blks.size q.2).bind λp=>rec (.pt f ((p.1.map Item.code).toList++k) (fr.keep (List.range fn.ntmps))) p.2
    | _=>none) (rec (.pt f todo (fr.keep (List.range fn.ntmps))) h)
  | _=>none
def kj9:Nat->List AV->Fr
 | _,[]=>[]
 | i,v::vs=>(i,v)::kj9 (i+1) vs
def handed:List Tmp->List AV->Fr->Fr
 | t::ts,v::vs,fr=>handed ts vs ((t,v)::fr)
 | _,_,fr=>fr
noncomputable def stepA(P:Program)(K:Keep)(rec:Rec)(key:Key)(h:AH):Option (AV×AH) :=
 match key with
 | .fn f args=>match P.funcs[f]? with
  | some fn=>match fn.body with
   | some c=>condH (Nat.ble args.length fn.ntmps) (execA P K rec none f fn 4000 false [.code c] (kj9 0 args) h) none
   | none=>none
  | none=>none
 | .pt f todo fr=>match P.funcs[f]? with
  | some fn=>execA P K rec none f fn 4000 true todo fr h
  | none=>none
 | .round l args=>match h.blks[l]? with
  | some (.loop _ _ f fr ps as bd _)=>match P.funcs[f]? with
   | some fn=>condH (Nat.beq ps.size args.length&&ps.toList.all λt=>Nat.blt t fn.ntmps) (execA P K rec (some l) f fn 4000 false [.code as,.beginRound,.code bd] (handed ps.toList args fr) h) none
   | none=>none
  | _=>none
 | .rpt l f todo fr=>match P.funcs[f]? with
  | some fn=>execA P K rec (some l) f fn 4000 true todo fr h
  | none=>none
noncomputable def runF(P:Program)(K:Keep):Nat->Rec
 | 0=>λ_ _=>none
 | n+1=>stepA P K (runF P K n)
open Classical in
noncomputable def run(P:Program)(K:Keep):Rec:=λkey h =>if y:∃n r,runF P K n key h=some r then some (Classical.choose (Classical.choose_spec y))else none
structure Loc where
 block:Nat
 base:Nat
 total:Nat
abbrev Mu:=Nat->Option Loc
def RRel(μ:Mu):Ref->Addr->Prop
 | .old a,b=>b=a
 | .new i o,b=>∃L,μ i=some L/\b=⟨L.block,L.base+o,none⟩
def CapRel(μ:Mu)(r:Ref)(n c:Nat):Cap->Prop
 | .is k=>n<=c/\c=k
 | .opn sz=>n<=c/\∃i o L,r=.new i o/\μ i=some L/\o+c*sz<=L.total
def FnRel(μ:Mu):Fn->Fn->Prop
 | .yield i,g=>∃L,μ i=some L/\g=.yield L.block
 | f,g=>g=f
mutual
def VRel(μ:Mu):AV->Value->Prop
 | .bool b,u=>u=.bool b
 | .int k n,u=>u=.int k n
 | .str s,u=>u=.string s
 | .ptr none,u=>u=.pointer none
 | .ptr (some r),u=>∃a,RRel μ r a/\u=.pointer (some a)
 | .slice none n c,u=>n=0/\c=.is 0/\u=.slice none 0 0
 | .slice (some r) n cap,u=>∃a c,u=.slice (some a) n c/\(c=0\/RRel μ r a)/\CapRel μ r n c cap
 | .map none,u=>u=.map none
 | .map (some i),u=>∃L,μ i=some L/\u=.map (some L.block)
 | .func f a b,u=>∃g x y,u=.func g x y/\FnRel μ f g/\VRels μ a x.toList/\VRels μ b y.toList
 | .nilFunc,u=>u=.nilFunc
 | .iface t v,u=>∃x,u=.iface t x/\VRel μ v x
 | .nilIface,u=>u=.nilIface
 | .agg cs,u=>∃us:Array Value,u=.agg us/\VRels μ cs us.toList/\cs.all AV.one=true
 | .tup cs,u=>∃us:Array Value,u=.tuple us/\VRels μ cs us.toList
def VRels(μ:Mu):List AV->List Value->Prop
 | [],us=>us=[]
 | v::vs,us=>∃x xs,us=x::xs/\VRel μ v x/\VRels μ vs xs
end
def Mu.le(μ ν:Mu):Prop:=∀i L,μ i=some L->ν i=some L
theorem Mu.le_refl(μ:Mu):μ.le μ:=λ_ _ h=>h
theorem Mu.le_trans{a b c:Mu}(h:a.le b)(k:b.le c):a.le c:=λi L e=>k i L (h i L e)
theorem RRel.mono{μ ν:Mu}(h:μ.le ν):∀{r:Ref}{a:Addr},RRel μ r a->RRel ν r a
 | .old _,_,e=>e
 | .new _ _,_,⟨L,e,f⟩=>⟨L,h _ _ e,f⟩
theorem CapRel.mono{μ ν:Mu}(h:μ.le ν){r:Ref}{n c:Nat}:∀{k:Cap},CapRel μ r n c k->CapRel ν r n c k
 | .is _,e=>e
 | .opn _,⟨e,i,o,L,y,z,F⟩=>⟨e,i,o,L,y,h _ _ z,F⟩
theorem FnRel.mono{μ ν:Mu}(h:μ.le ν):∀{f g:Fn},FnRel μ f g->FnRel ν f g
 | .yield _,_,⟨L,e,f⟩=>⟨L,h _ _ e,f⟩
 | .func _,_,e=>e
 | .method _,_,e=>e
 | .methodOf _ _,_,e=>e
 | .via _ _ _ _,_,e=>e
mutual
theorem VRel.mono{μ ν:Mu}(h:μ.le ν):∀{v:AV}{u:Value},VRel μ v u->VRel ν v u
 | .bool _,_,e=>by simpa only[VRel]using e
 | .int _ _,_,e=>by simpa only[VRel]using e
 | .str _,_,e=>by simpa only[VRel]using e
 | .ptr none,_,e=>by simpa only[VRel]using e
 | .ptr (some r),_,e=>by
  simp only[VRel]at e|-;obtain⟨a,z,F⟩:=e;exact⟨a,z.mono h,F⟩
 | .slice none _ _,_,e=>by simpa only[VRel]using e
 | .slice (some r) _ _,_,e=>by
  simp only[VRel]at e|-;obtain⟨a,c,z,F,G⟩:=e;exact⟨a,c,z,F.imp id (RRel.mono h),G.mono h⟩
 | .map none,_,e=>by simpa only[VRel]using e
 | .map (some _),_,e=>by
  simp only[VRel]at e|-;obtain⟨L,z,F⟩:=e;exact⟨L,h _ _ z,F⟩
 | .func f a b,_,e=>by
  simp only[VRel]at e|-;obtain⟨g,x,y,z,F,G,H⟩:=e;exact⟨g,x,y,z,F.mono h,VRels.mono h G,VRels.mono h H⟩
 | .nilFunc,_,e=>by simpa only[VRel]using e
 | .iface t v,_,e=>by
  simp only[VRel]at e|-;obtain⟨x,z,F⟩:=e;exact⟨x,z,VRel.mono h F⟩
 | .nilIface,_,e=>by simpa only[VRel]using e
 | .agg cs,_,e=>by
  simp only[VRel]at e|-;obtain⟨us,z,F,G⟩:=e;exact⟨us,z,VRels.mono h F,G⟩
 | .tup cs,_,e=>by simp only[VRel]at e|-;obtain⟨us,z,F⟩:=e;exact⟨us,z,VRels.mono h F⟩
theorem VRels.mono{μ ν:Mu}(h:μ.le ν):∀{v:List AV}{u:List Value},VRels μ v u->VRels ν v u
 | [],_,e=>by simpa only[VRels]using e
 | v::vs,_,e=>by simp only[VRels]at e|-;obtain⟨x,xs,y,z,F⟩:=e;exact⟨x,xs,y,VRel.mono h z,VRels.mono h F⟩
end
theorem VRels.length{μ:Mu}:∀{vs:List AV}{us:List Value},VRels μ vs us->us.length=vs.length
 | [],us,h=>by simp only[VRels]at h;simp[h]
 | v::vs,us,h=>by simp only[VRels]at h;obtain⟨x,xs,rfl,_,y⟩:=h;simp[VRels.length y]
theorem VRels.get{μ:Mu}:∀{vs:List AV}{us:List Value},VRels μ vs us->∀(i:Nat)(v:AV),vs[i]?=some v->∃u,us[i]?=some u/\VRel μ v u
 | [],us,h,i,v,e=>by simp at e
 | w::vs,us,h,i,v,e=>by
  simp only[VRels]at h;obtain⟨x,xs,rfl,h2,y⟩:=h;cases i with
  | zero=>simp at e;subst e;exact⟨x,by simp,h2⟩
  | succ i=>simp at e|-;exact VRels.get y i v e
theorem VRels.append{μ:Mu}{vs y:List AV}{us xs:List Value}(h:VRels μ vs us)(k:VRels μ y xs):VRels μ (vs++y) (us++xs):=by
 induction vs generalizing us with
 | nil=>simp only[VRels]at h;subst h;simpa using k
 | cons v vs ih =>simp only[VRels]at h;obtain⟨x,r,rfl,h2,z⟩:=h;simp only[List.cons_append,VRels];exact⟨x,r++xs,rfl,h2,ih z⟩
theorem VRels.take{μ:Mu}{vs:List AV}{us:List Value}(h:VRels μ vs us)(n:Nat):VRels μ (vs.take n) (us.take n):=by
 induction vs generalizing us n with
 | nil=>simp only[VRels]at h;subst h;simp[VRels]
 | cons v vs ih =>
  simp only[VRels]at h;obtain⟨x,r,rfl,h2,y⟩:=h;cases n with
  | zero=>simp[VRels]
  | succ n=>simp only[List.take_succ_cons,VRels];exact⟨x,_,rfl,h2,ih y n⟩
theorem VRels.drop{μ:Mu}{vs:List AV}{us:List Value}(h:VRels μ vs us)(n:Nat):VRels μ (vs.drop n) (us.drop n):=by
 induction vs generalizing us n with
 | nil=>simp only[VRels]at h;subst h;simp[VRels]
 | cons v vs ih =>
  cases n with
  | zero=>simpa using h
  | succ n =>
   simp only[VRels]at h;obtain⟨x,r,rfl,h2,y⟩:=h
   simpa using ih y n
theorem VRels.nil{μ:Mu}:VRels μ [] []:=by simp[VRels]
abbrev qb:=@VRels.nil
theorem VRels.cons{μ:Mu}{v:AV}{u:Value}{vs:List AV}{us:List Value}(h:VRel μ v u)(k:VRels μ vs us):VRels μ (v::vs) (u::us):=by simp only[VRels];exact⟨u,us,rfl,h,k⟩
abbrev qc:=@VRels.cons
theorem VRels.cons_inv{μ:Mu}{v:AV}{vs:List AV}{us:List Value}(h:VRels μ (v::vs) us):∃x xs,us=x::xs/\VRel μ v x/\VRels μ vs xs:=by simpa only[VRels]using h
theorem VRels.nil_inv{μ:Mu}{us:List Value}(h:VRels μ [] us):us=[]:=by simpa only[VRels]using h
theorem VRel.one{μ:Mu}{v:AV}{u:Value}(h:VRel μ v u)(h1:v.one=true):u.oneCell'=true:=by
 cases v with
 | bool b=>simp only[VRel]at h;subst h;rfl
 | int k n=>simp only[VRel]at h;subst h;rfl
 | str s=>simp only[VRel]at h;subst h;rfl
 | ptr r =>
  cases r<;>simp only[VRel]at h
  ·subst h;rfl
  ·obtain⟨a,_,rfl⟩:=h;rfl
 | slice r n c =>
  cases r<;>simp only[VRel]at h
  ·obtain⟨_,_,rfl⟩:=h;rfl
  ·obtain⟨a,c,rfl,_⟩:=h;rfl
 | map r =>
  cases r<;>simp only[VRel]at h
  ·subst h;rfl
  ·obtain⟨a,_,rfl⟩:=h;rfl
 | func f a b=>simp only[VRel]at h;obtain⟨g,x,y,rfl,_⟩:=h;rfl
 | nilFunc=>simp only[VRel]at h;subst h;rfl
 | iface t v=>simp only[VRel]at h;obtain⟨x,rfl,_⟩:=h;rfl
 | nilIface=>simp only[VRel]at h;subst h;rfl
 | agg cs=>simp[AV.one]at h1
 | tup cs=>simp[AV.one]at h1
theorem VRel.cells_one{μ:Mu}{v:AV}{u:Value}(h:VRel μ v u)(h1:v.one=true):u.cells=#[u]:=by have:=h.one h1;cases u<;>first | rfl | simp[Value.oneCell']at this
theorem VRel.ofCell{μ:Mu}{v:AV}{u:Value}(h:AV.ofCell u=some v):VRel μ v u/\v.one=true:=by
 cases u with
 | bool b=>simp only[AV.ofCell,qcd]at h;subst h;simp[VRel,AV.one]
 | int k n=>simp only[AV.ofCell,qcd]at h;subst h;simp[VRel,AV.one]
 | string s=>simp only[AV.ofCell,qcd]at h;subst h;simp[VRel,AV.one]
 | pointer a=>cases a<;>(simp only[AV.ofCell,qcd]at h;subst h;simp[VRel,AV.one,RRel])
 | slice a n c =>
  cases a with
  | none =>
   simp only[AV.ofCell]at h;cases y:Nat.beq n 0<;>cases z:Nat.beq c 0<;>simp[y,z]at h;have h1:n=0:=Nat.eq_of_beq_eq_true y;have h2:c=0:=Nat.eq_of_beq_eq_true z;subst h;subst h1;subst h2;simp[VRel,AV.one]
  | some a =>
   simp only[AV.ofCell]at h;cases y:Nat.ble n c<;>simp[y]at h;have:=Nat.le_of_ble_eq_true y;subst h;refine⟨?_,rfl⟩;simp only[VRel];exact⟨a,c,rfl,.inr rfl,this,rfl⟩
 | map r=>cases r<;>simp[AV.ofCell]at h;subst h;simp[VRel,AV.one]
 | nilFunc=>simp only[AV.ofCell,qcd]at h;subst h;simp[VRel,AV.one]
 | nilIface=>simp only[AV.ofCell,qcd]at h;subst h;simp[VRel,AV.one]
 | _=>simp[AV.ofCell]at h
theorem VRels.ofCells{μ:Mu}:∀{us:List Value}{vs:List AV},AV.ofCells us=some vs->VRels μ vs us/\vs.all AV.one=true
 | [],vs,h=>by simp[AV.ofCells]at h;subst h;simp[VRels]
 | u::us,vs,h=>by
  simp only[AV.ofCells]at h;split at h
  ·rename_i x xs z y;simp at h;subst h;obtain⟨h1,h2⟩:=VRel.ofCell (μ:=μ) z;obtain⟨F,G⟩:=VRels.ofCells (μ:=μ) y;exact⟨qc h1 F,by simp[h2];simpa using G⟩
  ·simp at h
theorem VRel.ofValue{μ:Mu}{v:AV}{u:Value}(h:AV.ofValue u=some v):VRel μ v u:=by
 unfold AV.ofValue at h;split at h
 ·rename_i cs;simp only[Option.map_eq_some_iff]at h;obtain⟨x,h1,rfl⟩:=h;obtain⟨h2,y⟩:=VRels.ofCells (μ:=μ) h1;simp only[VRel];exact⟨cs,rfl,h2,y⟩
 ·rename_i cs;simp only[Option.map_eq_some_iff]at h;obtain⟨x,h1,rfl⟩:=h;obtain⟨h2,y⟩:=VRels.ofCells (μ:=μ) h1;simp only[VRel];exact⟨cs,rfl,h2⟩
 ·exact(VRel.ofCell h).1
structure FRel(μ:Mu)(N:Nat)(fr:Fr)(tmps:Array Value):Prop where
 size:tmps.size=N
 get:∀t v,fr.get t=some v->∃u,tmps[t]?=some u/\VRel μ v u
theorem FRel.mono{μ ν:Mu}{N:Nat}{fr:Fr}{tmps:Array Value}(h:FRel μ N fr tmps)(y:Mu.le μ ν):FRel ν N fr tmps:=⟨h.size,λt v e=>let ⟨u,a,b⟩:=h.get t v e;⟨u,a,b.mono y⟩⟩
def BRel(P:Program)(μ:Mu)(L:Loc)(w:World):ABlk->Prop
 | .cells cs e=>(∃c:Array Value,w.heap[L.block]?=some (.cells c e (0,0))/\c.size=L.base+L.total/\cs.length<=L.total/\
   ∀(j:Nat)(v:AV),cs[j]?=some v->∃u,c[L.base+j]?=some u/\VRel μ v u)/\cs.all AV.one=true
 | .map es clock=>∃us:Array MapEntry,w.heap[L.block]?=some (.map us clock)/\us.size=es.length/\
   ∀(j:Nat)(e:AEnt),es[j]?=some e->∃u:MapEntry,us[j]?=some u/\VRel μ e.key u.key/\VRel μ e.val u.val/\u.born=e.born
 | .loop st pe f fr ps as bd _=>∃(tmps:Array Value)(d:Nat),w.heap[L.block]?=some (.loop {state:=st,pending:=pe,fn:=f,tmps,params:=ps,assign:=as,body:=bd,defers:=d})/\∀fn,P.funcs[f]?=some fn->FRel μ fn.ntmps fr tmps
 | .deferred=>False
 | .dead=>True
def Live(h:AH)(i:Nat):Prop:=∀b,h.blks[i]?=some b->b≠.dead
structure Sim(P:Program)(O:World)(μ:Mu)(h:AH)(w:World):Prop where
 old:h.old=O.heap
 os:w.os=O.os
 tape:w.tape=O.tape
 output:w.output=O.output
 base:O.heap.size<=w.heap.size
 keep:∀b,b<O.heap.size->w.heap[b]?=O.heap[b]?
 dom:∀i L,μ i=some L->i<h.blks.size
 place:∀i L,μ i=some L->O.heap.size<=L.block/\L.block<w.heap.size
 blk:∀i L b,μ i=some L->h.blks[i]?=some b->BRel P μ L w b
 inj:∀i j L M,μ i=some L->μ j=some M->Live h i->Live h j->L.block=M.block->i=j
def Frm(μ:Mu)(h:AH)(w w':World):Prop:=w.heap.size<=w'.heap.size/\∀b,b<w.heap.size->(∀i L,i<h.blks.size->Live h i->μ i=some L->L.block≠b)->w'.heap[b]?=w.heap[b]?
def Ext(μ:Mu)(h:AH)(w:World)(ν:Mu)(h':AH):Prop :=
 h.blks.size<=h'.blks.size/\μ.le ν/\(∀i,i<h.blks.size->ν i=μ i)/\
 (∀i,i<h.blks.size->Live h' i->Live h i)/\
 (∀i L,h.blks.size<=i->i<h'.blks.size->ν i=some L->w.heap.size<=L.block\/∃j M,j<h.blks.size/\Live h j/\μ j=some M/\M.block=L.block)
theorem Frm.refl(μ:Mu)(h:AH)(w:World):Frm μ h w w:=⟨qbr _,λ_ _ _=>rfl⟩
theorem Ext.refl(μ:Mu)(h:AH)(w:World):Ext μ h w μ h:=⟨qbr _,Mu.le_refl μ,λ_ _=>rfl,λ_ _ h=>h,λi L h1 h2=>by omega⟩
theorem Ext.trans{μ ν ξ:Mu}{h h' z:AH}{w w':World}(a:Ext μ h w ν h')(b:Ext ν h' w' ξ z)(hw:w.heap.size<=w'.heap.size):Ext μ h w ξ z:=by
 obtain⟨a1,a2,a3,a4,a5⟩:=a;obtain⟨b1,b2,b3,b4,b5⟩:=b;refine⟨qbs a1 b1,Mu.le_trans a2 b2,λi hi=>?_,λi hi G=>a4 i hi (b4 i (by omega) G),λi L H I K=>?_⟩
 ·rw[b3 i (by omega),a3 i (by omega)]
 ·rcases Nat.lt_or_ge i h'.blks.size with y | Q
  ·rw[b3 i y]at K;exact a5 i L H y K
  ·rcases b5 i L Q I K with h1 | ⟨j,M,hj,G,U,hb⟩
   ·exact .inl (qbs hw h1)
   ·rcases Nat.lt_or_ge j h.blks.size with y | F
    ·rw[a3 j y]at U;exact .inr ⟨j,M,y,a4 j y G,U,hb⟩
    ·rcases a5 j M F hj U with h1 | ⟨j',M',V,W,Z,aa⟩
     ·exact .inl (by omega)
     ·exact .inr ⟨j',M',V,W,Z,aa.trans hb⟩
theorem Frm.trans{μ ν:Mu}{h h':AH}{w w' z:World}(a:Frm μ h w w')(e:Ext μ h w ν h')(b:Frm ν h' w' z):Frm μ h w z:=by
 obtain⟨e1,e2,Q,U,V⟩:=e;refine⟨qbs a.1 b.1,λk hk F=>(b.2 k (qbt hk a.1) λi L W Z I K=>?_).trans (a.2 k hk F)⟩;rcases Nat.lt_or_ge i h.blks.size with y | G
 ·exact F i L y (U i y Z) (by rw[<- Q i y];exact I) K
 ·rcases V i L G W I with h1 | ⟨j,M,hj,H,hM,hb⟩
  ·omega
  ·exact F j M hj H hM (hb.trans K)
end Go.Ab
namespace Go.Ab
variable{P:Program}{O:World}
theorem kug(b o n:Nat):(⟨b,o,none⟩:Addr).add n=⟨b,o+n,none⟩:=by unfold Addr.add;split<;>simp_all
theorem Addr.add_add(a:Addr)(m n:Nat):(a.add m).add n=a.add (m+n):=by unfold Addr.add;by_cases y:m=0<;>by_cases z:n=0<;>simp[y,z];omega
theorem Ref.add_add(r:Ref)(m n:Nat):(r.add m).add n=r.add (m+n):=by
 cases r with
 | old a=>simp[Ref.add,Addr.add_add]
 | new i o=>simp[Ref.add,Nat.add_assoc]
theorem Ref.add_zero(r:Ref):r.add 0=r:=by
 cases r<;>simp[Ref.add,Addr.add]
theorem RRel.add{μ:Mu}{r:Ref}{a:Addr}(h:RRel μ r a)(n:Nat):RRel μ (r.add n) (a.add n):=by
 cases r with
 | old b=>simp only[RRel,Ref.add]at *;rw[h]
 | new i o =>obtain⟨L,h1,rfl⟩:=h;exact⟨L,h1,by rw[kug,Nat.add_assoc]⟩
theorem kfb{h:AH}{i:Nat}{cs:List AV}{e:TypeId}(hb:h.blks[i]?=some (.cells cs e)):Live h i:=λb y=>by rw[hb]at y;cases y;simp
theorem k1z{μ:Mu}{h:AH}{w:World}(S:Sim P O μ h w){r:Ref}{a:Addr}(y:RRel μ r a){v:AV}(hv:h.cell r=some v) :
  ∃u,w.cell? a=some u/\VRel μ v u/\v.one=true:=by
 cases r with
 | old b =>
  simp only[RRel]at y;subst y;simp only[AH.cell]at hv;split at hv
  ·rename_i c t f hb;split at hv
   ·simp at hv
   ·rename_i hs;rw[qbw]at hv;obtain⟨u,z,hv⟩:=hv;obtain⟨h1,h2⟩:=VRel.ofCell (μ:=μ) hv;refine⟨u,?_,h1,h2⟩;rw[S.old]at hb
    have F:a.block<O.heap.size:=by
     rcases Nat.lt_or_ge a.block O.heap.size with h' | h'
     ·exact h'
     ·simp[Array.getElem?_eq_none h']at hb
    simp only[World.cell?,S.keep _ F,hb];simp[hs,z]
  ·simp at hv
 | new i o =>
  obtain⟨L,H,rfl⟩:=y;simp only[AH.cell]at hv;split at hv
  ·rename_i cs e hb;obtain⟨⟨c,h1,h2,Q,I⟩,K⟩:=S.blk i L _ H hb;obtain⟨u,z,G⟩:=I o v hv;refine⟨u,?_,G,?_⟩
   ·simp[World.cell?,h1,z]
   ·have:=List.all_eq_true.1 K v (List.mem_of_getElem? hv);exact this
  ·simp at hv
theorem kn5{μ:Mu}{h:AH}{w:World}(S:Sim P O μ h w):∀(n:Nat){r:Ref}{a:Addr},RRel μ r a->∀{vs:List AV},h.gets r n=some vs->
  ∃us:List Value,us.length=n/\(∀j u,us[j]?=some u->w.cell? (a.add j)=some u)/\VRels μ vs us/\vs.all AV.one=true
 | 0,r,a,z,vs,hv=>by
  simp only[AH.gets,qcd]at hv;subst hv;exact⟨[],rfl,by simp,qb,rfl⟩
 | n+1,r,a,z,vs,hv=>by
  simp only[AH.gets,qbw,Option.map_eq_some_iff]at hv;obtain⟨v,h1,V,h2,rfl⟩:=hv;obtain⟨u,H,F,y⟩:=k1z S z h1;obtain⟨us,I,K,Q,U⟩:=kn5 S n (z.add 1) h2;refine⟨u::us,by simp[I],λj x G=>?_,qc F Q,by simp[y];simpa using U⟩;cases j with
  | zero=>simp at G;subst G;simpa[Addr.add]using H
  | succ j =>have:=K j x (by simpa using G);rw[Addr.add_add]at this;rw[Nat.add_comm j 1];exact this
theorem kbod{cs:List AV}{v:AV}(h:cs.all AV.one=true)(hv:v.one=true)(o:Nat):(cs.set o v).all AV.one=true:=by
 rw[List.all_eq_true]at *
 intro x y;rcases List.mem_or_eq_of_mem_set y with h' | rfl
 ·exact h x h'
 ·exact hv
theorem k99{μ:Mu}{h h':AH}{w:World}(S:Sim P O μ h w){r:Ref}{a:Addr}(hr:RRel μ r a){v:AV}{u:Value}(hv:VRel μ v u)(h1:v.one=true)(hp:h.put r v=some h') :
  (store a u).run P w=.ok () (w.setCell a u)/\Sim P O μ h' (w.setCell a u)/\Ext μ h w μ h'/\Frm μ h w (w.setCell a u):=by
 cases r with
 | old b=>simp[AH.put]at hp
 | new i o =>
  obtain⟨L,W,rfl⟩:=hr;simp only[AH.put]at hp;split at hp
  ·rename_i cs e hb;split at hp
   ·rename_i ad;simp only[qcd]at hp;subst hp;obtain⟨⟨c,hc,ae,af,ag⟩,aa⟩:=S.blk i L _ W hb
    have ab:i<h.blks.size:=by
     rcases Nat.lt_or_ge i h.blks.size with h' | h'
     ·exact h'
     ·simp[Array.getElem?_eq_none h']at hb
    have V:L.base+o<c.size:=by omega
    have ak:=S.place i L W;have Z:w.cell? ⟨L.block,L.base+o,none⟩=some c[L.base+o]:=by simp[World.cell?,hc,V]
    have ah:w.frozen? ⟨L.block,L.base+o,none⟩=false:=by simp[World.frozen?,hc]
    have ac:(w.setCell ⟨L.block,L.base+o,none⟩ u).heap[L.block]?=some (.cells (c.setIfInBounds (L.base+o) u) e (0,0)):=by simp[World.setCell,Array.getElem?_modify,hc]
    have F:∀b,b≠L.block->(w.setCell ⟨L.block,L.base+o,none⟩ u).heap[b]?=w.heap[b]?:=λb hb=>by simp only[World.setCell,Array.getElem?_modify];rw[if_neg (by simpa using λh=>hb h.symm)]
    have H:∀j,Live {h with blks:=h.blks.setIfInBounds i (.cells (cs.set o v) e)} j->Live h j:=λj hj b z=>by
     by_cases G:i=j
     ·subst G;rw[hb]at z;cases z;simp
     ·exact hj b (by rw[Array.getElem?_setIfInBounds_ne G];exact z)
    refine⟨?_,?_,?_,?_⟩
    ·rw[run_store P w _ u _ (hv.one h1),Z,ah];rfl
    ·refine{old:=S.old,os:=S.os,tape:=S.tape,output:=S.output,base:=by simpa using S.base,dom:=λj M I=>by simpa using S.dom j M I,keep:=λb z=>?_,place:=λj M I=>by simpa using S.place j M I,blk:=λj M b I z=>?_,inj:=λj k M N I hN lj lk U=>S.inj j k M N I hN (H j lj) (H k lk) U}
     ·rw[F b (by omega)];exact S.keep b z
     ·by_cases G:i=j
      ·subst G;rw[W]at I;cases I;simp[ab]at z;subst z;refine⟨⟨_,ac,by simpa using ae,by simpa using af,λk x hx=>?_⟩,kbod aa h1 o⟩;by_cases hk:o=k
       ·subst hk;have ai:x=v:=by simpa[List.getElem?_set_self ad]using hx.symm
        subst ai;exact⟨u,by simp[V],hv⟩
       ·rw[List.getElem?_set_ne hk]at hx;obtain⟨y,hy,aj⟩:=ag k x hx;exact⟨y,by rw[Array.getElem?_setIfInBounds_ne (by omega)];exact hy,aj⟩
      ·rw[Array.getElem?_setIfInBounds_ne G]at z;have hB:=S.blk j M b I z;cases b with
       | dead=>trivial
       | loop st pe f fr ps as bd n =>
        have K:M.block≠L.block:=λU=>G (S.inj i j L M W I (kfb hb) (λb' Q=>by rw[z]at Q;cases Q;simp) U.symm);obtain⟨tmps,d,k1,k2⟩:=hB;exact⟨tmps,d,by rw[F _ K];exact k1,k2⟩
       | deferred=>exact hB
       | cells ds f =>
        have K:M.block≠L.block:=λU=>G (S.inj i j L M W I (kfb hb) (kfb z) U.symm);obtain⟨⟨d,k1,k2⟩,k3⟩:=hB;exact⟨⟨d,by rw[F _ K];exact k1,k2⟩,k3⟩
       | map es ck =>have K:M.block≠L.block:=λU=>G (S.inj i j L M W I (kfb hb) (λb' Q=>by rw[z]at Q;cases Q;simp) U.symm);obtain⟨us,k1,k2⟩:=hB;exact⟨us,by rw[F _ K];exact k1,k2⟩
    ·exact⟨by simp,Mu.le_refl μ,λ_ _=>rfl,λj _ hj=>H j hj,λj M h1 h2=>by simp at h2;omega⟩
    ·refine⟨by simp,λb z hn=>F b λU=>hn i L ab (kfb hb) W U.symm⟩
   ·simp at hp
  ·simp at hp
theorem kos:∀{vs:List AV}{us:List Value}{μ:Mu}{h h':AH}{w:World}(S:Sim P O μ h w){r:Ref}{a:Addr}{i:Nat}(y:RRel μ r (a.add i))(hv:VRels μ vs us)(h1:vs.all AV.one=true)(hp:h.puts r vs=some h'),
  ∃w',(storeCells a us i).run P w=.ok () w'/\Sim P O μ h' w'/\Ext μ h w μ h'/\Frm μ h w w'
 | [],us,μ,h,h',w,S,r,a,i,y,hv,h1,hp=>by
  simp only[AH.puts,qcd]at hp;subst hp;have:=hv.nil_inv;subst this;exact⟨w,rfl,S,Ext.refl _ _ _,Frm.refl _ _ _⟩
 | v::vs,us,μ,h,h',w,S,r,a,i,y,hv,h1,hp=>by
  obtain⟨x,xs,rfl,K,z⟩:=hv.cons_inv;simp only[AH.puts,qbw]at hp;obtain⟨h2,F,G⟩:=hp;simp only[List.all_cons,qcb]at h1;obtain⟨s1,s2,s3,I⟩:=k99 S y K h1.1 F
  have H:RRel μ (r.add 1) (a.add (i+1)):=by have:=y.add 1;rwa[Addr.add_add]at this
  obtain⟨w',Q,U,V,W⟩:=kos s2 H z h1.2 G;refine⟨w',?_,U,s3.trans V I.1,I.trans s3 W⟩;simp only[storeCells,Sem.run_bind,s1,Result.andThen_ok,Q]
def Mu.set(μ:Mu)(i:Nat)(L:Loc):Mu:=λj=>if j=i then some L else μ j
theorem Mu.le_set{μ:Mu}{i:Nat}{L:Loc}(h:μ i=none):Mu.le μ (Mu.set μ i L):=λj M y=>by
 unfold Mu.set;split
 ·subst_vars;rw[h]at y;cases y
 ·exact y
theorem kdb(w:World)(o:Obj)(k:Nat)(h:k<w.heap.size):(w.alloc o).heap[k]?=w.heap[k]?:=by show(w.heap.push o)[k]?=_;rw[Array.getElem?_push,if_neg (by omega)]
theorem kks(w:World)(o:Obj):(w.alloc o).heap[w.heap.size]?=some o:=by show(w.heap.push o)[w.heap.size]?=_;simp
theorem khf{h:AH}{i:Nat}{b:ABlk}(F:i≠h.blks.size):Live {h with blks:=h.blks.push b} i->Live h i:=λz c y=>z c (by
 have:i<h.blks.size:=by
  rcases Nat.lt_or_ge i h.blks.size with h' | h'
  ·exact h'
  ·simp[Array.getElem?_eq_none h']at y
 rw[Array.getElem?_push,if_neg (by omega)];exact y)
theorem BRel.step{μ ν:Mu}{L:Loc}{w w':World}{b:ABlk}(h:BRel P μ L w b)(y:Mu.le μ ν)(hb:b≠.dead->w'.heap[L.block]?=w.heap[L.block]?):BRel P ν L w' b:=by
 cases b with
 | dead=>trivial
 | loop st pe f fr ps as bd n =>
  have hb:=hb (by simp);obtain⟨tmps,d,h1,h2⟩:=h;exact⟨tmps,d,by rw[hb];exact h1,λfn G=>(h2 fn G).mono y⟩
 | deferred=>exact h
 | cells cs e =>
  have hb:=hb (by simp);obtain⟨⟨c,h1,h2,z,H⟩,I⟩:=h;exact⟨⟨c,by rw[hb];exact h1,h2,z,λj v F=>let ⟨u,a,b⟩:=H j v F;⟨u,a,b.mono y⟩⟩,I⟩
 | map es ck =>have hb:=hb (by simp);obtain⟨us,h1,h2,z⟩:=h;exact⟨us,by rw[hb];exact h1,h2,λj e F=>let ⟨u,a,b,c,d⟩:=z j e F;⟨u,a,b.mono y,c.mono y,d⟩⟩
theorem kov{μ:Mu}{h:AH}{w:World}(S:Sim P O μ h w){cs:List AV}{us rest:List Value}(hv:VRels μ cs us)(h1:cs.all AV.one=true)(e:TypeId) :
  Sim P O (Mu.set μ h.blks.size ⟨w.heap.size,0,us.length+rest.length⟩) (h.alloc (.cells cs e)) (w.alloc (.cells (us++rest).toArray e))/\
  Ext μ h w (Mu.set μ h.blks.size ⟨w.heap.size,0,us.length+rest.length⟩) (h.alloc (.cells cs e))/\
  Frm μ h w (w.alloc (.cells (us++rest).toArray e)):=by
 have V:μ h.blks.size=none:=by
  cases hq:μ h.blks.size with
  | none=>rfl
  | some L=>have:=S.dom _ _ hq;omega
 have z:=Mu.le_set (L:=⟨w.heap.size,0,us.length+rest.length⟩) V;refine⟨{old:=S.old,os:=S.os,tape:=S.tape,output:=S.output,base:=by have:=S.base;simp;omega,dom:=λi L y=>?_,keep:=λb hb=>?_,place:=λi L y=>?_,blk:=λi L b y hb=>?_,inj:=λi j L M y F W Z H=>?_},?_,?_⟩
 ·rw[kdb _ _ _ (qbt hb S.base)];exact S.keep b hb
 ·unfold Mu.set at y;split at y
  ·subst_vars;simp
  ·have:=S.dom i L y;simp;omega
 ·unfold Mu.set at y;split at y
  ·cases y;have:=S.base;simp;omega
  ·have:=S.place i L y;simp;omega
 ·unfold Mu.set at y;split at y
  ·rename_i G;subst G;cases y;simp at hb;subst hb;refine⟨⟨_,kks _ _,by simp,by simp;have:=hv.length;omega,λj v hj=>?_⟩,h1⟩;obtain⟨u,U,I⟩:=hv.get j v hj
   have K:j<us.length:=by
    rcases Nat.lt_or_ge j us.length with h' | h'
    ·exact h'
    ·simp[List.getElem?_eq_none h']at U
   exact⟨u,by simp[List.getElem?_append_left K,U],I.mono z⟩
  ·rename_i G
   have Q:h.blks[i]?=some b:=by
    simp only[Array.getElem?_push]at hb
    simpa[G]using hb
   exact(S.blk i L b y Q).step z λ_=>kdb _ _ _ (S.place i L y).2
 ·unfold Mu.set at y F;split at y<;>split at F
  ·omega
  ·cases y;have:=S.place j M F;simp at H;omega
  ·cases F;have:=S.place i L y;simp at H;omega
  ·exact S.inj i j L M y F (khf (by assumption) W) (khf (by assumption) Z) H
 ·refine⟨by simp,z,λi G=>?_,λi G hl=>khf (by omega) hl,λi L h2 h3 y=>.inl ?_⟩
  ·unfold Mu.set;rw[if_neg];omega
  ·simp at h3;have:i=h.blks.size:=by omega
   subst this;simp[Mu.set]at y;subst y;exact qbr _
 ·exact⟨by simp,λb hb _=>kdb _ _ _ hb⟩
theorem kdz(μ:Mu)(i:Nat)(L:Loc):Mu.set μ i L i=some L:=by simp[Mu.set]
theorem RRel.new{μ:Mu}{i:Nat}{L:Loc}(o:Nat):RRel (Mu.set μ i L) (.new i o) ⟨L.block,L.base+o,none⟩:=⟨L,kdz _ _ _,rfl⟩
theorem k0q{μ:Mu}{h:AH}{w:World}(S:Sim P O μ h w){b:ABlk}{o:Obj}{n:Nat}(K:∀ν,Mu.le μ ν->BRel P ν ⟨w.heap.size,0,n⟩ (w.alloc o) b) :
  Sim P O (Mu.set μ h.blks.size ⟨w.heap.size,0,n⟩) (h.alloc b) (w.alloc o)/\Ext μ h w (Mu.set μ h.blks.size ⟨w.heap.size,0,n⟩) (h.alloc b)/\Frm μ h w (w.alloc o):=by
 have Q:μ h.blks.size=none:=by
  cases hq:μ h.blks.size with
  | none=>rfl
  | some L=>have:=S.dom _ _ hq;omega
 have z:=Mu.le_set (L:=⟨w.heap.size,0,n⟩) Q;refine⟨{old:=S.old,os:=S.os,tape:=S.tape,output:=S.output,base:=by have:=S.base;simp;omega,dom:=λi L y=>?_,keep:=λb hb=>?_,place:=λi L y=>?_,blk:=λi L b y hb=>?_,inj:=λi j L M y F U V H=>?_},?_,?_⟩
 ·rw[kdb _ _ _ (qbt hb S.base)];exact S.keep b hb
 ·unfold Mu.set at y;split at y
  ·subst_vars;simp
  ·have:=S.dom i L y;simp;omega
 ·unfold Mu.set at y;split at y
  ·cases y;have:=S.base;simp;omega
  ·have:=S.place i L y;simp;omega
 ·unfold Mu.set at y;split at y
  ·rename_i G;subst G;cases y;simp at hb;subst hb;exact K _ z
  ·rename_i G
   have I:h.blks[i]?=some b:=by
    simp only[Array.getElem?_push]at hb
    simpa[G]using hb
   exact(S.blk i L b y I).step z λ_=>kdb _ _ _ (S.place i L y).2
 ·unfold Mu.set at y F;split at y<;>split at F
  ·omega
  ·cases y;have:=S.place j M F;simp at H;omega
  ·cases F;have:=S.place i L y;simp at H;omega
  ·exact S.inj i j L M y F (khf (by assumption) U) (khf (by assumption) V) H
 ·refine⟨by simp,z,λi G=>?_,λi G W=>khf (by omega) W,λi L h2 Z y=>.inl ?_⟩
  ·unfold Mu.set;rw[if_neg];omega
  ·simp at Z;have:i=h.blks.size:=by omega
   subst this;simp[Mu.set]at y;subst y;exact qbr _
 ·exact⟨by simp,λb hb _=>kdb _ _ _ hb⟩
theorem k78{μ:Mu}{h:AH}{w:World}(S:Sim P O μ h w)(o:Obj):Sim P O μ h (w.alloc o)/\Ext μ h w μ h/\Frm μ h w (w.alloc o):=by
 refine⟨{old:=S.old,os:=S.os,tape:=S.tape,output:=S.output,base:=by have:=S.base;simp;omega,dom:=S.dom,keep:=λb hb=>?_,place:=λi L y=>?_,blk:=λi L b y hb=>?_,inj:=S.inj},Ext.refl _ _ _,by simp,λb hb _=>kdb _ _ _ hb⟩
 ·rw[kdb _ _ _ (qbt hb S.base)];exact S.keep b hb
 ·have:=S.place i L y;simp;omega
 ·exact(S.blk i L b y hb).step (Mu.le_refl _) λ_=>kdb _ _ _ (S.place i L y).2
theorem kpd{h:AH}{i:Nat}{b:ABlk}(hb:h.blks[i]?=some b)(z:b≠.dead):Live h i:=λb' y=>by rw[hb]at y;cases y;exact z
theorem kqw{μ:Mu}{h:AH}{w:World}(S:Sim P O μ h w){i:Nat}{L:Loc}(H:μ i=some L){b b':ABlk}(hb:h.blks[i]?=some b)(Q:b≠.dead){o:Obj}(W:BRel P μ L (w.putObj L.block o) b') :
  Sim P O μ (h.setBlk i b') (w.putObj L.block o)/\Ext μ h w μ (h.setBlk i b')/\Frm μ h w (w.putObj L.block o):=by
 have I:=S.dom i L H;have Z:=S.place i L H
 have y:∀j,Live (h.setBlk i b') j->Live h j:=λj U c F=>by
  by_cases z:i=j
  ·subst z;rw[hb]at F;cases F;exact Q
  ·exact U c (by simp only[AH.setBlk];rw[Array.getElem?_setIfInBounds_ne z];exact F)
 refine⟨{old:=S.old,os:=S.os,tape:=S.tape,output:=S.output,base:=by simpa using S.base,dom:=λj M G=>by simpa[AH.setBlk]using S.dom j M G,keep:=λc F=>?_,place:=λj M G=>by simpa using S.place j M G,blk:=λj M c G F=>?_,inj:=λj k M N G hN lj lk K=>S.inj j k M N G hN (y j lj) (y k lk) K},?_,?_⟩
 ·rw[World.putObj_heap_other (by omega)];exact S.keep c F
 ·by_cases z:i=j
  ·subst z;rw[H]at G;cases G;simp[AH.setBlk,I]at F;subst F;exact W
  ·simp only[AH.setBlk]at F;rw[Array.getElem?_setIfInBounds_ne z]at F;refine(S.blk j M c G F).step (Mu.le_refl _) λV=>World.putObj_heap_other λK=>z ?_;exact(S.inj j i M L G H (kpd F V) (kpd hb Q) K).symm
 ·exact⟨by simp[AH.setBlk],Mu.le_refl μ,λ_ _=>rfl,λj _ U=>y j U,λj M h1 h2=>by simp[AH.setBlk]at h2;omega⟩
 ·exact⟨by simp,λc _ hn=>World.putObj_heap_other λK=>hn i L I (kpd hb Q) H K.symm⟩
theorem kbos{μ:Mu}{h:AH}{w:World}(S:Sim P O μ h w){r:Nat}(H:O.heap.size<=r)(G:∀i L,Live h i->μ i=some L->L.block≠r)(o:Obj):Sim P O μ h (w.putObj r o):=by
 refine{old:=S.old,os:=S.os,tape:=S.tape,output:=S.output,base:=by simpa using S.base,dom:=S.dom,keep:=λc y=>?_,place:=λj M z=>by simpa using S.place j M z,blk:=λj M c z y=>?_,inj:=S.inj}
 ·rw[World.putObj_heap_other (by omega)];exact S.keep c y
 ·exact(S.blk j M c z y).step (Mu.le_refl _) λF=>World.putObj_heap_other (G j M (kpd y F) z)
end Go.Ab
namespace Go.Ab
variable{P:Program}{O:World}{R:Type}
theorem kb5{c:Bool}{x y:Option R}{r:R}(h:cond c x y=some r):(c=true/\x=some r)\/(c=false/\y=some r):=by
 cases c
 ·exact .inr ⟨rfl,h⟩
 ·exact .inl ⟨rfl,h⟩
theorem kr{c:Bool}{x:Option R}{r:R}(h:cond c x none=some r):c=true/\x=some r:=by
 cases c
 ·cases h
 ·exact⟨rfl,h⟩
theorem kel{c:Bool}{x:Option R}{r:R}(h:cond c none x=some r):c=false/\x=some r:=by
 cases c
 ·exact⟨rfl,h⟩
 ·cases h
theorem kbg4{k:IntKind}{v:AV}{n:Int}(h:v.asInt k=some n):v=.int k n:=by
 cases v<;>simp[AV.asInt]at h;obtain⟨h1,h2⟩:=kr h;simp at h1 h2;rw[h1,h2]
theorem kbnk{v:AV}{b:Bool}(h:v.asBool=some b):v=.bool b:=by cases v<;>simp[AV.asBool]at h;rw[h]
theorem kbj6{v:AV}{b:ByteArray}(h:v.asStr=some b):v=.str b:=by cases v<;>simp[AV.asStr]at h;rw[h]
theorem kbe1{v:AV}{b:Option Ref}(h:v.asPtr=some b):v=.ptr b:=by cases v<;>simp[AV.asPtr]at h;rw[h]
theorem kbja{v:AV}{b:Option Nat}(h:v.asMap=some b):v=.map b:=by cases v<;>simp[AV.asMap]at h;rw[h]
theorem kbbt{v:AV}{s:Sl}(h:v.asSl=some s):v=.slice s.ref s.len s.cap:=by cases v<;>simp[AV.asSl]at h;rw[<- h]
theorem k2u{v:AV}{s:List AV}(h:v.asAgg=some s):v=.agg s:=by cases v<;>simp[AV.asAgg]at h;rw[h]
theorem k3c{v:AV}{p:TypeId×AV}(h:v.asIface=some p):v=.iface p.1 p.2:=by cases v<;>simp[AV.asIface]at h;rw[<- h]
theorem ko4{l:Leaf}{x:Option AV}{k:AV->Option R}{r:R}(h:leafK l x k=some r):∃v,x=some v/\k v=some r:=by
 cases l<;>simp only[leafK,qbw]at h
 case any=>exact h
 all_goals
  obtain⟨y,⟨v,z,hv⟩,hk⟩:=h;refine⟨v,z,?_⟩
 ·rw[kbg4 hv];exact hk
 ·rw[kbnk hv];exact hk
 ·rw[kbj6 hv];exact hk
 ·rw[kbbt hv];exact hk
 ·rw[kbe1 hv];exact hk
 ·rw[kbja hv];exact hk
theorem kxn{get:Nat->Option AV}:∀{ls:List Leaf}{i:Nat}{k:List AV->Option R}{r:R},kd5 get ls i k=some r->
  ∃vs,vs.length=ls.length/\(∀j v,vs[j]?=some v->get (i+j)=some v)/\k vs=some r
 | [],i,k,r,h=>⟨[],rfl,by simp,h⟩
 | l::ls,i,k,r,h=>by
  simp only[kd5]at h;obtain⟨v,hv,hk⟩:=ko4 h;obtain⟨vs,h1,h2,z⟩:=kxn hk;refine⟨v::vs,by simp[h1],λj x y=>?_,z⟩;cases j with
  | zero=>simp at y;subst y;simpa using hv
  | succ j =>have:=h2 j x (by simpa using y);rw[show i+(j+1)=i+1+j from by omega];exact this
theorem ktp{t:TypeId}{d:TypeDesc}(h:P.underlying t=some d):∃i,P.info? t=some i:=by
 unfold Program.underlying at h;split at h
 ·rename_i u _ _ _ _ _ _ _ _ _ y;exact⟨_,y⟩
 ·rename_i i _ y;exact⟨_,y⟩
 ·cases h
theorem krd{t:TypeId}{d:TypeDesc}(h:P.underlying t=some d)(w:World):(sizeOf t).run P w=.ok (P.cellsOf t) w:=by obtain⟨i,y⟩:=ktp h;simp[sizeOf,typeInfo,y,Program.cellsOf]
theorem kra{t:TypeId}{d:TypeDesc}(h:P.underlying t=some d)(w:World):(isAgg t).run P w=.ok (isAggD d) w:=by unfold isAgg;simp only[Sem.run_bind,run_underlying h,Result.andThen_ok];cases d<;>rfl
theorem ksx{μ:Mu}{h:AH}{w:World}(S:Sim P O μ h w){r:Ref}{a:Addr}(U:RRel μ r a){t:TypeId}{k:AV->Option R}{res:R}
  (hk:loadK P t r h k=some res):∃v u,k v=some res/\VRel μ v u/\(loadVar t a).run P w=.ok u w:=by
 unfold loadK at hk;split at hk
 ·rename_i d F;rcases kb5 hk with⟨G,hk⟩ | ⟨G,hk⟩
  ·split at hk
   ·rename_i ls V;obtain⟨W,hk⟩:=kr hk;obtain⟨vs,h1,h2,Z⟩:=kxn hk;have z:vs.length=P.cellsOf t:=by rw[h1];exact Nat.eq_of_beq_eq_true W
    have hg:∀(vs:List AV)(r:Ref),(∀(j:Nat)(v:AV),vs[j]?=some v->h.cell (r.add j)=some v)->h.gets r vs.length=some vs:=by
     intro vs
     induction vs with
     | nil=>intro r _;rfl
     | cons v vs ih =>intro r y;have h0:=y 0 v (by simp);rw[Ref.add_zero]at h0;have H:=ih (r.add 1) (λj x hx=>by rw[Ref.add_add,Nat.add_comm];exact y (j+1) x (by simpa using hx));simp[AH.gets,h0,H]
    obtain⟨us,k1,k2,k3,k4⟩:=kn5 S vs.length U (hg vs r (λj v I=>by have:=h2 j v I;simpa using this));refine⟨.agg vs,.agg us.toArray,Z,?_,?_⟩
    ·simp only[VRel];exact⟨us.toArray,rfl,by simpa using k3,k4⟩
    ·have K:=run_loadCells_list (P:=P) w a us (λj v I=>k2 j v I);rw[k1,z]at K;simp[loadVar,kra F,G,krd F,K]
   ·cases hk
  ·split at hk
   ·rename_i l K;obtain⟨v,hv,hk⟩:=ko4 hk;obtain⟨u,hu,Q,_⟩:=k1z S U hv;refine⟨v,u,hk,Q,?_⟩;simp[loadVar,kra F,G,hu]
   ·cases hk
 ·cases hk
theorem kc2{t:TypeId}{v:AV}{k:AV->Option R}{r:R}(h:seeK P t v k=some r):k v=some r:=by
 unfold seeK at h;split at h
 ·rcases kb5 h with⟨_,h⟩ | ⟨_,h⟩
  ·split at h
   ·rename_i ls _;rw[qbw]at h;obtain⟨cs,z,h⟩:=h;obtain⟨F,h⟩:=kr h;obtain⟨vs,h1,h2,G⟩:=kxn h;rw[k2u z]
    have:vs=cs:=by
     have F:=Nat.eq_of_beq_eq_true F;apply List.ext_getElem?;intro j;rcases Nat.lt_or_ge j vs.length with y | y
     ·have:=h2 j vs[j] (by simp[y]);simp[qb6 y]
      simpa using this.symm
     ·rw[List.getElem?_eq_none y,List.getElem?_eq_none (by omega)]
    rw[<- this];exact G
   ·cases h
  ·split at h
   ·obtain⟨x,H,h⟩:=ko4 h;cases H;exact h
   ·cases h
 ·cases h
theorem kbfr{t:TypeId}{v:AV}{k:AV->Option R}{r:R}(h:aggK P t v k=some r):k v=some r:=by
 unfold aggK at h;split at h
 ·rename_i d z;cases y:isAggD d with
  | true=>rw[y,cond_true]at h;exact kc2 h
  | false=>rw[y,cond_false]at h;exact h
 ·cases h
theorem k7m{v:AV}{x:Unit}(h:v.asTup0=some x):v=.tup []:=by
 unfold AV.asTup0 at h;split at h
 ·rfl
 ·cases h
theorem kbkh{v:AV}{p:AV×AV}(h:v.asTup2=some p):v=.tup [p.1,p.2]:=by
 unfold AV.asTup2 at h;split at h
 ·cases h;rfl
 ·cases h
theorem kbjn{v:AV}{p:AV×AV×AV}(h:v.asTup3=some p):v=.tup [p.1,p.2.1,p.2.2]:=by
 unfold AV.asTup3 at h;split at h
 ·cases h;rfl
 ·cases h
theorem kbjt{v:AV}{p:AV×AV×AV×AV}(h:v.asTup4=some p):v=.tup [p.1,p.2.1,p.2.2.1,p.2.2.2]:=by
 unfold AV.asTup4 at h;split at h
 ·cases h;rfl
 ·cases h
theorem kvi{t:TypeId}{v:AV}{k:AV->Option R}{r:R}(h:khe P t v k=some r):k v=some r:=by
 unfold khe at h;split at h
 ·split at h
  case h_5=>cases h
  all_goals
   simp only[qbw]at h;obtain⟨p,h1,h2⟩:=h
  ·rw[k7m h1];exact h2
  ·rw[kbkh h1];have y:=kc2 h2;have z:=kc2 y;exact z
  ·rw[kbjn h1];have y:=kc2 h2;have z:=kc2 y;have F:=kc2 z;exact F
  ·rw[kbjt h1];have y:=kc2 h2;have z:=kc2 y;have F:=kc2 z;have G:=kc2 F;exact G
 ·exact kc2 h
theorem kpx{μ:Mu}{t:TypeId}{v:AV}{k:List AV->Option R}{r:R}(h:cellsK P t v k=some r){u:Value}(hv:VRel μ v u) :
  ∃cs,k cs=some r/\VRels μ cs u.cells.toList/\cs.all AV.one=true/\u.cells.size=P.cellsOf t/\cs.length=P.cellsOf t/\∃d,P.underlying t=some d:=by
 unfold cellsK at h;split at h
 ·rename_i d F;rcases kb5 h with⟨_,h⟩ | ⟨_,h⟩
  ·rw[qbw]at h;obtain⟨cs,z,h⟩:=h;obtain⟨y,h⟩:=kr h;have y:=Nat.eq_of_beq_eq_true y;rw[k2u z]at hv;simp only[VRel]at hv;obtain⟨us,rfl,h2,G⟩:=hv;refine⟨cs,h,h2,G,?_,y,d,F⟩;have:=h2.length;simp[Value.cells]at *
   omega
  ·obtain⟨y,h⟩:=kr h;obtain⟨h1,h⟩:=kr h;have y:=Nat.eq_of_beq_eq_true y;have:=hv.cells_one h1;refine⟨[v],h,?_,by simp[h1],by rw[this];simp[y],by simp[y],d,F⟩;rw[this];exact qc hv qb
 ·cases h
theorem k4n{μ:Mu}{t:TypeId}{zs:List AV}(h:kc4 P t=some zs)(w:World) :
  ∃z,(zeroValue t).run P w=.ok z w/\VRels μ zs z.cells.toList/\zs.all AV.one=true:=by
 unfold kc4 at h;split at h
 ·rename_i i y;split at h
  ·rename_i z F;obtain⟨h1,h2⟩:=VRels.ofCells (μ:=μ) h;exact⟨z,by simp[zeroValue,typeInfo,y,F],h1,h2⟩
  ·cases h
 ·cases h
theorem Fr.get_cons(s:Nat)(v:AV)(fr:Fr)(t:Nat):Fr.get ((s,v)::fr) t=if s=t then some v else Fr.get fr t:=by
 simp only[Fr.get];by_cases h:s=t
 ·subst h;simp
 ·have:Nat.beq s t=false:=by
   cases hb:Nat.beq s t with
   | false=>rfl
   | true=>exact absurd (Nat.eq_of_beq_eq_true hb) h
  simp[this,h]
theorem FRel.put{μ:Mu}{N:Nat}{fr:Fr}{a:Act}(h:FRel μ N fr a.tmps){t:Nat}(G:t<N){v:AV}{u:Value}(hv:VRel μ v u):FRel μ N ((t,v)::fr) (a.put (some t) u).tmps:=by
 refine⟨by simp[Act.put,h.size],λs x z=>?_⟩;rw[Fr.get_cons]at z;split at z
 ·rename_i hs;subst hs;cases z;exact⟨u,by simp[Act.put,h.size,G],hv⟩
 ·rename_i hs;obtain⟨y,H,F⟩:=h.get s x z;exact⟨y,by simp only[Act.put];rw[Array.getElem?_setIfInBounds_ne hs];exact H,F⟩
theorem FRel.learn{μ:Mu}{N:Nat}{fr:Fr}{tmps:Array Value}(h:FRel μ N fr tmps){t:Nat}{v x:AV}(F:fr.get t=some x)(hv:∀u,VRel μ x u->VRel μ v u):FRel μ N ((t,v)::fr) tmps:=by
 refine⟨h.size,λs y z=>?_⟩;rw[Fr.get_cons]at z;split at z
 ·rename_i hs;subst hs;cases z;obtain⟨u,h1,h2⟩:=h.get t x F;exact⟨u,h1,hv u h2⟩
 ·exact h.get s y z
theorem FRel.keep{μ:Mu}{N:Nat}{fr:Fr}{tmps:Array Value}(h:FRel μ N fr tmps)(L:List Nat):FRel μ N (fr.keep L) tmps:=by
 refine⟨h.size,λt v hv=>h.get t v ?_⟩
 induction L with
 | nil=>simp[Fr.keep,Fr.get]at hv
 | cons s L ih =>
  simp only[Fr.keep]at hv;split at hv
  ·rename_i x y;rw[Fr.get_cons]at hv;split at hv
   ·rename_i hs;subst hs;cases hv;exact y
   ·exact ih hv
  ·exact ih hv
theorem kw{μ:Mu}{N:Nat}{fr:Fr}{a:Act}(h:FRel μ N fr a.tmps){x:Operand}{v:AV}(hv:evO fr x=some v):VRel μ v (a.eval x):=by
 cases x with
 | tmp t =>
  simp only[evO]at hv;obtain⟨u,z,y⟩:=h.get t v hv;simp only[Act.eval,Array.getD_eq_getD_getElem?,z,Option.getD_some];exact y
 | const c=>exact VRel.ofValue hv
 | global g =>
  simp only[evO,qcd]at hv;subst hv;simp[VRel,RRel,Act.eval]
 | func f =>simp only[evO,qcd]at hv;subst hv;simp only[VRel,Act.eval];exact⟨.func f,#[],#[],rfl,rfl,qb,qb⟩
theorem kds{μ:Mu}{N:Nat}{fr:Fr}{a:Act}(h:FRel μ N fr a.tmps):∀{xs:List Operand}{vs:List AV},evs fr xs=some vs->VRels μ vs (xs.map a.eval)
 | [],vs,hv=>by simp only[evs,qcd]at hv;subst hv;exact qb
 | x::xs,vs,hv=>by
  simp only[evs]at hv;split at hv
  ·rename_i v y h1 h2;simp only[qcd]at hv;subst hv;exact qc (kw h h1) (kds h h2)
  ·cases hv
end Go.Ab
namespace Go.Ab
variable{P:Program}{O:World}{R:Type}
def Good(P:Program)(O:World)(μ:Mu)(h:AH)(w:World)(v:AV)(h':AH)(u:Value)(w':World):Prop:=∃ν,VRel ν v u/\Sim P O ν h' w'/\Ext μ h w ν h'/\Frm μ h w w'
theorem Good.pure{μ:Mu}{h:AH}{w:World}(S:Sim P O μ h w){v:AV}{u:Value}(hv:VRel μ v u):Good P O μ h w v h u w:=⟨μ,hv,S,Ext.refl _ _ _,Frm.refl _ _ _⟩
abbrev qd:=@Good.pure
def Yields(P:Program)(s:Sem Value)(w:World)(G:Value->World->Prop):Prop:=∃u w',s.run P w=.ok u w'/\G u w'
theorem kbgi{op:BinOp}{kd:IntKind}{a b:Int}{k:AV->Option R}{r:R}(h:intK op kd a b k=some r)(t:TypeId)(w:World) :
  ∃v u,k v=some r/\(∀μ,VRel μ v u)/\(binOp op t (.int kd a) (.int kd b)).run P w=.ok u w:=by
 cases op<;>simp only[intK]at h
 case shl=>cases h
 case shr=>cases h
 case quo =>obtain⟨h1,h2⟩:=kel h;refine⟨_,.int kd (kd.wrap (a.tdiv b)),h2,λμ=>by simp[VRel],?_⟩;simp at h1;simp[binOp,Op.intDiv,h1]
 case rem =>obtain⟨h1,h2⟩:=kel h;refine⟨_,.int kd (a.tmod b),h2,λμ=>by simp[VRel],?_⟩;simp at h1;simp[binOp,Op.intDiv,h1]
 case add=>exact⟨_,.int kd (kd.wrap (a+b)),h,λμ=>by simp[VRel],by simp[binOp,Op.intArith]⟩
 case sub=>exact⟨_,.int kd (kd.wrap (a-b)),h,λμ=>by simp[VRel],by simp[binOp,Op.intArith]⟩
 case mul=>exact⟨_,.int kd (kd.wrap (a*b)),h,λμ=>by simp[VRel],by simp[binOp,Op.intArith]⟩
 case and=>exact⟨_,.int kd (iand kd a b),h,λμ=>by simp[VRel],by simp[binOp,Op.intBits,iand]⟩
 case or=>exact⟨_,.int kd (ior kd a b),h,λμ=>by simp[VRel],by simp[binOp,Op.intBits,ior]⟩
 case xor=>exact⟨_,.int kd (ixor kd a b),h,λμ=>by simp[VRel],by simp[binOp,Op.intBits,ixor]⟩
 case andNot=>exact⟨_,.int kd (kvd kd a b),h,λμ=>by simp[VRel],by simp[binOp,Op.intBits,kvd]⟩
 case eql=>exact⟨_,.bool (decide (a=b)),h,λμ=>by simp[VRel],by simp[binOp,Op.intCmp];rfl⟩
 case neq=>exact⟨_,.bool (!decide (a=b)),h,λμ=>by simp[VRel],by simp[binOp,Op.intCmp];rfl⟩
 case lss=>exact⟨_,.bool (decide (a<b)),h,λμ=>by simp[VRel],by simp[binOp,Op.intCmp]⟩
 case leq=>exact⟨_,.bool (decide (a<=b)),h,λμ=>by simp[VRel],by simp[binOp,Op.intCmp]⟩
 case gtr=>exact⟨_,.bool (decide (a>b)),h,λμ=>by simp[VRel],by simp[binOp,Op.intCmp]⟩
 case geq=>exact⟨_,.bool (decide (a>=b)),h,λμ=>by simp[VRel],by simp[binOp,Op.intCmp]⟩
theorem kn7(op:BinOp)(t:TypeId)(x y:Operand)(k z:IntKind)(a b:Int)(w:World):(eqGuard op t x y (.int k a) (.int z b)).run P w=.ok () w:=by unfold eqGuard;cases op<;>rfl
theorem kgi{t:TypeId}{u v:Value}{b:Bool}{w:World}(op:BinOp)(z:op=.eql\/op=.neq)
  (hs:∀o:BinOp,(o=.eql->binOp o t u v=do pure (.bool (<- Op.equal t u v)))/\(o=.neq->binOp o t u v=do pure (.bool (!(<- Op.equal t u v)))))
  (F:∀n:Nat,(Op.equalIn (n+1) t u v).run P w=.ok b w):(binOp op t u v).run P w=.ok (.bool (if op=.eql then b else !b)) w:=by
 have y:(Op.equal t u v).run P w=.ok b w:=F 9999;rcases z with rfl | rfl
 ·rw[(hs .eql).1 rfl];simp only[Sem.run_bind,y,Result.andThen_ok,Sem.run_pure,if_true]
 ·rw[(hs .neq).2 rfl];simp only[Sem.run_bind,y,Result.andThen_ok,Sem.run_pure];rfl
theorem kbdz{μ:Mu}{x y:AV}{b:Bool}(h:eqCell x y=some b){u v:Value}(F:VRel μ x u)(H:VRel μ y v){t:TypeId}{d:TypeDesc}(I:P.underlying t=some d)
  (G:fits x d=true) (op:BinOp) (z:op=.eql\/op=.neq) (K Q:Operand) (w:World) :
  (eqGuard op t K Q u v).run P w=.ok () w/\(binOp op t u v).run P w=.ok (.bool (if op=.eql then b else !b)) w:=by
 unfold eqCell at h;split at h
 ·rename_i k a U a';simp only[VRel]at F H;subst F;subst H;refine⟨kn7 _ _ _ _ _ _ _ _ _,?_⟩;obtain⟨h1,h2⟩:=kr h;simp at h1 h2;subst h1;subst h2;rcases z with rfl | rfl
  ·simp[binOp,Op.intCmp];rfl
  ·simp[binOp,Op.intCmp];rfl
 ·rename_i a a';simp only[VRel]at F H;subst F;subst H;cases h;cases d<;>simp[fits]at G;refine⟨by rcases z with rfl | rfl<;>rfl,kgi op z (λo=>⟨λe=>by subst e;rfl,λe=>by subst e;rfl⟩) ?_⟩;intro n;simp[Op.equalIn,run_underlying I]
 ·rename_i a a';simp only[VRel]at F H;subst F;subst H;simp at h;rcases z with rfl | rfl<;>exact⟨rfl,by simp[binOp,Op.stringOp,<- h]⟩
 ·rename_i r n c V W;simp only[VRel]at H;obtain⟨_,_,rfl⟩:=H;cases h;cases d<;>simp[fits]at G;cases r with
  | none =>
   simp only[VRel]at F;obtain⟨_,_,rfl⟩:=F;refine⟨by rcases z with rfl | rfl<;>rfl,kgi op z (λo=>⟨λe=>by subst e;rfl,λe=>by subst e;rfl⟩) ?_⟩;intro n;simp[Op.equalIn,run_underlying I]
  | some r =>simp only[VRel]at F;obtain⟨a,c,rfl,_⟩:=F;refine⟨by rcases z with rfl | rfl<;>rfl,kgi op z (λo=>⟨λe=>by subst e;rfl,λe=>by subst e;rfl⟩) ?_⟩;intro n;simp[Op.equalIn,run_underlying I]
 ·rename_i r;simp only[VRel]at H;subst H;cases h;cases d<;>simp[fits]at G;cases r with
  | none =>
   simp only[VRel]at F;subst F;refine⟨by rcases z with rfl | rfl<;>rfl,kgi op z (λo=>⟨λe=>by subst e;rfl,λe=>by subst e;rfl⟩) ?_⟩;intro n;simp[Op.equalIn,run_underlying I]
  | some r =>simp only[VRel]at F;obtain⟨a,_,rfl⟩:=F;refine⟨by rcases z with rfl | rfl<;>rfl,kgi op z (λo=>⟨λe=>by subst e;rfl,λe=>by subst e;rfl⟩) ?_⟩;intro n;simp[Op.equalIn,run_underlying I]
 ·rename_i r;simp only[VRel]at H;subst H;cases h;cases d<;>simp[fits]at G;cases r with
  | none =>
   simp only[VRel]at F;subst F;refine⟨by rcases z with rfl | rfl<;>rfl,kgi op z (λo=>⟨λe=>by subst e;rfl,λe=>by subst e;rfl⟩) ?_⟩;intro n;simp[Op.equalIn,run_underlying I]
  | some r =>simp only[VRel]at F;obtain⟨a,_,rfl⟩:=F;refine⟨by rcases z with rfl | rfl<;>rfl,kgi op z (λo=>⟨λe=>by subst e;rfl,λe=>by subst e;rfl⟩) ?_⟩;intro n;simp[Op.equalIn,run_underlying I]
 ·simp only[VRel]at F H;subst F;subst H;cases h;cases d<;>simp[fits]at G;refine⟨by rcases z with rfl | rfl<;>rfl,kgi op z (λo=>⟨λe=>by subst e;rfl,λe=>by subst e;rfl⟩) ?_⟩;intro n;simp[Op.equalIn,run_underlying I]
 ·simp only[VRel]at F H;obtain⟨g,x,y,rfl,_⟩:=F;subst H;cases h;cases d<;>simp[fits]at G;refine⟨by rcases z with rfl | rfl<;>rfl,kgi op z (λo=>⟨λe=>by subst e;rfl,λe=>by subst e;rfl⟩) ?_⟩;intro n;simp[Op.equalIn,run_underlying I]
 ·cases h
theorem khu{μ:Mu}{t:TypeId}{cs:List AV}{off:Nat}{v:AV}(h:partA P t cs off=some v){us:Array Value}(hv:VRels μ cs us.toList)(h1:cs.all AV.one=true)(w:World) :
  ∃u,(part t us off).run P w=.ok u w/\VRel μ v u:=by
 unfold partA at h;split at h
 ·rename_i d y;rcases kb5 h with⟨z,h⟩ | ⟨z,h⟩
  ·obtain⟨hb,h⟩:=kr h;cases h;refine⟨.agg (us.extract off (off+P.cellsOf t)),by simp[part,kra y,z,krd y],?_⟩;simp only[VRel];refine⟨_,rfl,?_,?_⟩
   ·have:=(hv.drop off).take (P.cellsOf t);rw[Array.toList_extract]
    simpa[List.extract]using this
   ·rw[List.all_eq_true]at h1|-;exactλx H=>h1 x (List.mem_of_mem_drop (List.mem_of_mem_take H))
  ·obtain⟨u,G,F⟩:=hv.get off v h;refine⟨u,?_,F⟩;simp only[Array.getElem?_toList]at G;simp[part,kra y,z,G]
 ·cases h
theorem kbcq{μ:Mu}{x y:AV}{b:Bool}(h:eqCell x y=some b){u v:Value}(F:VRel μ x u)(G:VRel μ y v){t:TypeId}{d:TypeDesc}(H:P.underlying t=some d)
  (z:fits x d=true) (hs:isStr x=false) (n:Nat) (w:World):(Op.equalIn (n+1) t u v).run P w=.ok b w:=by
 unfold eqCell at h;split at h
 ·rename_i k a I a';simp only[VRel]at F G;subst F;subst G;obtain⟨h1,h2⟩:=kr h;simp at h1 h2;subst h1;subst h2;cases d<;>simp[fits]at z;simp[Op.equalIn,run_underlying H];rfl
 ·rename_i a a';simp only[VRel]at F G;subst F;subst G;cases h;cases d<;>simp[fits]at z;simp[Op.equalIn,run_underlying H]
 ·simp[isStr]at hs
 ·rename_i r n c K Q;simp only[VRel]at G;obtain⟨_,_,rfl⟩:=G;cases h;cases d<;>simp[fits]at z;cases r with
  | none =>
   simp only[VRel]at F;obtain⟨_,_,rfl⟩:=F;simp[Op.equalIn,run_underlying H]
  | some r =>simp only[VRel]at F;obtain⟨a,c,rfl,_⟩:=F;simp[Op.equalIn,run_underlying H]
 ·rename_i r;simp only[VRel]at G;subst G;cases h;cases d<;>simp[fits]at z;cases r with
  | none =>
   simp only[VRel]at F;subst F;simp[Op.equalIn,run_underlying H]
  | some r =>simp only[VRel]at F;obtain⟨a,_,rfl⟩:=F;simp[Op.equalIn,run_underlying H]
 ·rename_i r;simp only[VRel]at G;subst G;cases h;cases d<;>simp[fits]at z;cases r with
  | none =>
   simp only[VRel]at F;subst F;simp[Op.equalIn,run_underlying H]
  | some r =>simp only[VRel]at F;obtain⟨a,_,rfl⟩:=F;simp[Op.equalIn,run_underlying H]
 ·simp only[VRel]at F G;subst F;subst G;cases h;cases d<;>simp[fits]at z;simp[Op.equalIn,run_underlying H]
 ·simp only[VRel]at F G;obtain⟨g,x,y,rfl,_⟩:=F;subst G;cases h;cases d<;>simp[fits]at z;simp[Op.equalIn,run_underlying H]
 ·cases h
theorem kvm{μ:Mu}(w:World):∀(d:Nat)(t:TypeId)(x y:AV)(b:Bool),eqD P d t x y=some b->∀(u v:Value),VRel μ x u->VRel μ y v->∀n,(Op.equalIn (d+n) t u v).run P w=.ok b w
 | 0,t,x,y,b,h,_,_,_,_,_=>by simp[eqD]at h
 | d+1,t,x,y,b,h,u,v,G,H,n=>by
  rw[show d+1+n=(d+n)+1 from by omega];have IH:=kvm (μ:=μ) w d;unfold eqD at h;split at h
  ·rename_i fs z;split at h
   ·rename_i xs ys;obtain⟨I,h'⟩:=kel h;clear h;have h:=h';clear h';simp only[VRel]at G H;obtain⟨us,rfl,Q,h1⟩:=G;obtain⟨vs,rfl,hv,h2⟩:=H;have K:P.fieldsOf t=fs:=by simp[Program.fieldsOf,z]
    rw[run_equalIn_struct w (d+n) t us vs (by rw[K];exact z) I,K];clear z K I;generalize fs.toList=l at h|-
    induction l generalizing b with
    | nil=>simp[eqFs]at h;simp[Op.eqFields,h]
    | cons f l ih =>
     simp only[eqFs]at h;obtain⟨hn,h⟩:=kel h;simp only[qbw,Option.map_eq_some_iff]at h;obtain⟨a,U,c,V,r,W,s,hs,rfl⟩:=h;obtain⟨ua,Z,va⟩:=khu U Q h1 w;obtain⟨uc,rc,vc⟩:=khu V hv h2 w;have F:=IH _ _ _ _ W _ _ va vc n;have aa:f.name≠ "_" := by simpa using hn
     simp only[Op.eqFields,aa,ne_eq,not_false_eq_true,if_true,Sem.run_bind,Z,rc,F,Result.andThen_ok];cases r
     ·simp
     ·simpa using ih s hs
   ·cases h
  ·rename_i m e z;split at h
   ·rename_i de xs ys ab;simp only[VRel]at G H;obtain⟨us,rfl,Q,h1⟩:=G;obtain⟨vs,rfl,hv,h2⟩:=H;obtain⟨i,hi⟩:=ktp ab;rw[run_equalIn_array w (d+n) us vs z hi];generalize List.range m=l at h
    induction l generalizing b with
    | nil=>simp[eqIs]at h;simp[Op.eqItems,h]
    | cons f l ih =>
     simp only[eqIs,qbw,Option.map_eq_some_iff]at h;obtain⟨a,U,c,V,r,W,s,hs,rfl⟩:=h;obtain⟨ua,Z,va⟩:=khu U Q h1 w;obtain⟨uc,rc,vc⟩:=khu V hv h2 w;have F:=IH _ _ _ _ W _ _ va vc n;simp only[Op.eqItems,Sem.run_bind,Z,rc,F,Result.andThen_ok];cases r
     ·simp
     ·simpa using ih s hs
   ·cases h
  ·rename_i dd _ _ z;obtain⟨hs,h⟩:=kel h;obtain⟨K,h⟩:=kr h;exact kbcq h G H z K hs (d+n) w
  ·cases h
end Go.Ab
namespace Go.Ab
variable{P:Program}{O:World}{R:Type}
theorem kbdd{μ:Mu}{op:BinOp}{t:TypeId}{x y:AV}{k:AV->Option R}{r:R}(h:binK P op t x y k=some r){u v:Value}(I:VRel μ x u)(K:VRel μ y v)(W Z:Operand)(w:World) :
  ∃z a,k z=some r/\VRel μ z a/\(eqGuard op t W Z u v).run P w=.ok () w/\(binOp op t u v).run P w=.ok a w:=by
 have G:∀(F:Bool),(op=if F then .neq else .eql)->(∃b,eqAV P t x y=some b/\k (.bool (if F then !b else b))=some r)->
   ∃z a,k z=some r/\VRel μ z a/\(eqGuard op t W Z u v).run P w=.ok () w/\(binOp op t u v).run P w=.ok a w:=by
  intro F Q ⟨b,hb,hk⟩;have H:op=.eql\/op=.neq:=by cases F<;>simp at Q<;>simp[Q]
  have U:(if op=.eql then b else !b)=(if F then !b else b):=by cases F<;>simp at Q<;>subst Q<;>simp
  unfold eqAV at hb;split at hb
  ·rename_i xs ys;obtain⟨hg,hb⟩:=kel hb;simp only[VRel]at I K;obtain⟨us,rfl,hu,h1⟩:=I;obtain⟨vs,rfl,hv,h2⟩:=K;have hE:=kvm (P:=P) (μ:=μ) w 20 t _ _ b hb (.agg us) (.agg vs) (by simp only[VRel];exact⟨us,rfl,hu,h1⟩) (by simp only[VRel];exact⟨vs,rfl,hv,h2⟩) 9980;have V:(Op.equal t (.agg us) (.agg vs)).run P w=.ok b w:=hE;refine⟨_,.bool (if F then !b else b),hk,by simp[VRel],?_,?_⟩
   ·rcases H with rfl | rfl<;>simp[eqGuard,hg]
   ·rw[<- U];rcases H with rfl | rfl
    ·show(do pure (.bool (<- Op.equal t (.agg us) (.agg vs))):Sem Value).run P w=_;simp only[Sem.run_bind,V,Result.andThen_ok,Sem.run_pure,if_true]
    ·show(do pure (.bool (!(<- Op.equal t (.agg us) (.agg vs)))):Sem Value).run P w=_;simp only[Sem.run_bind,V,Result.andThen_ok,Sem.run_pure];rfl
  ·split at hb
   ·rename_i d hd;obtain⟨_,hb⟩:=kel hb;obtain⟨hf,hb⟩:=kr hb;obtain⟨e1,e2⟩:=kbdz hb I K hd hf op H W Z w;refine⟨_,.bool (if F then !b else b),hk,by simp[VRel],e1,?_⟩;rw[e2,U]
   ·cases hb
 unfold binK at h;split at h
 ·rename_i kd a _ b;obtain⟨h1,h⟩:=kel h;simp only[VRel]at I K;subst I;subst K;simp at h1;refine⟨_,.int kd (ishl kd a b),h,by simp[VRel],kn7 _ _ _ _ _ _ _ _ _,?_⟩;have:¬b<0:=by omega
  simp[binOp,Op.shift,this,ishl]
 ·rename_i kd a _ b;obtain⟨h1,h⟩:=kel h;simp only[VRel]at I K;subst I;subst K;simp at h1;refine⟨_,.int kd (ishr kd a b),h,by simp[VRel],kn7 _ _ _ _ _ _ _ _ _,?_⟩;have:¬b<0:=by omega
  simp[binOp,Op.shift,this,ishr]
 ·rename_i kd a aa b _ _;obtain⟨h1,h2⟩:=kr h;simp only[VRel]at I K;simp at h1;subst h1;obtain⟨z,a',e1,e2,e3⟩:=kbgi h2 t w;subst I;subst K;exact⟨z,a',e1,e2 μ,kn7 _ _ _ _ _ _ _ _ _,e3⟩
 ·rw[qbw]at h;obtain⟨b,hb,hk⟩:=h;exact G false rfl ⟨b,hb,hk⟩
 ·rw[qbw]at h;obtain⟨b,hb,hk⟩:=h;exact G true rfl ⟨b,hb,hk⟩
 ·cases h
theorem kbcm{μ:Mu}{op:UnOp}{x:AV}{k:AV->Option R}{r:R}(h:unK op x k=some r){u:Value}(y:VRel μ x u)(w:World) :
  ∃z a,k z=some r/\VRel μ z a/\(Op.unary op u).run P w=.ok a w:=by
 unfold unK at h;split at h
 ·rename_i kd n;simp only[VRel]at y;subst y;exact⟨_,.int kd (kd.wrap (0-n)),h,by simp[VRel],by simp[Op.unary,Op.intArith]⟩
 ·rename_i kd n;simp only[VRel]at y;subst y;refine⟨_,.int kd (ixor kd (cond kd.signed (-1) kd.max) n),h,by simp[VRel],?_⟩;simp only[Op.unary,Op.intBits,ixor];cases kd.signed<;>rfl
 ·rename_i b;simp only[VRel]at y;subst y;exact⟨_,.bool (!b),h,by simp[VRel],by simp[Op.unary]⟩
 ·cases h
theorem kbqz{μ:Mu}{s d:TypeId}{x:AV}{k:AV->Option R}{r:R}(h:kk4 P s d x k=some r){u:Value}(y:VRel μ x u)(w:World) :
  ∃z a,k z=some r/\VRel μ z a/\(convert s d u).run P w=.ok a w:=by
 unfold kk4 at h;split at h
 ·rename_i F kd _ n h1 h2;simp only[VRel]at y;subst y;refine⟨_,.int kd (kd.wrap n),h,by simp[VRel],?_⟩;simp[convert,run_underlying h1,run_underlying h2,Conv.intToInt]
 ·rename_i s' h1 h2;simp only[VRel]at y;subst y;exact⟨_,.string s',h,by simp[VRel],by simp[convert,run_underlying h1,run_underlying h2]⟩
 ·cases h
theorem k0b{μ:Mu}{h:AH}{w:World}(S:Sim P O μ h w){cs:List AV}{us:List Value}(hv:VRels μ cs us)(h1:cs.all AV.one=true)(e:TypeId) :
  Good P O μ h w (.ptr (some h.next)) (h.alloc (.cells cs e)) (.pointer (some ⟨w.heap.size,0,none⟩)) (w.alloc (.cells us.toArray e)):=by
 obtain⟨a,b,c⟩:=kov (rest:=[]) S hv h1 e;simp only[List.append_nil]at a b c;refine⟨_,?_,a,b,c⟩;simp only[VRel];exact⟨_,RRel.new 0,rfl⟩
theorem k41{μ:Mu}{i:Nat}{L:Loc}(hb:L.base=0)(n:Nat):VRel (Mu.set μ i L) (.slice (some (.new i 0)) n (.is n)) (.slice (some ⟨L.block,0,none⟩) n n):=by simp only[VRel];exact⟨_,n,rfl,.inr ⟨L,kdz _ _ _,by simp[hb]⟩,qbr _,rfl⟩
theorem kbdm(vs:List Value):∀(k off:Nat)(cells:Array Value),off+k+vs.length<=cells.size->
  ((vs.zipIdx k).foldl (λcs (c:Value×Nat)=>cs.setIfInBounds (off+c.2) c.1) cells).toList=cells.toList.take (off+k)++vs++cells.toList.drop (off+k+vs.length):=by
 induction vs with
 | nil=>intro k off cells h;simp
 | cons v vs ih =>
  intro k off cells h;simp only[qb4]at h;simp only[List.zipIdx_cons,List.foldl_cons];rw[ih (k+1) off _ (by simp;omega)];simp only[Array.toList_setIfInBounds]
  have h1:(cells.toList.set (off+k) v).take (off+(k+1))=cells.toList.take (off+k)++[v]:=by rw[show off+(k+1)=(off+k)+1 from by omega,qck (by simp;omega)];rw[List.take_set_of_le (qbr _)];simp
  have h2:(cells.toList.set (off+k) v).drop (off+(k+1)+vs.length)=cells.toList.drop (off+k+(vs.length+1)):=by rw[List.drop_set_of_lt (by omega)];congr 1;omega
  rw[h1,h2];simp
theorem kbbc{cells cs:List AV}(h:cells.all AV.one=true)(k:cs.all AV.one=true)(off:Nat):(splice cells off cs).all AV.one=true:=by
 rw[List.all_eq_true]at *
 intro x y;simp only[splice,qb7]at y;rcases y with(y | y) | y
 ·exact h x (List.mem_of_mem_take y)
 ·exact k x y
 ·exact h x (List.mem_of_mem_drop y)
theorem klw{μ:Mu}{place:Nat->Option (Nat×TypeId)}{rp:Nat->Option (Nat×Nat)}(hp:∀i off t,place i=some (off,t)->rp i=some (off,P.cellsOf t)) :
  ∀{parts:List (Nat×AV)}{cells:List AV}{k:List AV->Option R}{r:R},fillK P place parts cells k=some r->
  ∀{us:List Value}{arr:Array Value},VRels μ (parts.map (·.2)) us->VRels μ cells arr.toList->cells.all AV.one=true->
  ∃cs out,k cs=some r/\Instr.fill rp arr ((parts.map (·.1)).zip us)=some out/\VRels μ cs out.toList/\cs.all AV.one=true/\out.size=arr.size
 | [],cells,k,r,h,us,arr,G,y,h1=>by
  have:=G.nil_inv;subst this;exact⟨cells,arr,h,rfl,y,h1,rfl⟩
 | (i,v)::rest,cells,k,r,h,us,arr,G,y,h1=>by
  obtain⟨x,xs,rfl,W,H⟩:=G.cons_inv;simp only[fillK]at h;split at h
  ·cases h
  ·rename_i off t I;obtain⟨cs,h,Q,Z,U,e4,_⟩:=kpx h W;obtain⟨hb,h⟩:=kr h;have aa:off+cs.length<=cells.length:=Nat.le_of_ble_eq_true hb;have K:=y.length;have z:=Q.length;have ab:off+x.cells.size<=arr.size:=by simp at K z;omega
   have V:=kbdm x.cells.toList 0 off arr (by simp;omega)
   have F:VRels μ (splice cells off cs) ((x.cells.toList.zipIdx 0).foldl (λcs (c:Value×Nat)=>cs.setIfInBounds (off+c.2) c.1) arr).toList:=by rw[V];simp only[splice,Nat.add_zero];refine((y.take off).append Q).append ?_;rw[z];exact y.drop _
   obtain⟨cs',out,f1,f2,f3,f4,f5⟩:=klw hp h H F (kbbc h1 Z off);refine⟨cs',out,f1,?_,f3,f4,?_⟩
   ·simp only[List.map_cons,List.zip_cons_cons,Instr.fill,hp i off t I];rw[if_neg (by simp[U];rw[<- U];omega)]
    have hz:x.cells.zipIdx.foldl (λcs (c:Value×Nat)=>cs.setIfInBounds (off+c.2) c.1) arr=(x.cells.toList.zipIdx 0).foldl (λcs (c:Value×Nat)=>cs.setIfInBounds (off+c.2) c.1) arr:=by rw[<- Array.foldl_toList,Array.toList_zipIdx]
    exact(congrArg (λq=>Instr.fill rp q ((rest.map (·.1)).zip xs)) hz).trans f2
   ·rw[f5];have:=congrArg List.length V;simp only[Array.length_toList,qb2,qci,qch]at this;omega
end Go.Ab
namespace Go.Ab
variable{P:Program}{O:World}{R:Type}
def OpGoes(P:Program)(o:Oper)(a:Act)(w:World)(G:Value->World->Prop):Prop:=∀(next:Act->World->Prop)(Q:Exit->Act->World->Prop),(∀u w',G u w'->next (a.put o.dst u) w')->o.wp P a w next Q
theorem OpGoes.of_value{o:Oper}{a:Act}{w w':World}{u:Value}{G:Value->World->Prop}(h:(execOp a.eval o).run P w=.ok (.value u) w')(g:G u w'):OpGoes P o a w G:=λnext Q y=>by unfold Oper.wp;rw[h,Oper.upon_value];exact y u w' g
abbrev qe:=@OpGoes.of_value
theorem OpGoes.of_skip{o:Oper}{a:Act}{w w':World}{G:Value->World->Prop}(h:(execOp a.eval o).run P w=.ok .skip w')(g:G undef w'):OpGoes P o a w G:=λnext Q y=>by unfold Oper.wp;rw[h,Oper.upon_skip];exact y undef w' g
theorem OpGoes.of_call{o:Oper}{a:Act}{w w':World}{f:FuncId}{args:Array Value}{G:Value->World->Prop}(h:(execOp a.eval o).run P w=.ok (.enter f args) w')
  (g:Calls P f args w' λe y=>∃u,e=.returned u/\G u y):OpGoes P o a w G:=λnext Q z=>by
 unfold Oper.wp;rw[h,Oper.upon_enter];refine g.mono λe y ⟨u,F,H⟩=>?_;subst F;exact z u y H
theorem OpGoes.of_sem{o:Oper}{a:Act}{w w':World}{u:Value}{s:Sem Value}{G:Value->World->Prop}(y:execOp a.eval o=(do pure (.value (<- s))))(h:s.run P w=.ok u w')(g:G u w'):OpGoes P o a w G:=qe (by rw[y];simp only[Sem.run_bind,h,Result.andThen_ok,Sem.run_pure]) g
abbrev qf:=@OpGoes.of_sem
def OpOk(P:Program)(O:World)(μ:Mu)(h:AH)(w:World)(o:Oper)(a:Act)(k:AV->AH->Option R)(r:R):Prop:=∃v h1,k v h1=some r/\OpGoes P o a w (Good P O μ h w v h1)
theorem kpc(n:Nat)(zs:Array Value)(z:0<n->0<zs.size):((Array.range (n*zs.size)).map (zs[· % zs.size]!)).toList=(List.replicate n zs.toList).flatten:=by
 simp only[Array.toList_map,Array.toList_range]
 induction n with
 | zero=>simp
 | succ n ih =>
  have y:=z (by omega);have ih:=ih (λh=>y);rw[List.replicate_succ',List.flatten_append,<- ih,show(n+1)*zs.size=n*zs.size+zs.size from by rw[Nat.succ_mul],List.range_add,List.map_append];congr 1;simp only[List.map_map,List.flatten_cons,List.flatten_nil,List.append_nil];apply List.ext_getElem
  ·simp
  ·intro i h1 h2;simp at h1;simp[Nat.mul_add_mod_self_right,Nat.mod_eq_of_lt h1,getElem!_pos,h1]
theorem klr(l:List AV)(n:Nat):repC l n=(List.replicate n l).flatten:=by
 induction n with
 | zero=>rfl
 | succ n ih=>simp[repC,ih,List.replicate_succ]
theorem VRels.rep{μ:Mu}{vs:List AV}{us:List Value}(h:VRels μ vs us):∀n,VRels μ (List.replicate n vs).flatten (List.replicate n us).flatten
 | 0=>qb
 | n+1=>by simp only[List.replicate_succ,List.flatten_cons];exact h.append (VRels.rep h n)
theorem koh{vs:List AV}(h:vs.all AV.one=true)(n:Nat):(repC vs n).all AV.one=true:=by
 rw[klr];simp only[List.all_eq_true]at *
 intro x y;simp only[List.mem_flatten,List.mem_replicate]at y;obtain⟨l,⟨_,rfl⟩,y⟩:=y;exact h x y
theorem kbew(k:IntKind)(n:Int)(w:World):(asInt (.int k n)).run P w=.ok n w:=rfl
theorem k4w{μ:Mu}{r:Option Ref}{n:Nat}{i:Int}{size:Nat}{q:Ref}(h:idx r n i size=some q):∃y,r=some y/\0<=i/\i<n/\q=y.add (i.toNat*size):=by
 unfold idx at h;split at h
 ·rename_i y;obtain⟨h1,h2⟩:=kr h;simp at h1;cases h2;exact⟨y,rfl,h1.1,h1.2,rfl⟩
 ·cases h
theorem kbne{F:Array Field}{G:List (Nat×Nat)}(h:kr2 P F=some G)(i off:Nat)(t:TypeId)(z:((F.toList[i]?).map λf=>(f.offset,f.type))=some (off,t)):G[i]?=some (off,P.cellsOf t):=by
 unfold kr2 at h;generalize F.toList=l at h z
 induction l generalizing G i with
 | nil=>simp at z
 | cons f l ih =>
  rw[List.mapM_cons]at h;simp only[bind,qbw,Option.map_eq_some_iff,pure,qcd]at h;obtain⟨p,⟨I,H,rfl⟩,rest,y,rfl⟩:=h;cases i with
  | zero =>
   simp at z;obtain⟨rfl,rfl⟩:=z;simp[Program.cellsOf,H]
  | succ i =>
   have:=ih i y (by simpa using z)
   simpa using this
theorem kh4{μ:Mu}{t:TypeId}{zs:List AV}(h:kc4 P t=some zs) :
  ∃z i,P.info? t=some i/\i.zero=some z/\VRels μ zs z.cells.toList/\zs.all AV.one=true:=by
 unfold kc4 at h;split at h
 ·rename_i i y;split at h
  ·rename_i z F;obtain⟨h1,h2⟩:=VRels.ofCells (μ:=μ) h;exact⟨z,i,y,F,h1,h2⟩
  ·cases h
 ·cases h
theorem k6p{rec:Rec}{μ:Mu}{N:Nat}{fr:Fr}{h:AH}{w:World}{o:Oper}{a:Act}(S:Sim P O μ h w)(F:FRel μ N fr a.tmps){t:TypeId}{parts:Array (Nat×Operand)}(ho:o.op=.build t parts)
  {k:AV->AH->Option R} {r:R} (hk:opK P rec o.op o.type fr h k=some r):OpOk P O μ h w o a k r:=by
 obtain⟨dst,op,type,pos,I,guard⟩:=o;dsimp only at hk ho;subst ho;simp only[opK]at hk;have Z:execOp a.eval ⟨dst,.build t parts,type,pos,I,guard⟩=(do pure (.value (<- Instr.build t (parts.map λ(i,x)=>(i,a.eval x))))):=rfl
 have G:(parts.map λ(i,x)=>(i,a.eval x)).toList=(parts.toList.map (·.1)).zip ((parts.toList.map (·.2)).map a.eval):=by
  simp only[Array.toList_map,List.map_map];generalize parts.toList=l
  induction l with
  | nil=>rfl
  | cons p l ih=>simp[ih]
 have H:∀vs:List AV,evs fr (parts.toList.map (·.2))=some vs->((parts.toList.map (·.1)).zip vs).map (·.1)=parts.toList.map (·.1)/\((parts.toList.map (·.1)).zip vs).map (·.2)=vs:=by intro vs y;have:=(kds F y).length;simp only[qb3]at this;exact⟨List.map_fst_zip (by rw[qb3];omega),List.map_snd_zip (by rw[qb3];omega)⟩
 split at hk
 ·rename_i vs zs fs y hz hd;obtain⟨hp,K⟩:=kr hk;obtain⟨pl,Q⟩:=Option.isSome_iff_exists.1 hp;obtain⟨z,ti,U,V,h2,h3⟩:=kh4 (μ:=μ) hz;obtain⟨m1,m2⟩:=H vs y;obtain⟨cs,out,W,f1,f2,f3,f4⟩:=klw (μ:=μ) (rp:=λi=>pl.toArray[i]?) (λi off t' hi=>by simpa using kbne Q i off t' hi) K (us:=(parts.toList.map (·.2)).map a.eval) (arr:=z.cells) (by rw[m2];exact kds F y) h2 h3;refine⟨_,h,W,qf Z (run_build w t _ out ?_) (qd S (by simp only[VRel];exact⟨out,rfl,f2,f3⟩))⟩;rw[G];rw[m1]at f1;unfold kr2 at Q;simp only[Program.built,U,hd,V,Q];exact f1
 ·rename_i vs zs n e y hz hd;obtain⟨hp,K⟩:=kr hk;obtain⟨ie,aa⟩:=Option.isSome_iff_exists.1 hp;obtain⟨z,ti,U,V,h2,h3⟩:=kh4 (μ:=μ) hz;obtain⟨m1,m2⟩:=H vs y;obtain⟨cs,out,W,f1,f2,f3,f4⟩:=klw (μ:=μ) (rp:=λi=>some (i*ie.size,ie.size)) (λi off t' hi=>by simp at hi;obtain⟨rfl,rfl⟩:=hi;simp[Program.cellsOf,aa]) K (us:=(parts.toList.map (·.2)).map a.eval) (arr:=z.cells) (by rw[m2];exact kds F y) h2 h3;refine⟨_,h,W,qf Z (run_build w t _ out ?_) (qd S (by simp only[VRel];exact⟨out,rfl,f2,f3⟩))⟩;rw[G];rw[m1]at f1;simp only[Program.built,U,hd,V,aa];exact f1
 ·cases hk
theorem kbnc{rec:Rec}{μ:Mu}{N:Nat}{fr:Fr}{h:AH}{w:World}{o:Oper}{a:Act}(S:Sim P O μ h w)(F:FRel μ N fr a.tmps){t:TypeId}{n:Nat}{parts:Array (Nat×Operand)}(ho:o.op=.buildSlice t n parts)
  {k:AV->AH->Option R} {r:R} (hk:opK P rec o.op o.type fr h k=some r):OpOk P O μ h w o a k r:=by
 obtain⟨dst,op,type,pos,G,guard⟩:=o;dsimp only at hk ho;subst ho;simp only[opK]at hk;have W:execOp a.eval ⟨dst,.buildSlice t n parts,type,pos,G,guard⟩=(do pure (.value (<- Instr.buildSlice t n (parts.map λ(i,x)=>(i,a.eval x))))):=rfl
 have H:(parts.map λ(i,x)=>(i,a.eval x)).toList=(parts.toList.map (·.1)).zip ((parts.toList.map (·.2)).map a.eval):=by
  simp only[Array.toList_map,List.map_map];generalize parts.toList=l
  induction l with
  | nil=>rfl
  | cons p l ih=>simp[ih]
 split at hk
 ·rename_i vs e I hd;split at hk
  ·rename_i zs hz;obtain⟨hb,Z⟩:=kr hk;simp only[qcb]at hb;have ae:n*P.cellsOf e<=16777216:=Nat.le_of_ble_eq_true hb.1;have af:zs.length=P.cellsOf e:=Nat.eq_of_beq_eq_true hb.2;obtain⟨z,ti,K,aa,h2,h3⟩:=kh4 (μ:=μ) hz;have ab:z.cells.size=P.cellsOf e:=by have:=h2.length;simp at this;omega
   have y:=(kds F I).length;simp only[qb3]at y;have m1:((parts.toList.map (·.1)).zip vs).map (·.1)=parts.toList.map (·.1):=List.map_fst_zip (by rw[qb3];exact Nat.le_of_eq y);have m2:((parts.toList.map (·.1)).zip vs).map (·.2)=vs:=List.map_snd_zip (by rw[qb3];exact Nat.le_of_eq y.symm)
   have Q:((Array.range (n*P.cellsOf e)).map (z.cells[· % z.cells.size]!)).toList=(List.replicate n z.cells.toList).flatten:=by
    by_cases h0:P.cellsOf e=0
    ·have:z.cells.toList=[]:=by apply List.eq_nil_of_length_eq_zero;rw[Array.length_toList];omega
     rw[h0,this];simp[Array.range_zero']
    ·rw[<- ab];exact kpc n z.cells (by omega)
   obtain⟨cs,out,ac,U,f2,f3,f4⟩:=klw (μ:=μ) (rp:=λi=>some (i*P.cellsOf e,P.cellsOf e)) (λi off t' hi=>by simp at hi|-;exact⟨hi.1,by rw[hi.2]⟩) Z (us:=(parts.toList.map (·.2)).map a.eval) (arr:=(Array.range (n*P.cellsOf e)).map (z.cells[· % z.cells.size]!))
    (by rw[m2];exact kds F I) (by rw[Q,klr];exact h2.rep n) (koh h3 n)
   rw[m1,<- H]at U;obtain⟨g1,g2,g3⟩:=kov (rest:=[]) S (us:=out.toList) f2 f3 e;simp only[List.append_nil,Array.toArray_toList]at g1 g2 g3;refine⟨_,_,ac,qf W (w':=w.alloc (.cells out e)) (u:=.slice (some ⟨w.heap.size,0,none⟩) n n) ?_ ⟨_,k41 rfl n,g1,g2,g3⟩⟩;have hs:(sizeOf e).run P w=.ok (P.cellsOf e) w:=by simp[sizeOf,typeInfo,K,Program.cellsOf]
   have V:¬(16777216<n*P.cellsOf e):=by omega
   by_cases h0:n*P.cellsOf e=0
   ·have ad:∀f g:Nat->Value,(Array.range (n*P.cellsOf e)).map f=(Array.range (n*P.cellsOf e)).map g:=λf g=>by rw[h0];simp[Array.range_zero']
    rw[ad (z.cells[· % z.cells.size]!) ((#[]:Array Value)[· % (#[]:Array Value).size]!)]at U;simp only[Instr.buildSlice,Sem.run_bind,run_underlying hd,Result.andThen_ok,hs,Sem.run_ite,if_neg V,h0,if_true,Sem.run_pure];rw[h0]at U;simp only[U,newRow,Sem.run_bind,run_newObj,Result.andThen_ok,Sem.run_pure];rfl
   ·simp only[Instr.buildSlice,Sem.run_bind,run_underlying hd,Result.andThen_ok,hs,Sem.run_ite,if_neg V,if_neg h0,zeroValue,typeInfo,run_program,K,aa,Sem.run_pure,U,newRow,run_newObj];rfl
  ·cases hk
 ·cases hk
theorem kbia{rec:Rec}{μ:Mu}{N:Nat}{fr:Fr}{h:AH}{w:World}{o:Oper}{a:Act}(S:Sim P O μ h w)(F:FRel μ N fr a.tmps){t:TypeId}{l c:Operand}(ho:o.op=.makeSlice t l c)
  {k:AV->AH->Option R} {r:R} (hk:opK P rec o.op o.type fr h k=some r):OpOk P O μ h w o a k r:=by
 obtain⟨dst,op,type,pos,aa,guard⟩:=o;dsimp only at hk ho;subst ho;simp only[opK]at hk;split at hk
 ·rename_i k1 l' k2 H e hl hc hd;split at hk
  ·rename_i zs hz;obtain⟨hb,I⟩:=kr hk;have hb:=Nat.eq_of_beq_eq_true hb;rw[qbw]at I;obtain⟨q,hq,ab⟩:=I;unfold kbm at hq;obtain⟨K,Q⟩:=kr hq;simp only[qby]at K;obtain⟨b1,b2,b3,b4⟩:=K;simp only[qcd]at Q;subst Q;obtain⟨z,y,G,ac,h2,h3⟩:=kh4 (μ:=μ) hz;have ad:z.cells.size=y.size:=by have:=h2.length;simp[Program.cellsOf,G]at this hb;omega
   have U:=kw F hl;have V:=kw F hc;simp only[VRel]at U V;have hm:(ky:Int)=70368744177664:=rfl;rw[hm]at b3 b4
   have ae:(y.bytes:Int)*H<=281474976710656:=by
    have af:P.bytesOf e=y.bytes:=by simp[Program.bytesOf,G]
    rw[af,Int.mul_comm]at b4;omega
   have W:=run_make (P:=P) w t e y z hd G ac k1 k2 l' H b1 b2 ae (by omega)
   have Z:(madeCells z.cells (H.toNat*y.size)).toList=(List.replicate H.toNat z.cells.toList).flatten:=by
    unfold madeCells;by_cases h0:y.size=0
    ·have:z.cells.toList=[]:=by apply List.eq_nil_of_length_eq_zero;rw[Array.length_toList];omega
     rw[h0,this];simp[Array.range_zero']
    ·rw[<- ad];exact kpc _ z.cells (by omega)
   obtain⟨g1,g2,g3⟩:=kov (rest:=[]) S (cs:=repC zs H.toNat) (us:=(madeCells z.cells (H.toNat*y.size)).toList) (by rw[Z,klr];exact h2.rep _) (koh h3 _) e;simp only[List.append_nil,Array.toArray_toList]at g1 g2 g3;refine⟨_,_,ab,qf (s:=Instr.makeSlice t (a.eval l) (a.eval c)) rfl (by rw[U,V];exact W) ⟨_,?_,g1,g2,g3⟩⟩;simp only[VRel,Sl.v];exact⟨_,_,rfl,.inr (RRel.new 0),by omega,rfl⟩
  ·cases hk
 ·cases hk
theorem k96{rec:Rec}{μ:Mu}{N:Nat}{fr:Fr}{h:AH}{w:World}{o:Oper}{a:Act}(S:Sim P O μ h w)(F:FRel μ N fr a.tmps){s:TypeId}{x:Operand}{f:Nat}(W:o.op=.fieldAddr s x f)
  {k:AV->AH->Option R} {r:R} (hk:opK P rec o.op o.type fr h k=some r):OpOk P O μ h w o a k r:=by
 obtain⟨dst,op,type,pos,K,guard⟩:=o;dsimp only at hk W;subst W;simp only[opK]at hk;split at hk
 ·rename_i p z hp y;obtain⟨h0,G⟩:=kel hk;rw[qbw]at G;obtain⟨q,hq,Q⟩:=G;subst hq;have I:=kw F hp;simp only[VRel]at I;obtain⟨Z,I,he⟩:=I;unfold kqv at y;split at y
  ·rename_i fs hd;have H:P.cellsOf z.type≠0:=λe=>by rw[e]at h0;cases h0
   have hs:∃i,P.info? z.type=some i:=by
    cases U:P.info? z.type with
    | none=>simp[Program.cellsOf,U]at H
    | some i=>exact⟨i,rfl⟩
   obtain⟨i,U⟩:=hs;have V:(sizeOf z.type).run P w=.ok (P.cellsOf z.type) w:=by simp[sizeOf,typeInfo,U,Program.cellsOf]
   simp only[Array.getElem?_toList]at y;refine⟨_,h,Q,qf (s:=Instr.fieldAt s (a.eval x) f) (u:=.pointer (some (Z.add z.offset))) rfl ?_ (qd S (by simp only[VRel];exact⟨_,I.add _,rfl⟩))⟩;rw[he];simp[Instr.fieldAt,run_underlying hd,y,Instr.sureAddr,fieldPlace,V,H]
  ·cases y
 ·cases hk
theorem kbnv{rec:Rec}{μ:Mu}{N:Nat}{fr:Fr}{h:AH}{w:World}{o:Oper}{a:Act}(S:Sim P O μ h w)(F:FRel μ N fr a.tmps){t:TypeId}{x:Operand}{f:Nat}(K:o.op=.field t x f)
  {k:AV->AH->Option R} {r:R} (hk:opK P rec o.op o.type fr h k=some r):OpOk P O μ h w o a k r:=by
 obtain⟨dst,op,type,pos,z,guard⟩:=o;dsimp only at hk K;subst K;simp only[opK]at hk;split at hk
 ·rename_i cs fd U y;rw[qbw]at hk;obtain⟨v,hv,G⟩:=hk;have Q:=kw F U;simp only[VRel]at Q;obtain⟨us,V,H,h1⟩:=Q;unfold kqv at y;split at y
  ·rename_i fs W;simp only[Array.getElem?_toList]at y;obtain⟨u,Z,I⟩:=khu hv H h1 w;refine⟨v,h,G,qf (s:=Instr.field t (a.eval x) f) rfl ?_ (qd S I)⟩;rw[V];simp[Instr.field,run_underlying W,y,asAgg,Z]
  ·cases y
 ·cases hk
theorem kbok{rec:Rec}{μ:Mu}{N:Nat}{fr:Fr}{h:AH}{w:World}{o:Oper}{a:Act}(S:Sim P O μ h w)(F:FRel μ N fr a.tmps){t:TypeId}{x i:Operand}(ho:o.op=.indexAddr t x i)
  {k:AV->AH->Option R} {r:R} (hk:opK P rec o.op o.type fr h k=some r):OpOk P O μ h w o a k r:=by
 obtain⟨dst,op,type,pos,W,guard⟩:=o;dsimp only at hk ho;subst ho;simp only[opK]at hk;split at hk
 ·rename_i p n cp kd j e Z hi hd;obtain⟨y,z⟩:=kr hk;rw[qbw]at z;obtain⟨q,hq,H⟩:=z;obtain⟨r',rfl,j0,j1,rfl⟩:=k4w (μ:=μ) hq;have Q:=kw F Z;have G:=kw F hi;simp only[VRel]at Q G;obtain⟨V,c,he,aa,U⟩:=Q;obtain⟨ie,I⟩:=Option.isSome_iff_exists.1 y;have hs:(sizeOf e).run P w=.ok (P.cellsOf e) w:=by simp[sizeOf,typeInfo,I,Program.cellsOf]
  have K:RRel μ r' V:=by
   rcases aa with h0 | h0
   ·have:n<=c:=by cases cp<;>exact U.1
    omega
   ·exact h0
  refine⟨_,h,H,qf (s:=Instr.indexAt t (a.eval x) (a.eval i)) (u:=.pointer (some (V.add (j.toNat*P.cellsOf e)))) rfl ?_ (qd S (by simp only[VRel];exact⟨_,K.add _,rfl⟩))⟩;rw[he,G];simp[Instr.indexAt,asIntOf,run_underlying hd,j0,j1,hs]
 ·rename_i p kd j n e Z hi hd;obtain⟨y,z⟩:=kr hk;rw[qbw]at z;obtain⟨q,hq,H⟩:=z;obtain⟨r',rfl,j0,j1,rfl⟩:=k4w (μ:=μ) hq;have Q:=kw F Z;have G:=kw F hi;simp only[VRel]at Q G;obtain⟨V,K,he⟩:=Q;obtain⟨ie,I⟩:=Option.isSome_iff_exists.1 y;have hs:(sizeOf e).run P w=.ok (P.cellsOf e) w:=by simp[sizeOf,typeInfo,I,Program.cellsOf]
  refine⟨_,h,H,qf (s:=Instr.indexAt t (a.eval x) (a.eval i)) (u:=.pointer (some (V.add (j.toNat*P.cellsOf e)))) rfl ?_ (qd S (by simp only[VRel];exact⟨_,K.add _,rfl⟩))⟩;rw[he,G];simp[Instr.indexAt,asIntOf,run_underlying hd,j0,j1,hs,Instr.sureAddr]
 ·cases hk
theorem kbmb{rec:Rec}{μ:Mu}{N:Nat}{fr:Fr}{h:AH}{w:World}{o:Oper}{a:Act}(S:Sim P O μ h w)(F:FRel μ N fr a.tmps){t:TypeId}{x i:Operand}(ho:o.op=.index t x i)
  {k:AV->AH->Option R} {r:R} (hk:opK P rec o.op o.type fr h k=some r):OpOk P O μ h w o a k r:=by
 obtain⟨dst,op,type,pos,K,guard⟩:=o;dsimp only at hk ho;subst ho;simp only[opK]at hk;split at hk
 ·rename_i cs kd j n e Q U V;obtain⟨H,y⟩:=kr hk;simp only[qby]at H;rw[qbw]at y;obtain⟨v,hv,z⟩:=y;have I:=kw F Q;have G:=kw F U;simp only[VRel]at I G;obtain⟨us,he,W,h1⟩:=I;obtain⟨u,hu,Z⟩:=khu hv W h1 w
  have aa:∃d,P.underlying e=some d:=by
   unfold partA at hv;split at hv
   ·exact⟨_,‹_›⟩
   ·cases hv
  obtain⟨d,ab⟩:=aa;have z:=kbfr z;refine⟨v,h,z,qf (s:=Instr.index t (a.eval x) (a.eval i)) rfl ?_ (qd S Z)⟩;rw[he,G];simp[Instr.index,asIntOf,run_underlying V,H.1,H.2,krd ab,hu]
 ·rename_i s kd j Q U V;obtain⟨H,y⟩:=kr hk;simp only[qby]at H;rw[qbw]at y;obtain⟨b,hb,z⟩:=y;have I:=kw F Q;have G:=kw F U;simp only[VRel]at I G;refine⟨_,h,z,qf (s:=Instr.index t (a.eval x) (a.eval i)) (u:=.int .u8 (b.toNat:Int)) rfl ?_ (qd S (by simp[VRel]))⟩;rw[I,G];simp[Instr.index,asIntOf,run_underlying V,H,hb]
 ·cases hk
theorem kbbx{rec:Rec}{μ:Mu}{N:Nat}{fr:Fr}{h:AH}{w:World}{o:Oper}{a:Act}(S:Sim P O μ h w)(F:FRel μ N fr a.tmps){t:TypeId}{x y:Operand}(U:o.op=.store t x y)
  {k:AV->AH->Option R} {r:R} (hk:opK P rec o.op o.type fr h k=some r):OpOk P O μ h w o a k r:=by
 obtain⟨dst,op,type,pos,I,guard⟩:=o;dsimp only at hk U;subst U;simp only[opK]at hk;split at hk
 ·rename_i p v hp hv;obtain⟨cs,z,h1,h2,V,h4,d,W⟩:=kpx hk (kw F hv);rw[qbw]at z;obtain⟨q,hq,G⟩:=z;subst hq;rw[qbw]at G;obtain⟨h',K,Q⟩:=G;have H:=kw F hp;simp only[VRel]at H;obtain⟨ad,H,Z⟩:=H;obtain⟨w',e1,e2,e3,e4⟩:=kos (i:=0) S (by simpa[Addr.add]using H) h1 h2 K;refine⟨_,h',Q,OpGoes.of_skip (w':=w') ?_ ⟨μ,by simp[VRel,undef,VRels],e2,e3,e4⟩⟩;simp only[execOp,Sem.run_bind];rw[Z];simp[Instr.storeAt,Instr.sureAddr,storeVar,krd W,V,e1]
 ·cases hk
theorem kh8{μ:Mu}{N:Nat}{fr:Fr}{a:Act}(F:FRel μ N fr a.tmps){x:Option Operand}{d:Int}{k:Int->Option R}{r:R}(h:boundK fr x d k=some r) :
  ∃n,k n=some r/\((x.map a.eval=none/\n=d)\/∃kd,x.map a.eval=some (.int kd n)):=by
 unfold boundK at h;split at h
 ·exact⟨d,h,.inl ⟨rfl,rfl⟩⟩
 ·split at h
  ·rename_i kd n y;have:=kw F y;simp only[VRel]at this;exact⟨n,h,.inr ⟨kd,by simp[this]⟩⟩
  ·cases h
theorem kgz{kd:IntKind}{n:Int}{y:Nat}{c:BoundsCode}(h0:0<=n)(h1:n<=y)(w:World):(Instr.sliceBound (.int kd n) y c).run P w=.ok n.toNat w:=by simp[Instr.sliceBound,asIntOf,h0,h1]
theorem ksw{isS:Bool}{len cap:Nat}{lo y:Option Value}{l h:Int}(z:(lo=none/\l=0)\/∃kd,lo=some (.int kd l))(F:(y=none/\h=(len:Int))\/∃kd,y=some (.int kd h))
  (b:0<=l/\l<=h/\h<=(cap:Int)) (w:World):(Instr.sliceBounds isS len cap lo y none).run P w=.ok (l.toNat,h.toNat,cap) w:=by
 obtain⟨b1,b2,b3⟩:=b;rcases z with⟨rfl,rfl⟩ | ⟨G,rfl⟩<;>rcases F with⟨rfl,rfl⟩ | ⟨H,rfl⟩
 ·simp[Instr.sliceBounds]
 ·simp[Instr.sliceBounds,kgz (P:=P) (show 0<=h by omega) b3]
 ·simp[Instr.sliceBounds,kgz (P:=P) b1 b2]
 ·simp[Instr.sliceBounds,kgz (P:=P) (show 0<=h by omega) b3,kgz (P:=P) b1 (show l<=(h.toNat:Int) by omega)]
theorem kbin{isS:Bool}{len cap:Nat}{lo y z:Option Value}{l h m:Int}(F:(lo=none/\l=0)\/∃kd,lo=some (.int kd l))(G:∃kd,y=some (.int kd h))(H:∃kd,z=some (.int kd m))
  (b:0<=l/\l<=h/\h<=m/\m<=(cap:Int)) (w:World):(Instr.sliceBounds isS len cap lo y z).run P w=.ok (l.toNat,h.toNat,m.toNat) w:=by
 obtain⟨b1,b2,b3,b4⟩:=b;obtain⟨I,rfl⟩:=G;obtain⟨K,rfl⟩:=H;rcases F with⟨rfl,rfl⟩ | ⟨Q,rfl⟩
 ·simp[Instr.sliceBounds,kgz (P:=P) (show 0<=m by omega) b4,kgz (P:=P) (show 0<=h by omega) (show h<=(m.toNat:Int) by omega)]
 ·simp[Instr.sliceBounds,kgz (P:=P) (show 0<=m by omega) b4,kgz (P:=P) (show 0<=h by omega) (show h<=(m.toNat:Int) by omega),kgz (P:=P) b1 (show l<=(h.toNat:Int) by omega)]
theorem k4r{μ:Mu}{r:Option Ref}{n:Nat}{c:Cap}{l h:Int}{size:Nat}{s:Sl}(H:cutSl ⟨r,n,c⟩ l h size=some s){u:Value}(hv:VRel μ (.slice r n c) u) :
  ∃z cap,u=.slice z n cap/\(0<=l/\l<=h/\h<=(cap:Int))/\VRel μ s.v (.slice (if cap=l.toNat then z else z.map (·.add (l.toNat*size))) (h.toNat-l.toNat) (cap-l.toNat)):=by
 unfold cutSl at H;cases c with
 | is c =>
  obtain⟨b,hs⟩:=kr H;simp only[qby]at b;simp only[qcd]at hs;subst hs;cases r with
  | none =>
   simp only[VRel]at hv;obtain⟨rfl,h2,rfl⟩:=hv;cases h2;have Z:l=0:=by omega
   have hh:h=0:=by omega
   subst Z;subst hh;exact⟨none,0,rfl,by simp,by simp[VRel,Sl.v]⟩
  | some r =>
   simp only[VRel]at hv;obtain⟨z,F,rfl,G,Q,U⟩:=hv;subst U;refine⟨some z,F,rfl,b,?_⟩;by_cases y:F=l.toNat
   ·simp only[y,if_true,Sl.v,VRel];exact⟨z,_,rfl,.inl (by omega),by omega,rfl⟩
   ·simp only[y,if_false,Sl.v,Option.map_some,VRel];refine⟨_,_,rfl,?_,by omega,rfl⟩;rcases G with h0 | h0
    ·omega
    ·exact .inr (h0.add _)
 | opn sz =>
  obtain⟨V,H⟩:=kr H;have V:=Nat.eq_of_beq_eq_true V;subst V;obtain⟨b,hs⟩:=kr H;simp only[qby]at b;simp only[qcd]at hs;subst hs;cases r with
  | none =>
   simp only[VRel]at hv;obtain⟨_,h2,_⟩:=hv;cases h2
  | some r =>
   simp only[VRel]at hv;obtain⟨z,F,rfl,G,Q,i,o,L,rfl,W,I⟩:=hv;refine⟨some z,F,rfl,⟨b.1,b.2.1,by omega⟩,?_⟩;have aa:l.toNat<=F:=by omega
   have K:l.toNat*sz+(F-l.toNat)*sz=F*sz:=by rw[<- Nat.add_mul];congr 1;omega
   by_cases y:F=l.toNat
   ·simp only[y,if_true,Sl.v,Option.map_some,VRel];exact⟨z,_,rfl,.inl (by omega),by omega,i,_,L,rfl,W,by rw[y]at K I;omega⟩
   ·simp only[y,if_false,Sl.v,Option.map_some,VRel];refine⟨_,_,rfl,?_,by omega,i,_,L,rfl,W,by omega⟩;rcases G with h0 | h0
    ·omega
    ·exact .inr (h0.add _)
theorem kbqx{μ:Mu}{r:Option Ref}{n:Nat}{c:Cap}{l h m:Int}{size:Nat}{s:Sl}(G:cutSl3 ⟨r,n,c⟩ l h m size=some s){u:Value}(hv:VRel μ (.slice r n c) u) :
  ∃y cap,u=.slice y n cap/\(0<=l/\l<=h/\h<=m/\m<=(cap:Int))/\VRel μ s.v (.slice (if m.toNat=l.toNat then y else y.map (·.add (l.toNat*size))) (h.toNat-l.toNat) (m.toNat-l.toNat)):=by
 unfold cutSl3 at G;cases c with
 | is c =>
  obtain⟨b,hs⟩:=kr G;simp only[qby]at b;simp only[qcd]at hs;subst hs;cases r with
  | none =>
   simp only[VRel]at hv;obtain⟨rfl,h2,rfl⟩:=hv;cases h2;have Q:l=0:=by omega
   have U:h=0:=by omega
   have V:m=0:=by omega
   subst Q;subst U;subst V;exact⟨none,0,rfl,by simp,by simp[VRel,Sl.v]⟩
  | some r =>
   simp only[VRel]at hv;obtain⟨y,H,rfl,z,I,K⟩:=hv;subst K;refine⟨some y,H,rfl,b,?_⟩;by_cases F:m.toNat=l.toNat
   ·simp only[F,if_true,Sl.v,VRel];exact⟨y,_,rfl,.inl (by omega),by omega,rfl⟩
   ·simp only[F,if_false,Sl.v,Option.map_some,VRel];refine⟨_,_,rfl,?_,by omega,rfl⟩;rcases z with h0 | h0
    ·omega
    ·exact .inr (h0.add _)
 | opn sz =>
  obtain⟨b,hs⟩:=kr G;simp only[qby]at b;simp only[qcd]at hs;obtain⟨rfl,rfl,rfl⟩:=b;subst hs;cases r with
  | none =>
   simp only[VRel]at hv;obtain⟨_,h2,_⟩:=hv;cases h2
  | some r =>simp only[VRel]at hv;obtain⟨y,H,rfl,z,I,_⟩:=hv;refine⟨some y,H,rfl,by simp,?_⟩;simp only[if_true,Sl.v,VRel];exact⟨y,_,rfl,.inl (by simp),by simp,rfl⟩
theorem kbpf{rec:Rec}{μ:Mu}{N:Nat}{fr:Fr}{h:AH}{w:World}{o:Oper}{a:Act}(S:Sim P O μ h w)(F:FRel μ N fr a.tmps){t:TypeId}{x:Operand}{lo W mx:Option Operand}(ho:o.op=.slice t x lo W mx)
  {k:AV->AH->Option R} {r:R} (hk:opK P rec o.op o.type fr h k=some r):OpOk P O μ h w o a k r:=by
 obtain⟨dst,op,type,pos,ab,guard⟩:=o;dsimp only at hk ho;subst ho;simp only[opK]at hk;split at hk
 ·rename_i v hv;have V:=kw F hv;unfold sliceK at hk;split at hk
  ·rename_i e q n c hd;obtain⟨l,K,hl⟩:=kh8 F hk;obtain⟨hh,y,I⟩:=kh8 F K;split at y
   ·obtain⟨z,y⟩:=kr y;obtain⟨ie,Q⟩:=Option.isSome_iff_exists.1 z;have hs:(sizeOf e).run P w=.ok (P.cellsOf e) w:=by simp[sizeOf,typeInfo,Q,Program.cellsOf]
    rw[qbw]at y;obtain⟨s,U,G⟩:=y;obtain⟨ad,cap,he,hb,H⟩:=k4r U V;refine⟨_,h,G,qf (s:=Instr.sliceAt t (a.eval x) (lo.map a.eval) (W.map a.eval) none) rfl ?_ (qd S H)⟩;rw[he];simp only[Instr.sliceAt,Sem.run_bind,run_underlying hd,Result.andThen_ok,Instr.slice,ksw (P:=P) (isS:=true) hl I hb,hs,Sem.run_pure]
   ·rename_i m;obtain⟨z,y⟩:=kr y;simp only[qcb]at z;obtain⟨z,Z⟩:=z;obtain⟨ie,Q⟩:=Option.isSome_iff_exists.1 z;have hs:(sizeOf e).run P w=.ok (P.cellsOf e) w:=by simp[sizeOf,typeInfo,Q,Program.cellsOf]
    obtain⟨mm,G,ac⟩:=kh8 F y;rw[qbw]at G;obtain⟨s,U,ae⟩:=G;obtain⟨ad,cap,he,hb,H⟩:=kbqx U V
    have af:∃kd,W.map a.eval=some (.int kd hh):=by
     rcases I with⟨h0,_⟩ | h0
     ·cases W<;>simp at h0 Z
     ·exact h0
    have ag:∃kd,(some m).map a.eval=some (.int kd mm):=by
     rcases ac with⟨h0,_⟩ | h0
     ·simp at h0
     ·exact h0
    refine⟨_,h,ae,qf (s:=Instr.sliceAt t (a.eval x) (lo.map a.eval) (W.map a.eval) ((some m).map a.eval)) rfl ?_ (qd S H)⟩;rw[he];simp only[Instr.sliceAt,Sem.run_bind,run_underlying hd,Result.andThen_ok,Instr.slice,kbin (P:=P) (isS:=true) hl af ag hb,hs,Sem.run_pure]
  ·rename_i n e q hd;obtain⟨l,K,hl⟩:=kh8 F hk;obtain⟨hh,y,I⟩:=kh8 F K;split at y
   ·obtain⟨z,y⟩:=kr y;obtain⟨ie,Q⟩:=Option.isSome_iff_exists.1 z;have hs:(sizeOf e).run P w=.ok (P.cellsOf e) w:=by simp[sizeOf,typeInfo,Q,Program.cellsOf]
    rw[qbw]at y;obtain⟨s,U,G⟩:=y;simp only[VRel]at V;obtain⟨aa,V,ah⟩:=V;obtain⟨ad,cap,he,hb,H⟩:=k4r U (u:=.slice (some aa) n n) (by simp only[VRel];exact⟨aa,n,rfl,.inr V,qbr _,rfl⟩);cases he;refine⟨_,h,G,qf (s:=Instr.sliceAt t (a.eval x) (lo.map a.eval) (W.map a.eval) none) rfl ?_ (qd S H)⟩;rw[ah];simp only[Instr.sliceAt,Sem.run_bind,run_underlying hd,Result.andThen_ok,Instr.sureAddr,Sem.run_pure,ksw (P:=P) (isS:=false) hl I hb,hs];by_cases ai:n=l.toNat<;>simp[ai]
   ·cases y
  ·rename_i s hd;obtain⟨l,K,hl⟩:=kh8 F hk;obtain⟨hh,y,I⟩:=kh8 F K;split at y
   ·obtain⟨hb,G⟩:=kr y;simp only[qby]at hb;simp only[VRel]at V;refine⟨_,h,G,qf (s:=Instr.sliceAt t (a.eval x) (lo.map a.eval) (W.map a.eval) none) (u:=.string (s.extract l.toNat hh.toNat)) rfl ?_ (qd S (by simp[VRel]))⟩;rw[V];simp[Instr.sliceAt,Instr.slice,run_underlying hd,ksw (P:=P) (isS:=false) hl I hb]
   ·cases y
  ·cases hk
 ·cases hk
theorem kboh{rec:Rec}{μ:Mu}{N:Nat}{fr:Fr}{h:AH}{w:World}{o:Oper}{a:Act}(S:Sim P O μ h w)(F:FRel μ N fr a.tmps){t:TypeId}{x:Operand}(y:o.op=.makeInterface t x)
  {k:AV->AH->Option R} {r:R} (hk:opK P rec (.makeInterface t x) o.type fr h k=some r):OpOk P O μ h w o a k r:=by
 simp only[opK]at hk;split at hk
 ·rename_i v d hv z;obtain⟨G,hk⟩:=kel hk
  have run:(Instr.makeInterface t (a.eval x)).run P w=.ok (.iface t (a.eval x)) w:=by unfold Instr.makeInterface;simp only[Sem.run_bind,run_underlying z,Result.andThen_ok];cases d<;>first | rfl | cases G
  refine⟨_,h,hk,qf (s:=Instr.makeInterface t (a.eval x)) (by simp only[execOp,y]) run (qd S ?_)⟩;simp only[VRel];exact⟨_,rfl,kw F hv⟩
 ·cases hk
theorem k7n{rec:Rec}{μ:Mu}{N:Nat}{fr:Fr}{h:AH}{w:World}{o:Oper}{a:Act}(S:Sim P O μ h w)(F:FRel μ N fr a.tmps){x:Operand}{z t:TypeId}{ok:Bool}(K:o.op=.typeAssert x z t ok)
  {k:AV->AH->Option R} {r:R} (hk:opK P rec (.typeAssert x z t ok) o.type fr h k=some r):OpOk P O μ h w o a k r:=by
 simp only[opK]at hk;split at hk
 ·rename_i v d hv U;rw[qbw]at hk;obtain⟨⟨t',y⟩,hp,hk⟩:=hk;obtain⟨H,hk⟩:=kr hk;have G:=kc2 hk;clear hk;rw[qcb,qcl]at H;have I:=kw F hv;rw[k3c hp]at I;simp only[VRel]at I;obtain⟨u,V,Q⟩:=I;have W:t'=t:=Nat.eq_of_beq_eq_true H.2;subst W;have Z:=H.1
  have run:(Instr.typeAssert (a.eval x) z t' ok).run P w=.ok (if ok then .tuple #[u,.bool true]else u) w:=by unfold Instr.typeAssert;simp only[V,Sem.run_bind,run_underlying U,Result.andThen_ok];cases d<;>first | (cases Z;done) | simp
  cases ok with
  | false=>exact⟨_,h,G,qf (s:=Instr.typeAssert (a.eval x) z t' false) (by simp only[execOp,K]) run (qd S Q)⟩
  | true =>refine⟨_,h,G,qf (s:=Instr.typeAssert (a.eval x) z t' true) (by simp only[execOp,K]) run (qd S ?_)⟩;simp only[VRel];exact⟨_,rfl,qc Q (qc (by simp[VRel]) qb)⟩
 ·cases hk
theorem kbl3{rec:Rec}{μ:Mu}{N:Nat}{fr:Fr}{h:AH}{w:World}{o:Oper}{a:Act}(S:Sim P O μ h w)(F:FRel μ N fr a.tmps)(U:∀c,o.op≠.call c)
  {k:AV->AH->Option R} {r:R} (hk:opK P rec o.op o.type fr h k=some r):OpOk P O μ h w o a k r:=by
 obtain⟨dst,op,type,pos,W,guard⟩:=o;dsimp only at hk U;cases op<;>simp only[opK]at hk
 case call c=>exact absurd rfl (U c)
 case move x =>rw[kkf,qbw]at hk;obtain⟨v,hv,hk⟩:=hk;exact⟨v,h,hk,qe (u:=a.eval x) rfl (qd S (kw F hv))⟩
 case assign x =>rw[kkf,qbw]at hk;obtain⟨v,hv,hk⟩:=hk;exact⟨v,h,hk,qe (u:=a.eval x) rfl (qd S (kw F hv))⟩
 case pick c x y =>
  split at hk
  ·rename_i t ht;have Z:=kw F ht;simp only[VRel]at Z;rcases kb5 hk with⟨rfl,G⟩ | ⟨rfl,G⟩<;>rw[qbw]at G<;>obtain⟨v,hv,G⟩:=G
   ·exact⟨v,h,G,qe (u:=a.eval x) (by simp[execOp,Z,asBool]) (qd S (kw F hv))⟩
   ·exact⟨v,h,G,qe (u:=a.eval y) (by simp[execOp,Z,asBool]) (qd S (kw F hv))⟩
  ·cases hk
 case alloc t =>
  split at hk
  ·rename_i zs I;obtain⟨z,h1,h2,h3⟩:=k4n (μ:=μ) I w;refine⟨_,_,hk,qf (s:=Instr.alloc t true (.tuple #[])) rfl ?_ (k0b S h2 h3 t)⟩;simp[Instr.alloc,h1,newVar,newRow]
  ·cases hk
 case box t x =>rw[qbw]at hk;obtain⟨v,hv,hk⟩:=hk;obtain⟨cs,hk,h1,h2,h3,_⟩:=kpx hk (kw F hv);refine⟨_,_,hk,qf (s:=Instr.box t (a.eval x)) rfl ?_ (k0b S h1 h2 t)⟩;simp[Instr.box,newVar,newRow]
 case build t parts=>exact k6p (rec:=rec) S F rfl hk
 case buildSlice t n parts=>exact kbnc (rec:=rec) S F rfl hk
 case load t x =>
  split at hk
  ·rename_i q hq;have hv:=kw F hq;simp only[VRel]at hv;obtain⟨ad,H,K⟩:=hv;obtain⟨v,u,hk,Q,hl⟩:=ksx S H hk;refine⟨v,h,hk,qf (s:=Instr.loadAt t (a.eval x)) rfl ?_ (qd S Q)⟩;rw[K];simp[Instr.loadAt,Instr.sureAddr,hl]
  ·cases hk
  ·cases hk
 case store t x y=>exact kbbx (rec:=rec) S F rfl hk
 case nilCheck x =>
  split at hk
  ·rename_i p hp;rw[qbw]at hk;obtain⟨q,rfl,hk⟩:=hk;have H:=kw F hp;refine⟨_,h,hk,qe (u:=a.eval x) ?_ (qd S H)⟩;simp only[VRel]at H;obtain⟨ad,_,K⟩:=H;simp only[execOp];rw[K];rfl
  ·rename_i f b c hf;have H:=kw F hf;refine⟨_,h,hk,qe (u:=a.eval x) ?_ (qd S H)⟩;simp only[VRel]at H;obtain⟨g,x1,x2,K,hg,_⟩:=H;simp only[FnRel]at hg;subst hg;simp only[execOp];rw[K];rfl
  ·cases hk
 case binOp op t x y yt =>
  split at hk
  ·rename_i v1 v2 h1 h2;obtain⟨z,u,hk,I,V,e2⟩:=kbdd hk (kw F h1) (kw F h2) x y w;refine⟨z,h,hk,qe (u:=u) ?_ (qd S I)⟩;simp[execOp,V,e2]
  ·cases hk
 case unOp op t x =>
  split at hk
  ·rename_i v h1;obtain⟨z,u,hk,I,V⟩:=kbcm (P:=P) hk (kw F h1) w;exact⟨z,h,hk,qf rfl V (qd S I)⟩
  ·cases hk
 case convert s d x =>
  split at hk
  ·rename_i v h1;obtain⟨z,u,hk,I,V⟩:=kbqz hk (kw F h1) w;exact⟨z,h,hk,qf rfl V (qd S I)⟩
  ·cases hk
 case makeFunc f first captured =>
  split at hk
  ·rename_i x y g h1 h2;refine⟨_,h,hk,qe (u:=.func (.func g) (first.map a.eval) (captured.map a.eval)) rfl (qd S ?_)⟩;simp only[VRel];exact⟨_,_,_,rfl,rfl,by simpa using kds F h1,by simpa using kds F h2⟩
  ·cases hk
 case makeInterface t x=>exact kboh (rec:=rec) S F rfl (by simp only[opK];exact hk)
 case typeAssert x xt t ok=>exact k7n (rec:=rec) S F rfl (by simp only[opK];exact hk)
 case makeSlice t l c=>exact kbia (rec:=rec) S F rfl hk
 case slice t x lo hi mx=>exact kbpf (rec:=rec) S F rfl hk
 case fieldAddr s x f=>exact k96 (rec:=rec) S F rfl hk
 case field t x f=>exact kbnv (rec:=rec) S F rfl hk
 case indexAddr t x i=>exact kbok (rec:=rec) S F rfl hk
 case index t x i=>exact kbmb (rec:=rec) S F rfl hk
 case extract x i =>
  split at hk
  ·rename_i vs hv;rw[qbw]at hk;obtain⟨v,aa,hk⟩:=hk;have H:=kw F hv;simp only[VRel]at H;obtain⟨us,K,ab⟩:=H;obtain⟨u,hu,Q⟩:=ab.get i v aa;refine⟨v,h,hk,qf (s:=Instr.extract (a.eval x) i) rfl ?_ (qd S Q)⟩;rw[K];simp only[Array.getElem?_toList]at hu;simp[Instr.extract,hu]
  ·cases hk
 all_goals cases hk
end Go.Ab
namespace Go.Ab
variable{P:Program}{O:World}{R:Type}
theorem k2g(need:Nat):∀(y c:Nat),c<=need+(need+768)/4->Builtin.growBy need y c<=need+(need+768)/4
 | 0,c,h=>h
 | n+1,c,h=>by
  unfold Builtin.growBy;split
  ·exact h
  ·exact k2g need n _ (by omega)
theorem k7v{need old:Nat}(h:old<need):Builtin.nextslicecap need old<=2*need:=by
 unfold Builtin.nextslicecap;split
 ·omega
 ·split
  ·omega
  ·have:=k2g need 4 old (by omega);omega
theorem kl5{μ:Mu}{h:AH}{w:World}(S:Sim P O μ h w){r:Option Ref}{n m size:Nat}{c:Cap}{u:Value}(hv:VRel μ (.slice r n c) u)(W:m<=n){cs:List AV}
  (y:h.getsO r (m*size)=some cs) :
  ∃us:List Value,us.length=m*size/\(Builtin.firstCells size m u).run P w=.ok us.toArray w/\VRels μ cs us/\cs.all AV.one=true:=by
 cases r with
 | none =>
  simp only[VRel]at hv;obtain⟨rfl,_,rfl⟩:=hv;simp[AH.getsO]at y;subst y;have:m=0:=by omega
  subst this;exact⟨[],by simp,by simp[Builtin.firstCells],qb,rfl⟩
 | some r =>
  simp only[VRel]at hv;obtain⟨a,G,rfl,F,z⟩:=hv;have I:n<=G:=by cases c<;>exact z.1
  simp only[AH.getsO]at y;rcases F with h0 | K
  ·have:m=0:=by omega
   subst this;simp only[Nat.zero_mul,AH.gets,qcd]at y;subst y;exact⟨[],by simp,by simp[Builtin.firstCells,loadCells,loadCellsFrom],qb,rfl⟩
  ·obtain⟨us,H,Q,U,V⟩:=kn5 S _ K y;exact⟨us,H,run_firstCells_some w size m a n G us H Q,U,V⟩
theorem kbd9(zero:Array Value)(n:Nat):(Builtin.zeroCells zero n).size=n*zero.size:=by simp[Builtin.zeroCells]
theorem Sim.drew{μ:Mu}{h:AH}{w:World}(S:Sim P O μ h w):Sim P O μ h w.drew:={old:=S.old,os:=S.os,tape:=S.tape,output:=S.output,base:=S.base,keep:=S.keep,dom:=S.dom,place:=S.place,blk:=λi L b y hb=>(S.blk i L b y hb).step (Mu.le_refl μ) (λ_=>rfl),inj:=S.inj}
theorem kbb3(need old:Nat)(elem:TypeId)(t:Nat):need<=Question.cut (.appendCap need old elem) t:=by simp[Question.cut]
theorem k9k{μ:Mu}{ts:Array TypeId}{ty t t' e f:TypeId}{w:World}{base:Option Addr}{n c m size:Nat}{ux:Value}{G H:List Value}
  (h0:ts[0]?=some t) (h1:ts[1]?=some t') (hd:P.underlying t=some (.slice e)) (ab:P.underlying t'=some (.slice f)) (hs:P.cellsOf e=size)
  (hn:(Builtin.lenOf ux).run P w=.ok m w) (U:c<n+m) (I:growOk P (n+m) e size=true)
  (ho:(Builtin.firstCells size n (.slice base n c)).run P w.drew=.ok G.toArray w.drew) (V:(Builtin.firstCells size m ux).run P w.drew=.ok H.toArray w.drew) :
  ∃(cap:Nat)(rest:List Value),n+m<=cap/\rest.length=(cap-(n+m))*size/\
   (Builtin.append_ ts ty #[.slice base n c,ux]).run P w=.ok (.slice (some ⟨w.heap.size,0,none⟩) (n+m) cap) (w.drew.alloc (.cells ((G++H)++rest).toArray e)):=by
 unfold growOk at I;simp only[qcb,qby]at I;obtain⟨⟨ac,ad⟩,hz⟩:=I;split at hz
 ·rename_i zs ae;have hz:=Nat.eq_of_beq_eq_true hz;obtain⟨z,W,K,af,ag,_⟩:=kh4 (μ:=μ) ae;have ah:z.cells.size=size:=by have:=ag.length;simp at this;omega
  have ai:P.bytesOf e=W.bytes:=by simp[Program.bytesOf,K]
  have aj:P.cellsOf e=W.size:=by simp[Program.cellsOf,K]
  have hm:ky=70368744177664:=rfl;rw[hm,ai]at ac;rw[hm]at ad;have ak:=k7v U
  have Z:¬(281474976710656<Builtin.nextslicecap (n+m) c*W.bytes):=by have:Builtin.nextslicecap (n+m) c*W.bytes<=2*(n+m)*W.bytes:=Nat.mul_le_mul_right _ ak;rw[Nat.mul_assoc]at this;omega
  have aa:¬((n:Int)+(m:Int)>IntKind.i64.max):=by have:IntKind.i64.max=9223372036854775807:=rfl;rw[this];omega
  refine⟨Question.cut (.appendCap (n+m) c e) (w.tape w.drawn (.appendCap (n+m) c e)),(Builtin.zeroCells z.cells (Question.cut (.appendCap (n+m) c e) (w.tape w.drawn (.appendCap (n+m) c e))-(n+m))).toList,kbb3 _ _ _ _,by simp[kbd9,ah],?_⟩;have Q:¬(n+m<=c):=by omega
  have y:(Question.appendCap (n+m) c e).forced=false:=rfl;rw[<- hs,aj]at ho V;have F:c<n+m:=U;simp[Builtin.append_,h0,h1,run_underlying hd,run_underlying ab,sizeOf,typeInfo,K,hn,F,Q,aa,Z,ho,V,zeroValue,af,newRow,y];rw[if_neg (by omega)];congr 3;apply Array.ext';simp
 ·cases hz
theorem kbh6{μ:Mu}{h:AH}{w:World}(S:Sim P O μ h w)(i o:Nat):Sim P O μ (h.kill (some (.new i o))) w/\Ext μ h w μ (h.kill (some (.new i o))):=by
 have y:∀j,Live (h.kill (some (.new i o))) j->Live h j/\(j=i->h.blks.size<=i):=λj H=>by
  by_cases z:i=j
  ·subst z;rcases Nat.lt_or_ge i h.blks.size with I | G
   ·exact absurd rfl (H .dead (by simp[AH.kill,I]))
   ·exact⟨λb hb=>by simp[Array.getElem?_eq_none G]at hb,λ_=>G⟩
  ·exact⟨λb hb=>H b (by simp only[AH.kill];rw[Array.getElem?_setIfInBounds_ne z];exact hb),λe=>absurd e.symm z⟩
 refine⟨{old:=S.old,os:=S.os,tape:=S.tape,output:=S.output,base:=S.base,keep:=S.keep,dom:=λj L F=>by simpa[AH.kill]using S.dom j L F,place:=S.place,blk:=λj L b F hb=>?_,inj:=λj k L M F K Q U V=>S.inj j k L M F K (y j Q).1 (y k U).1 V},?_⟩
 ·by_cases z:i=j
  ·subst z;have:=S.dom i L F;simp[AH.kill,this]at hb;subst hb;trivial
  ·simp only[AH.kill]at hb;rw[Array.getElem?_setIfInBounds_ne z]at hb;exact S.blk j L b F hb
 ·exact⟨by simp[AH.kill],Mu.le_refl μ,λ_ _=>rfl,λj _ H=>(y j H).1,λj M h1 h2=>by simp[AH.kill]at h2;omega⟩
theorem kbf8{μ:Mu}{h:AH}{w w':World}(S:Sim P O μ h w){i o:Nat}{L:Loc}(Z:μ i=some L){bs:List AV}{e:TypeId}(hb:h.blks[i]?=some (.cells bs e)){c':Array Value}{cs:List AV}
  (ab:w'.heap[L.block]?=some (.cells c' e (0,0))) (ah:c'.size=L.base+L.total) (ho:o<=L.total) (ai:cs.length<=L.total-o) (aj:∀(j:Nat)(v:AV),cs[j]?=some v->∃u,c'[L.base+o+j]?=some u/\VRel μ v u) (h1:cs.all AV.one=true)
  (K:∀b,b≠L.block->w'.heap[b]?=w.heap[b]?) (H:w'.heap.size=w.heap.size) (ak:w'.os=w.os) (aa:w'.tape=w.tape) (ac:w'.output=w.output) :
  Sim P O (Mu.set μ h.blks.size ⟨L.block,L.base+o,L.total-o⟩) ((h.kill (some (.new i o))).alloc (.cells cs e)) w'/\
  Ext μ h w (Mu.set μ h.blks.size ⟨L.block,L.base+o,L.total-o⟩) ((h.kill (some (.new i o))).alloc (.cells cs e))/\Frm μ h w w':=by
 have hi:i<h.blks.size:=S.dom i L Z
 have hf:μ h.blks.size=none:=by
  cases hq:μ h.blks.size with
  | none=>rfl
  | some L=>have:=S.dom _ _ hq;omega
 have Q:=Mu.le_set (L:=⟨L.block,L.base+o,L.total-o⟩) hf;have I:(h.kill (some (.new i o))).blks.size=h.blks.size:=by simp[AH.kill]
 have al:=S.place i L Z
 have ad:∀j b,((h.kill (some (.new i o))).alloc (.cells cs e)).blks[j]?=some b->(j=h.blks.size/\b=.cells cs e)\/(j≠h.blks.size/\j=i/\b=.dead)\/(j≠h.blks.size/\j≠i/\h.blks[j]?=some b):=λj b G=>by
  simp only[Array.getElem?_push,I]at G;by_cases F:j=h.blks.size
  ·simp[F]at G;exact .inl ⟨F,G.symm⟩
  ·rw[if_neg F]at G;by_cases U:i=j
   ·subst U;simp[AH.kill,hi]at G;exact .inr (.inl ⟨F,rfl,G.symm⟩)
   ·simp only[AH.kill]at G;rw[Array.getElem?_setIfInBounds_ne U]at G;exact .inr (.inr ⟨F,λe=>U e.symm,G⟩)
 have y:∀j,j≠h.blks.size->Live ((h.kill (some (.new i o))).alloc (.cells cs e)) j->Live h j/\j≠i:=λj F hl=>by
  have ae:j≠i:=λW=>by subst W;exact absurd rfl (hl .dead (by simp only[Array.getElem?_push,I,if_neg F];simp[AH.kill,hi]))
  refine⟨λb V=>hl b ?_,ae⟩;simp only[Array.getElem?_push,I,if_neg F];simp only[AH.kill];rw[Array.getElem?_setIfInBounds_ne (λe=>ae e.symm)];exact V
 refine⟨{old:=S.old,os:=ak.trans S.os,tape:=aa.trans S.tape,output:=ac.trans S.output,base:=by rw[H];exact S.base,keep:=λb V=>?_,dom:=λj M z=>?_,place:=λj M z=>?_,blk:=λj M b z V=>?_,inj:=λj k M N z hN lj lk W=>?_},?_,?_⟩
 ·rw[K b (by omega)];exact S.keep b V
 ·unfold Mu.set at z;split at z
  ·subst_vars;simp[I]
  ·have:=S.dom j M z;simp[I];omega
 ·unfold Mu.set at z;split at z
  ·cases z;rw[H];exact al
  ·rw[H];exact S.place j M z
 ·rcases ad j b V with⟨F,rfl⟩ | ⟨F,_,rfl⟩ | ⟨F,U,af⟩
  ·subst F;rw[kdz]at z;cases z;exact⟨⟨c',ab,by rw[ah];simp only[];omega,ai,λk v hk=>let ⟨u,a,b⟩:=aj k v hk;⟨u,a,b.mono Q⟩⟩,h1⟩
  ·trivial
  ·unfold Mu.set at z;rw[if_neg F]at z;refine(S.blk j M b z af).step Q λhd=>K _ λW=>U (S.inj j i M L z Z (λb' ag=>by rw[af]at ag;cases ag;exact hd) (kfb hb) W)
 ·unfold Mu.set at z hN;split at z<;>split at hN
  ·omega
  ·rename_i F hk;cases z;exact absurd (S.inj i k L N Z hN (kfb hb) (y k hk lk).1 W) (λe=>(y k hk lk).2 e.symm)
  ·rename_i F hk;cases hN;exact absurd (S.inj j i M L z Z (y j F lj).1 (kfb hb) W) (y j F lj).2
  ·rename_i F hk;exact S.inj j k M N z hN (y j F lj).1 (y k hk lk).1 W
 ·refine⟨by simp[I],Q,λj F=>by unfold Mu.set;rw[if_neg (by omega)],λj F hl=>(y j (by omega) hl).1,λj M h2 h3 z=>.inr ⟨i,L,hi,kfb hb,Z,?_⟩⟩;simp[I]at h3;have:j=h.blks.size:=by omega
  subst this;rw[kdz]at z;cases z;rfl
 ·exact⟨by omega,λb _ hn=>K b λW=>hn i L hi (kfb hb) Z W.symm⟩
theorem k4h{h:AH}:∀{n:Nat}{r:Ref}{vs:List AV},h.gets r n=some vs->vs.length=n
 | 0,r,vs,hv=>by simp only[AH.gets,qcd]at hv;subst hv;rfl
 | n+1,r,vs,hv=>by simp only[AH.gets,qbw,Option.map_eq_some_iff]at hv;obtain⟨v,h1,y,h2,rfl⟩:=hv;simp[k4h h2]
theorem VRel.slice_open{μ:Mu}{r:Option Ref}{n:Nat}{c:Cap}{u:Value}(h:VRel μ (.slice r n c) u):∃base cap,u=.slice base n cap/\n<=cap:=by
 cases r with
 | none=>simp only[VRel]at h;obtain⟨rfl,_,rfl⟩:=h;exact⟨none,0,rfl,qbr _⟩
 | some r=>simp only[VRel]at h;obtain⟨a,k,rfl,_,y⟩:=h;exact⟨some a,k,rfl,by cases c<;>exact y.1⟩
theorem k62{μ:Mu}{h:AH}{w:World}(S:Sim P O μ h w){y cs:List AV}{z us rest:List Value}(H:VRels μ y z)(h1:y.all AV.one=true)(I:VRels μ cs us)(h2:cs.all AV.one=true)(e:TypeId){need cap size:Nat}
  (F:need<=cap) (G:rest.length=(cap-need)*size) (V:z.length+us.length=need*size) :
  Good P O μ h w (.slice (some h.next) need (.opn size)) (h.alloc (.cells (y++cs) e)) (.slice (some ⟨w.heap.size,0,none⟩) need cap) (w.drew.alloc (.cells ((z++us)++rest).toArray e)):=by
 obtain⟨K,Q,U⟩:=kov (rest:=rest) S.drew (H.append I) (by rw[List.all_append,h1,h2];rfl) e;refine⟨_,?_,K,Q,U⟩;simp only[VRel];refine⟨_,cap,rfl,.inr (RRel.new 0),F,_,0,_,rfl,kdz _ _ _,?_⟩;have:(cap-need)*size+need*size=cap*size:=by rw[<- Nat.add_mul];congr 1;omega
 simp;omega
theorem kbqj{μ:Mu}{h:AH}{w:World}(S:Sim P O μ h w){ts:Array TypeId}{ty t t' e f:TypeId}(h0:ts[0]?=some t)(h1:ts[1]?=some t')(hd:P.underlying t=some (.slice e))(K:P.underlying t'=some (.slice f))
  (ba:(P.info? e).isSome=true) {r:Option Ref} {n:Nat} {c:Cap} {x:AV} {u ux:Value} (F:VRel μ (.slice r n c) u) (hx:VRel μ x ux) {p:List AV×Nat} (hp:kbb P e x h=some p)
  {v:AV} {h':AH} (H:kx P ⟨r,n,c⟩ p.1 p.2 e (P.cellsOf e) h=some (v,h')):Yields P (Builtin.append_ ts ty #[u,ux]) w (Good P O μ h w v h'):=by
 obtain⟨ie,hi⟩:=Option.isSome_iff_exists.1 ba;have hs:(sizeOf e).run P w=.ok (P.cellsOf e) w:=by simp[sizeOf,typeInfo,hi,Program.cellsOf]
 unfold kbb at hp;split at hp
 ·rename_i r2 m c2;simp only[Option.map_eq_some_iff]at hp;obtain⟨cs,hg,rfl⟩:=hp
  have G:(Builtin.lenOf ux).run P w=.ok m w:=by obtain⟨_,_,rfl,_⟩:=hx.slice_open;rfl
  obtain⟨z,n1,n2,n3,n4⟩:=kl5 S hx (qbr _) hg;obtain⟨bh,d1,d2,d3,d4⟩:=kl5 S.drew hx (qbr _) hg;obtain⟨base,cap,rfl,bb⟩:=F.slice_open
  have grow:∀{h2:AH},Sim P O μ h2 w->cap<n+m->growOk P (n+m) e (P.cellsOf e)=true->∀{old:List AV},h.getsO r (n*P.cellsOf e)=some old->
    Yields P (Builtin.append_ ts ty #[.slice base n cap,ux]) w (Good P O μ h2 w (.slice (some h2.next) (n+m) (.opn (P.cellsOf e))) (h2.alloc (.cells (old++cs) e))):=by
   intro h2 S2 Q W old y;obtain⟨an,o1,o2,o3,o4⟩:=kl5 S.drew F (qbr _) y;obtain⟨bi,rest,k1,k2,k3⟩:=k9k (μ:=μ) (ty:=ty) h0 h1 hd K rfl G Q W o2 d2;exact⟨_,_,k3,k62 S2 o3 o4 d3 d4 e k1 k2 (by rw[o1,d1,Nat.add_mul])⟩
  unfold kx at H;dsimp only at H;split at H
  ·rename_i c';rcases kb5 H with⟨hb,H⟩ | ⟨hb,H⟩
   ·
    have hb:=Nat.le_of_ble_eq_true hb;cases r with
    | none =>
     simp only[qcd,qce]at H;obtain⟨rfl,rfl⟩:=H;simp only[VRel]at F;obtain⟨rfl,h2,h3⟩:=F;cases h2;cases h3;have:m=0:=by omega
     subst this;refine⟨_,_,?_,qd S (u:=.slice none 0 0) (by simp[VRel])⟩;simp[Builtin.append_,h0,h1,run_underlying hd,run_underlying K,hs,G,n2]
    | some r =>
     simp only[qbw,qcd,qce]at H;obtain⟨h2,af,rfl,rfl⟩:=H;simp only[VRel]at F;obtain⟨a,k,he,ag,bc,rfl⟩:=F;cases he;rcases ag with ao | ad
     ·have ah:m=0:=by omega
      have bd:n=0:=by omega
      subst ah;subst bd;subst ao;have Z:z=[]:=List.eq_nil_of_length_eq_zero (by omega);subst Z
      have be:cs=[]:=by have:=n3.length;exact List.eq_nil_of_length_eq_zero this.symm
      subst be;simp only[AH.puts,qcd]at af;subst af;refine⟨.slice (some a) 0 0,w,?_,qd S (by simp only[VRel];exact⟨a,0,rfl,.inl rfl,qbr _,rfl⟩)⟩;simp[Builtin.append_,h0,h1,run_underlying hd,run_underlying K,hs,G,n2,storeCells]
     ·obtain⟨w',e1,e2,e3,e4⟩:=kos (i:=0) (a:=a.add (n*P.cellsOf e)) S (by rw[show(a.add (n*P.cellsOf e)).add 0=a.add (n*P.cellsOf e)from by simp[Addr.add]];exact ad.add (n*P.cellsOf e)) n3 n4 af;refine⟨.slice (some a) (n+m) cap,w',?_,μ,by simp only[VRel];exact⟨a,cap,rfl,.inr ad,hb,rfl⟩,e2,e3,e4⟩;simp[Builtin.append_,h0,h1,run_underlying hd,run_underlying K,hs,G,n2,hb,e1]
   ·obtain⟨W,H⟩:=kr H;simp only[qbw,qcd,qce]at H;obtain⟨old,y,rfl,rfl⟩:=H
    have Q:cap<n+m:=by
     have ap:cap=c':=by
      cases r with
      | none=>simp only[VRel]at F;obtain⟨_,h2,h3⟩:=F;cases h2;cases h3;rfl
      | some r=>simp only[VRel]at F;obtain⟨a,k,he,_,_,hk⟩:=F;cases he;exact hk
     subst ap;rcases Nat.lt_or_ge cap (n+m)with h' | h'
     ·exact h'
     ·rw[Nat.ble_eq_true_of_le h']at hb;cases hb
    exact grow S Q W y
  ·rename_i sz;rcases kb5 H with⟨hb,aa⟩ | ⟨hb,aa⟩
   ·have ah:=Nat.eq_of_beq_eq_true hb;subst ah;simp only[qcd,qce]at aa;obtain⟨rfl,rfl⟩:=aa;have Z:z=[]:=List.eq_nil_of_length_eq_zero (by omega);subst Z;refine⟨.slice base n cap,w,?_,qd S F⟩;cases base<;>simp[Builtin.append_,h0,h1,run_underlying hd,run_underlying K,hs,G,n2,storeCells,bb]
   ·obtain⟨ae,U⟩:=kr aa;simp only[qcb]at ae;obtain⟨ai,W⟩:=ae;have ai:=Nat.eq_of_beq_eq_true ai;clear H aa;subst ai;split at U
    ·rename_i i o;split at U
     ·rename_i bs e' aq;obtain⟨ar,au⟩:=kr U;have aw:=Nat.eq_of_beq_eq_true ar;clear U ar;subst aw;simp only[qbw,qcd,qce]at au;obtain⟨old,y,rfl,rfl⟩:=au;obtain⟨S2,E2⟩:=kbh6 S i o;have aj:(h.kill (some (.new i o))).blks.size=h.blks.size:=by simp[AH.kill]
      have ak:(h.kill (some (.new i o))).next=h.next:=by simp[AH.next,aj]
      rcases Nat.lt_or_ge cap (n+m)with Q | al
      ·obtain⟨u',w',g1,ν,g2,g3,g4,g5⟩:=grow S2 Q W y;rw[ak]at g2;refine⟨u',w',g1,ν,g2,g3,E2.trans g4 (qbr _),?_⟩;exact⟨g5.1,λb am hn=>g5.2 b am λj M V hl hM=>hn j M (by rw[aj]at V;exact V) (E2.2.2.2.1 j (by rw[aj]at V;exact V) hl) hM⟩
      ·
       simp only[VRel]at F;obtain⟨a,k,he,ag,bc,i',o',L,bf,hL,bj⟩:=F;cases he;cases bf;simp only[AH.getsO]at y
       have bn:0<n+m:=by
        rcases Nat.eq_zero_or_pos m with h' | h'
        ·subst h';simp at hb
        ·omega
       rcases ag with ao | ad
       ·omega
       ·obtain⟨L',ax,rfl⟩:=ad;rw[hL]at ax;cases ax;obtain⟨an,o1,o2,o3,o4⟩:=kn5 S _ (r:=.new i o) ⟨L,hL,rfl⟩ y;obtain⟨⟨cc,c1,c2,c3,c4⟩,c5⟩:=S.blk i L _ hL aq;have ay:(n+m)*P.cellsOf e'<=cap*P.cellsOf e':=Nat.mul_le_mul_right _ al;rw[Nat.add_mul]at ay
        have az:=run_storeCells_at P L.block (L.base+o+n*P.cellsOf e') e' z 0 cc w c1 (by omega) (λv hv=>by
         obtain⟨j,V⟩:=List.mem_iff_getElem?.1 hv
         have ab:j<cs.length:=by
          have:=n3.length;rcases Nat.lt_or_ge j cs.length with h' | h'
          ·exact h'
          ·rw[List.getElem?_eq_none (by omega)]at V;cases V
         obtain⟨u,F,ac⟩:=n3.get j cs[j] (by simp[ab]);rw[V]at F;cases F;exact ac.one (List.all_eq_true.1 n4 _ (by simp)))
        have bg:old.length=n*P.cellsOf e':=k4h y;have bk:cs.length=m*P.cellsOf e':=by have:=n3.length;omega
        simp only[Nat.add_zero]at az
        obtain⟨g1,g2,g3⟩:=kbf8 (o:=o) (w':=w.setRow L.block (cc.toList.take (L.base+o+n*P.cellsOf e')++z++cc.toList.drop (L.base+o+n*P.cellsOf e'+z.length)).toArray) S hL aq
         (cs:=old++cs) (setRow_heap w _ cc _ e' (0,0) c1) (by simp;omega) (by omega) (by simp;omega) (λj v V=>by
          rcases Nat.lt_or_ge j old.length with ab | ab
          ·rw[List.getElem?_append_left ab]at V;obtain⟨u,F,ac⟩:=o3.get j v V;have I:=o2 j u F;rw[kug]at I;simp only[World.cell?,c1]at I;refine⟨u,?_,ac⟩;simp only[List.getElem?_toArray];rw[List.append_assoc,List.getElem?_append_left (by simp;omega),List.getElem?_take];rw[if_pos (by omega)]
           simpa using I
          ·rw[List.getElem?_append_right ab]at V;obtain⟨u,F,ac⟩:=n3.get _ v V;refine⟨u,?_,ac⟩;simp only[List.getElem?_toArray]
           have Q:j-old.length<z.length:=by
            rcases Nat.lt_or_ge (j-old.length) z.length with h' | h'
            ·exact h'
            ·rw[List.getElem?_eq_none h']at F;cases F
           rw[List.append_assoc,List.getElem?_append_right (by simp;omega),List.getElem?_append_left (by simp;omega)];rw[<- F];congr 1;simp;omega) (by rw[List.all_append,o4,n4];rfl) (λb am=>setRow_other w _ b _ am) (by simp) rfl rfl rfl
        refine⟨.slice (some ⟨L.block,L.base+o,none⟩) (n+m) cap,_,?_,_,?_,g1,g2,g3⟩
        ·have a0:(⟨L.block,L.base+o,none⟩:Addr).add (n*P.cellsOf e')=⟨L.block,L.base+o+n*P.cellsOf e',none⟩:=kug _ _ _;simp[Builtin.append_,h0,h1,run_underlying hd,run_underlying K,hs,G,n2,al,a0,az]
        ·simp only[VRel];refine⟨_,cap,rfl,.inr (RRel.new (L:=⟨L.block,L.base+o,L.total-o⟩) 0),al,_,0,_,rfl,kdz _ _ _,?_⟩;simp only[];omega
     ·cases U
    ·cases U
 ·cases hp
end Go.Ab

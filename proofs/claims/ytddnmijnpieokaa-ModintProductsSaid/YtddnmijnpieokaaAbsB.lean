/- The abstract interpreter: operations, calls, code. -/
import Derived.Test.YtddnmijnpieokaaAbsA
set_option linter.unusedVariables false
namespace Go.Ab

/-- What there is to work out: a call, the rest of a call from a place on, a round of a loop over a function. -/
inductive Key where
  | fn (f : FuncId) (args : List AV)
  | pt (f : FuncId) (todo : List Item) (fr : Fr)
  | round (l : Nat) (args : List AV)

abbrev Rec := Key → AH → Option (AV × AH)

section
variable {R : Type}

def imin (a b : Int) : Int := cond (decide (b < a)) b a
def imax (a b : Int) : Int := cond (decide (a < b)) b a

/-- The functions without a text. -/
def prim (name : String) (args : List AV) : Option AV :=
  match args with
  | [.int _ x, .int _ y, .int _ c] =>
    cond (name == "math/bits.Add64")
      (cond (decide (0 ≤ x ∧ 0 ≤ y ∧ 0 ≤ c ∧ c ≤ 1)) (some (.tup [.int .u64 ((x + y + c) % 18446744073709551616), .int .u64 ((x + y + c) / 18446744073709551616)])) none)
      (cond (name == "math/bits.Sub64")
        (cond (decide (0 ≤ x ∧ 0 ≤ y ∧ y < 18446744073709551616 ∧ 0 ≤ c ∧ c ≤ 1)) (some (.tup [.int .u64 ((x - y - c) % 18446744073709551616), .int .u64 (cond (decide (x < y + c)) 1 0)])) none) none)
  | _ => none

/-- A call of a function by its number. -/
def callF (P : Program) (rec : Rec) (f : FuncId) (args : List AV) (h : AH) : Option (AV × AH) :=
  match P.funcs[f]? with
  | some fn => cond (fn.name == "runtime.NumGoroutine") none (match fn.body with
    | some _ => rec (.fn f args) h
    | none => cond (fn.origin == "") ((prim fn.name args).map fun v => (v, h)) none)
  | none => none

/-- A call of a function value. -/
def callV (P : Program) (rec : Rec) (v : AV) (args : List AV) (h : AH) : Option (AV × AH) :=
  match v with
  | .func (.func f) first captured => callF P rec f (first ++ args ++ captured) h
  | _ => none

def lenK (P : Program) (t : TypeId) (x : AV) (k : AV → Option R) : Option R :=
  match P.underlying t, x with
  | some .string, .str s => k (.int .i64 (s.size : Int))
  | some (.array n _), _ => k (.int .i64 (n : Int))
  | some (.slice _), .slice _ n _ => k (.int .i64 (n : Int))
  | _, _ => none

def appendArgs (P : Program) (elem : TypeId) (x : AV) (h : AH) : Option (List AV × Nat) :=
  match x with
  | .slice r n _ => (h.getsO r (n * P.cellsOf elem)).map fun cs => (cs, n)
  | _ => none

def copyH (s : Sl) (d : Sl) (size : Nat) (h : AH) : Option AH :=
  match d.ref, s.ref with
  | some rd, some rs => (h.gets rs (min s.len d.len * size)).bind fun cs => h.puts rd cs
  | _, _ => some h

def builtinK (P : Program) (b : Builtin) (ts : List TypeId) (xs : List AV) (h : AH) (k : AV → AH → Option R) : Option R :=
  match b, ts, xs with
  | .len, t :: _, [x] => lenK P t x fun v => k v h
  | .min, _, [.int kd a, .int _ b] => k (.int kd (imin a b)) h
  | .max, _, [.int kd a, .int _ b] => k (.int kd (imax a b)) h
  | .append, t :: u :: _, [.slice r n c, x] => match P.underlying t, P.underlying u with
    | some (.slice e), some (.slice _) => cond (P.info? e).isSome ((appendArgs P e x h).bind fun p =>
        (appendH P ⟨r, n, c⟩ p.1 p.2 e (P.cellsOf e) h).bind fun q => leafK .slice (some q.1) fun v => k v q.2) none
    | _, _ => none
  | .copy, t :: _, [.slice r n c, .slice r' n' c'] => match P.underlying t with
    | some (.slice e) => cond (P.info? e).isSome ((copyH ⟨r', n', c'⟩ ⟨r, n, c⟩ (P.cellsOf e) h).bind fun h' => k (.int .i64 ((min n' n : Nat) : Int)) h') none
    | _ => none
  | _, _, _ => none

def callK (P : Program) (rec : Rec) (c : Call) (ty : TypeId) (fr : Fr) (h : AH) (k : AV → AH → Option R) : Option R :=
  match evs fr c.args.toList with
  | none => none
  | some xs => match c.callee with
    | .builtin b => builtinK P b c.argTypes.toList xs h k
    | .value f => match evO fr f with
      | some v => (callV P rec v xs h).bind fun q => answerK P ty q.1 fun v => k v q.2
      | none => none
    | .invoke _ _ => none

def boundK (fr : Fr) (x : Option Operand) (dflt : Int) (k : Int → Option R) : Option R :=
  match x with
  | none => k dflt
  | some o => match evO fr o with
    | some (.int _ n) => k n
    | _ => none

def sliceK (P : Program) (t : TypeId) (x : AV) (fr : Fr) (lo hi mx : Option Operand) (k : AV → Option R) : Option R :=
  match P.underlying t, x with
  | some (.slice e), .slice r n c => boundK fr lo 0 fun l => boundK fr hi (n : Int) fun hh => match mx with
    | none => cond (P.info? e).isSome ((cutSl ⟨r, n, c⟩ l hh (P.cellsOf e)).bind fun s => k s.v) none
    | some m => cond ((P.info? e).isSome && hi.isSome) (boundK fr (some m) 0 fun mm => (cutSl3 ⟨r, n, c⟩ l hh mm (P.cellsOf e)).bind fun s => k s.v) none
  | some (.array n e), .ptr (some r) => boundK fr lo 0 fun l => boundK fr hi (n : Int) fun hh => match mx with
    | none => cond (P.info? e).isSome ((cutSl ⟨some r, n, .is n⟩ l hh (P.cellsOf e)).bind fun s => k s.v) none
    | some _ => none
  | some .string, .str s => boundK fr lo 0 fun l => boundK fr hi (s.size : Int) fun hh => match mx with
    | none => cond (decide (0 ≤ l ∧ l ≤ hh ∧ hh ≤ (s.size : Int))) (k (.str (s.extract l.toNat hh.toNat))) none
    | some _ => none
  | _, _ => none

def convertK (P : Program) (src dst : TypeId) (x : AV) (k : AV → Option R) : Option R :=
  match P.underlying src, P.underlying dst, x with
  | some (.int _), some (.int kd), .int _ n => k (.int kd (kd.wrap n))
  | some .string, some .string, .str s => k (.str s)
  | _, _, _ => none

def fieldOf (P : Program) (t : TypeId) (f : Nat) : Option Field :=
  match P.underlying t with
  | some (.struct fs) => fs.toList[f]?
  | _ => none

def fieldPlaces (P : Program) (fs : Array Field) : Option (List (Nat × Nat)) := fs.toList.mapM fun f => (P.info? f.type).map fun i => (f.offset, i.size)

def makeSliceH (l c : Int) (elem : TypeId) (bytes : Nat) (zs : List AV) (h : AH) : Option (Sl × AH) :=
  cond (decide (0 ≤ l ∧ l ≤ c ∧ c ≤ (mostBytes : Int) ∧ c * bytes ≤ (mostBytes : Int))) (some (⟨some h.next, l.toNat, .is c.toNat⟩, h.alloc (.cells (repC zs c.toNat) elem))) none

/-- An operation that calls nothing. -/
def opK (P : Program) (rec : Rec) (o : Op) (ty : TypeId) (fr : Fr) (h : AH) (k : AV → AH → Option R) : Option R :=
  match o with
  | .move x | .assign x => (evO fr x).bind fun v => k v h
  | .pick c a b => match evO fr c with
    | some (.bool t) => cond t ((evO fr a).bind fun v => k v h) ((evO fr b).bind fun v => k v h)
    | _ => none
  | .alloc t => match zeroCells? P t with
    | some zs => k (.ptr (some h.next)) (h.alloc (.cells zs t))
    | none => none
  | .box t x => (evO fr x).bind fun v => cellsK P t v fun cs => k (.ptr (some h.next)) (h.alloc (.cells cs t))
  | .build t parts => match evs fr (parts.toList.map (·.2)), zeroCells? P t, P.underlying t with
    | some vs, some zs, some (.struct fs) => cond (fieldPlaces P fs).isSome (fillK P (fun i => (fs.toList[i]?).map fun f => (f.offset, f.type)) ((parts.toList.map (·.1)).zip vs) zs fun cs => k (.agg cs) h) none
    | some vs, some zs, some (.array _ e) => cond (P.info? e).isSome (fillK P (fun i => some (i * P.cellsOf e, e)) ((parts.toList.map (·.1)).zip vs) zs fun cs => k (.agg cs) h) none
    | _, _, _ => none
  | .buildSlice t n parts => match evs fr (parts.toList.map (·.2)), P.underlying t with
    | some vs, some (.slice e) => match zeroCells? P e with
      | some zs => cond (Nat.ble (n * P.cellsOf e) 16777216 && Nat.beq zs.length (P.cellsOf e))
          (fillK P (fun i => some (i * P.cellsOf e, e)) ((parts.toList.map (·.1)).zip vs) (repC zs n) fun cs => k (.slice (some h.next) n (.is n)) (h.alloc (.cells cs e))) none
      | none => none
    | _, _ => none
  | .load t a => match evO fr a with
    | some (.ptr (some r)) => loadK P t r h fun v => k v h
    | some (.ptr none) => none
    | _ => none
  | .store t a x => match evO fr a, evO fr x with
    | some (.ptr p), some v => cellsK P t v fun cs => p.bind fun r => (h.puts r cs).bind fun h' => k (.tup []) h'
    | _, _ => none
  | .nilCheck x => match evO fr x with
    | some (.ptr p) => p.bind fun r => k (.ptr (some r)) h
    | some (.func (.func f) a b) => k (.func (.func f) a b) h
    | _ => none
  | .binOp op t x y _ => match evO fr x, evO fr y with
    | some a, some b => binK P op t a b fun v => k v h
    | _, _ => none
  | .unOp op _ x => match evO fr x with
    | some a => unK op a fun v => k v h
    | none => none
  | .convert s d x => match evO fr x with
    | some a => convertK P s d a fun v => k v h
    | none => none
  | .makeFunc f first captured => match evs fr first.toList, evs fr captured.toList, f with
    | some a, some b, .func g => k (.func (.func g) a b) h
    | _, _, _ => none
  | .makeSlice t l c => match evO fr l, evO fr c, P.underlying t with
    | some (.int _ l), some (.int _ c), some (.slice e) => match zeroCells? P e with
      | some zs => cond (Nat.beq zs.length (P.cellsOf e)) ((makeSliceH l c e (P.bytesOf e) zs h).bind fun q => k q.1.v q.2) none
      | none => none
    | _, _, _ => none
  | .slice t x lo hi mx => match evO fr x with
    | some a => sliceK P t a fr lo hi mx fun v => k v h
    | none => none
  | .fieldAddr s x f => match evO fr x, fieldOf P s f with
    | some (.ptr p), some fd => cond (Nat.beq (P.cellsOf fd.type) 0) none (p.bind fun r => k (.ptr (some (r.add fd.offset))) h)
    | _, _ => none
  | .field t x f => match evO fr x, fieldOf P t f with
    | some (.agg cs), some fd => (partA P fd.type cs fd.offset).bind fun v => k v h
    | _, _ => none
  | .indexAddr t x i => match evO fr x, evO fr i, P.underlying t with
    | some (.slice r n _), some (.int _ j), some (.slice e) => cond (P.info? e).isSome ((idx r n j (P.cellsOf e)).bind fun q => k (.ptr (some q)) h) none
    | some (.ptr r), some (.int _ j), some (.array n e) => cond (P.info? e).isSome ((idx r n j (P.cellsOf e)).bind fun q => k (.ptr (some q)) h) none
    | _, _, _ => none
  | .index t x i => match evO fr x, evO fr i, P.underlying t with
    | some (.agg cs), some (.int _ j), some (.array n e) => cond (decide (0 ≤ j ∧ j < (n : Int))) ((partA P e cs (j.toNat * P.cellsOf e)).bind fun v => k v h) none
    | some (.str s), some (.int _ j), some .string => cond (decide (0 ≤ j)) ((s[j.toNat]?).bind fun b => k (.int .u8 (b.toNat : Int)) h) none
    | _, _, _ => none
  | .extract x i => match evO fr x with
    | some (.tup vs) => (vs[i]?).bind fun v => k v h
    | _ => none
  | .call c => callK P rec c ty fr h k
  | _ => none
end

/-! ### Code -/
/-- At which regions what is known is cut down to some slots: of function f, region r. -/
abbrev Keep := FuncId → Nat → Option (List Nat)

def putT {R : Type} (n : Nat) (d : Option Tmp) (v : AV) (fr : Fr) (k : Fr → Option R) : Option R :=
  match d with
  | none => k fr
  | some t => cond (Nat.blt t n) (k ((t, v) :: fr)) none

/-- Operations of a region, in order. -/
def opsK {R : Type} (P : Program) (rec : Rec) (N : Nat) (ops : Array Oper) : List Nat → Fr → AH → (Fr → AH → Option R) → Option R
  | [], fr, h, k => k fr h
  | i :: is, fr, h, k => match ops[i]? with
    | none => none
    | some o =>
      let go := fun fr => opK P rec o.op o.type fr h fun v h' => putT N o.dst v fr fun fr' => opsK P rec N ops is fr' h' k
      let skip := fun fr => putT N o.dst (.tup []) fr fun fr' => opsK P rec N ops is fr' h k
      match o.guard with
      | none => go fr
      | some (j, b) => match ((ops[j]?).bind (·.dst)) with
        | none => none
        | some t => match fr.get t with
          | some (.bool c) => cond c
              (cond b (go ((t, .bool true) :: fr)) (skip ((t, .bool true) :: fr)))
              (cond b (skip ((t, .bool false) :: fr)) (go ((t, .bool false) :: fr)))
          | some (.tup []) => skip fr
          | _ => none

/-! ### A region whose order is left open -/
/-- What has been read and may be read later: at which place in the region, from where, how many cells. -/
structure Look where
  at_ : Nat
  ref : Ref
  size : Nat

/-- Operations that change nothing. -/
def nonEff : Op → Bool
  | .move _ | .assign _ | .pick _ _ _ | .build _ _ | .load _ _ | .nilCheck _ | .binOp _ _ _ _ _ | .unOp _ _ _ | .convert _ _ _ | .makeFunc _ _ _
  | .slice _ _ _ _ _ | .fieldAddr _ _ _ | .field _ _ _ | .indexAddr _ _ _ | .index _ _ _ | .extract _ _ => true
  | .call c => match c.callee with
    | .builtin .len | .builtin .min | .builtin .max => true
    | _ => false
  | _ => false

/-- What an operation reads. -/
def looksOf (P : Program) (i : Nat) (o : Op) (fr : Fr) : List Look :=
  match o with
  | .load t a => match evO fr a with
    | some (.ptr (some r)) => match P.underlying t with
      | some d => [⟨i, r, cond (isAggD d) (P.cellsOf t) 1⟩]
      | none => []
    | _ => []
  | _ => []

def SameAt (h h' : AH) (r : Ref) (n : Nat) : Prop := ∀ j, j < n → h'.cell (r.add j) = h.cell (r.add j)

open Classical in
noncomputable def whenK {R : Type} (p : Prop) (x : Option R) : Option R := if p then x else none

noncomputable def checkP {R : Type} (m : Nat) (h h' : AH) (x : Option R) : List Look → Option R
  | [] => x
  | p :: ps => cond (m.testBit p.at_) (checkP m h h' x ps) (whenK (SameAt h h' p.ref p.size) (checkP m h h' x ps))

def depsOf (o : Oper) : Nat := o.after.toList.foldl (fun m e => cond (Region.binds .any e) (m ||| 1 <<< e.on) m) 0
def orBits (d : Nat) : List Nat → Nat → Nat
  | [], _ => 0
  | a :: as, i => cond (d.testBit i) (a ||| orBits d as (i + 1)) (orBits d as (i + 1))
def ancsOf : List Nat → List Nat → List Nat
  | acc, [] => acc
  | acc, d :: ds => ancsOf (acc ++ [d ||| orBits d acc 0]) ds

def readyB (deps : List Nat) (m i : Nat) : Bool := match deps[i]? with
  | some d => Nat.beq (d &&& m) d && !m.testBit i
  | none => false
/-- Nothing else can come now. -/
def onlyB (n : Nat) (deps : List Nat) (m i : Nat) : Bool := (List.range n).all fun j => Nat.beq j i || !readyB deps m j
/-- It touches no slot of what may come ahead of it. -/
def freeB (ops : Array Oper) (deps : List Nat) (m i : Nat) (o : Oper) : Bool := (List.range ops.size).all fun j =>
  Nat.beq j i || m.testBit j || (match deps[j]? with | some d => d.testBit i | none => false) || (match ops[j]? with | some oj => o.apart ops oj | none => false)

noncomputable def opsD {R : Type} (P : Program) (rec : Rec) (N : Nat) (ops : Array Oper) (deps ancs : List Nat) : List Nat → Nat → List Look → Fr → AH → (Fr → AH → Option R) → Option R
  | [], m, _, fr, h, k => cond (Nat.beq m (2 ^ ops.size - 1)) (k fr h) none
  | i :: c, m, ps, fr, h, k => match ops[i]?, ancs[i]? with
    | some o, some an => cond (readyB deps m i)
      (cond (nonEff o.op)
        (cond (freeB ops deps m i o) (opsK P rec N ops [i] fr h fun fr' h' => opsD P rec N ops deps ancs c (m ||| 1 <<< i) (looksOf P i o.op fr ++ ps) fr' h' k) none)
        (cond (onlyB ops.size deps m i) (opsK P rec N ops [i] fr h fun fr' h' => checkP an h h' (opsD P rec N ops deps ancs c (m ||| 1 <<< i) ps fr' h' k) ps) none)) none
    | _, _ => none

noncomputable def drawK {R : Type} (P : Program) (rec : Rec) (N : Nat) (ops : Array Oper) (order : List Nat) (fr : Fr) (h : AH) (k : Fr → AH → Option R) : Option R :=
  cond (Nat.beq order.length ops.size) (opsD P rec N ops (ops.toList.map depsOf) (ancsOf [] (ops.toList.map depsOf)) order 0 [] fr h k) none

def resK (P : Program) (fr : Fr) (h : AH) : List ResultVar → (List AV → Option (AV × AH)) → Option (AV × AH)
  | [], k => k []
  | .tmp t :: rs, k => (fr.get t).bind fun v => resK P fr h rs fun vs => k (v :: vs)
  | .cell a t :: rs, k => match fr.get a with
    | some (.ptr (some r)) => loadK P t r h fun v => resK P fr h rs fun vs => k (v :: vs)
    | _ => none

def resultsA (P : Program) (fn : Func) (fr : Fr) (h : AH) : Option (AV × AH) :=
  resK P fr h fn.results.toList fun vs => match vs with
    | [v] => some (v, h)
    | vs => some (.tup vs, h)

/-- The slots that a test has settled. -/
def learn (c : Operand) (b : Bool) (fr : Fr) : Fr :=
  match c with
  | .tmp t => (t, .bool b) :: fr
  | _ => fr

/-- In which order a region is gone through. -/
def orderOf (K : Keep) (f : FuncId) (id n : Nat) : List Nat := match K f (1000000 + id) with
  | some l => l
  | none => List.range n

noncomputable def execA (P : Program) (K : Keep) (rec : Rec) (f : FuncId) (fn : Func) : Nat → Bool → List Item → Fr → AH → Option (AV × AH)
  | 0, _, _, _, _ => none
  | n + 1, fresh, todo, fr, h => match todo with
    | [] => resultsA P fn fr h
    | .code .ret :: _ => resultsA P fn fr h
    | .code .skip :: k => execA P K rec f fn n fresh k fr h
    | .code (.label _) :: k => execA P K rec f fn n fresh k fr h
    | .inBlock _ :: k => execA P K rec f fn n fresh k fr h
    | .inScope _ :: k => execA P K rec f fn n fresh k fr h
    | .code (.seq a b) :: k => execA P K rec f fn n fresh (.code a :: .code b :: k) fr h
    | .code (.cond c a b) :: k => match evO fr c with
      | some (.bool t) => cond t (execA P K rec f fn n fresh (.code a :: k) (learn c true fr) h) (execA P K rec f fn n fresh (.code b :: k) (learn c false fr) h)
      | _ => none
    | .code (.block id body) :: k => execA P K rec f fn n fresh (.code body :: .inBlock id :: k) fr h
    | .code (.loop body) :: k => execA P K rec f fn n fresh (.code body :: .inLoop body :: k) fr h
    | .inLoop body :: k => execA P K rec f fn n fresh (.code body :: .inLoop body :: k) fr h
    | .code (.scope body) :: k => execA P K rec f fn n fresh (.code body :: .inScope body :: k) fr h
    | .code (.exit id) :: k => match exitTo id k with
      | some k' => execA P K rec f fn n fresh k' fr h
      | none => none
    | .code (.goto l) :: k => match gotoIn l k with
      | some k' => execA P K rec f fn n fresh k' fr h
      | none => none
    | .code (.region id ops draw) :: k =>
      cond fresh
        (cond draw (drawK P rec fn.ntmps ops (orderOf K f id ops.size) fr h fun fr' h' => execA P K rec f fn n false k fr' h') (opsK P rec fn.ntmps ops (List.range ops.size) fr h fun fr' h' => execA P K rec f fn n false k fr' h'))
        (match K f id with
         | some L => rec (.pt f todo (fr.keep L)) h
         | none => cond draw (drawK P rec fn.ntmps ops (orderOf K f id ops.size) fr h fun fr' h' => execA P K rec f fn n false k fr' h') (opsK P rec fn.ntmps ops (List.range ops.size) fr h fun fr' h' => execA P K rec f fn n false k fr' h'))
    | _ => none

def numbered : Nat → List AV → Fr
  | _, [] => []
  | i, v :: vs => (i, v) :: numbered (i + 1) vs

noncomputable def stepA (P : Program) (K : Keep) (rec : Rec) (key : Key) (h : AH) : Option (AV × AH) :=
  match key with
  | .fn f args => match P.funcs[f]? with
    | some fn => match fn.body with
      | some c => cond (Nat.ble args.length fn.ntmps) (execA P K rec f fn 4000 false [.code c] (numbered 0 args) h) none
      | none => none
    | none => none
  | .pt f todo fr => match P.funcs[f]? with
    | some fn => execA P K rec f fn 4000 true todo fr h
    | none => none
  | .round _ _ => none

noncomputable def runF (P : Program) (K : Keep) : Nat → Rec
  | 0 => fun _ _ => none
  | n + 1 => stepA P K (runF P K n)

open Classical in
/-- What comes out. -/
noncomputable def run (P : Program) (K : Keep) : Rec := fun key h =>
  if hh : ∃ n r, runF P K n key h = some r then some (Classical.choose (Classical.choose_spec hh)) else none

end Go.Ab

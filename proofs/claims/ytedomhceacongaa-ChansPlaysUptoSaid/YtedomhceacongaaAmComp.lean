/-
  AM, part 7: how the model's code becomes the machine's.
-/
import Derived.Test.YtedomhceacongaaAmIR
namespace Go.AM
set_option linter.unusedVariables false

/-- One operand, twice. -/
def sameOpd : Operand → Operand → Bool
  | .tmp a, .tmp b => a == b
  | .const (.int k a), .const (.int q b) => decide (k = q ∧ a = b)
  | _, _ => false

section
variable (P : Program)
def cOpd : Operand → Option AOpd
  | .tmp t => some (.tmp t)
  | .const v => (ofVal v).map .val
  | .global g => if g < P.globals.size then some (.glob g) else none
  | .func f => some (.fnv f)
def cOpds : List Operand → Option (List AOpd)
  | [] => some []
  | x :: xs => (cOpd P x).bind fun a => (cOpds xs).map (a :: ·)
def cOpt : Option Operand → Option (Option AOpd)
  | none => some none
  | some x => (cOpd P x).map some

def isAggT (t : TypeId) : Option Bool := (P.underlying t).map fun d => match d with | .struct _ | .array _ _ => true | _ => false
def sizeT (t : TypeId) : Option Nat := (P.info? t).map (·.size)
/-- How many cells, if it is a struct or an array. -/
def aggN (t : TypeId) : Option (Option Nat) := (isAggT P t).bind fun b => if b then (sizeT P t).map some else some none
def zeroT (t : TypeId) : Option AVal := (P.info? t).bind fun i => i.zero.bind ofZero
def elemT (t : TypeId) : Option TypeId := match P.underlying t with | some (.slice e) => some e | _ => none
/-- An element: its cells, its bytes, its zero. -/
def eInfo (e : TypeId) : Option (Nat × Nat × List AVal) := (P.info? e).bind fun i => i.zero.bind fun z => (ofZero z).bind fun a =>
  if 0 < i.size ∧ 0 < i.bytes ∧ i.bytes ≤ 65536 ∧ z.cells.size = i.size then some (i.size, i.bytes, a.cells) else none
def litK (t : TypeId) : Option LK := match P.underlying t with | some (.int _) => some .int | some .bool => some .bool | some .string => some .str | _ => none
def flatFields : List Field → Nat → Option (List LK)
  | [], _ => some []
  | f :: fs, k => if f.name != "_" && f.offset == k then (litK P f.type).bind fun l => (flatFields fs (k + 1)).map (l :: ·) else none
def eqK (t : TypeId) : Option EqK := match P.underlying t with
  | some .bool => some .bool
  | some (.pointer _) => some .ptr
  | some (.slice _) => some .slice
  | some (.map _ _) => some .map
  | some (.func _ _ _) => some .func
  | some (.interface _) => some .iface
  | some (.struct fs) => if !P.stoodInHeld t && !P.eqGuardType P.depth t then (flatFields P fs.toList 0).map .flat else none
  | some (.array n e) => if sizeT P e == some 1 && !P.eqGuardType P.depth t then (litK P e).map fun l => .flat (List.replicate n l) else none
  | _ => none
def mapK (t : TypeId) : Option LK := match P.underlying t with
  | some (.map kt _) => match litK P kt with
    | some .int => some .int
    | some .str => some .str
    | _ => none
  | _ => none
def structField (t : TypeId) (i : Nat) : Option Field := match P.underlying t with | some (.struct fs) => fs[i]? | _ => none

def placesOf (fs : List Field) : Option (List (Nat × Nat)) := match fs with
  | [] => some []
  | f :: fs => (sizeT P f.type).bind fun s => (placesOf fs).map ((f.offset, s) :: ·)
def cParts (pl : Nat → Option (Nat × Nat)) : List (Nat × Operand) → Option (List (Nat × Nat × AOpd))
  | [] => some []
  | (i, x) :: r => (pl i).bind fun (o, s) => (cOpd P x).bind fun a => (cParts pl r).map ((o, s, a) :: ·)
def cPartsS : List (Nat × Operand) → Option (List (Nat × AOpd))
  | [] => some []
  | (i, x) :: r => (cOpd P x).bind fun a => (cPartsS r).map ((i, a) :: ·)

def cCallee : Callee → Option AOpd
  | .value f => cOpd P f
  | _ => none

def cOp : Op → Option AOp
  | .move x | .assign x => (cOpd P x).map .mov
  | .pick c a b => (cOpd P c).bind fun c => (cOpd P a).bind fun a => (cOpd P b).map fun b => .pick c a b
  | .alloc t => (zeroT P t).map fun z => .alloc z.cells
  | .box _ x => (cOpd P x).map .box
  | .build t ps => (zeroT P t).bind fun z => match z with
    | .agg zs => match P.underlying t with
      | some (.struct fs) => (placesOf P fs.toList).bind fun pl => (cParts P (pl[·]?) ps.toList).map fun ps => .build zs ps
      | some (.array _ e) => (sizeT P e).bind fun s => (cParts P (fun i => some (i * s, s)) ps.toList).map fun ps => .build zs ps
      | _ => none
    | _ => none
  | .buildSlice t n ps => (elemT P t).bind fun e => (eInfo P e).bind fun (s, _, z) => if n * s ≤ 16777216 then (cPartsS P ps.toList).map fun ps => .buildSlice s n z ps else none
  | .load t a => (aggN P t).bind fun n => (cOpd P a).map fun a => .load n a
  | .store t a x => (sizeT P t).bind fun n => (cOpd P a).bind fun a => (cOpd P x).map fun x => .store n a x
  | .nilCheck x => (cOpd P x).map .nilCheck
  | .binOp op t x y _ => match P.underlying t, op with
    | some (.int _), _ | some .string, _ | some (.float _), _ => (cOpd P x).bind fun x => (cOpd P y).map fun y => .bin op x y
    | some (.interface _), .eql => (eqK P t).bind fun k => match y with | .const .nilIface => (cOpd P x).bind fun x => (cOpd P y).map fun y => .eql false k x y | _ => none
    | some (.interface _), .neq => (eqK P t).bind fun k => match y with | .const .nilIface => (cOpd P x).bind fun x => (cOpd P y).map fun y => .eql true k x y | _ => none
    | _, .eql => (eqK P t).bind fun k => (cOpd P x).bind fun x => (cOpd P y).map fun y => .eql false k x y
    | _, .neq => (eqK P t).bind fun k => (cOpd P x).bind fun x => (cOpd P y).map fun y => .eql true k x y
    | _, _ => none
  | .unOp op _ x => (cOpd P x).map fun x => .un op x
  | .convert s d x => match P.underlying s, P.underlying d with
    | some (.int _), some (.int k) => (cOpd P x).map fun x => .conv k x
    | some (.slice e), some .string => match P.underlying e with
      | some (.int .u8) => (cOpd P x).map .b2s
      | _ => none
    | _, _ => none
  | .makeInterface t x => match P.underlying t with
    | some (.interface _) => none
    | some _ => (cOpd P x).map fun x => .mkIface t x
    | none => none
  | .makeFunc f a b => (cOpds P a.toList).bind fun a => (cOpds P b.toList).map fun b => .mkFn f a b
  | .makeMap t none => match P.underlying t with
    | some (.map _ _) => some .mkMap
    | _ => none
  | .makeSlice t l c => if sameOpd l c = true then (elemT P t).bind fun e => (eInfo P e).bind fun (s, b, z) => (cOpd P l).map fun l => .mkSlice s b z l else none
  | .slice t x lo hi none => (elemT P t).bind fun e => (sizeT P e).bind fun s => if 0 < s then (cOpd P x).bind fun x => (cOpt P lo).bind fun lo => (cOpt P hi).map fun hi => .slice s x lo hi else none
  | .fieldAddr t x i => (structField P t i).bind fun f => match sizeT P f.type with
    | some (s + 1) => (cOpd P x).map fun x => .fieldAddr f.offset x
    | _ => none
  | .field t x i => (structField P t i).bind fun f => (aggN P f.type).bind fun n => (cOpd P x).map fun x => .field f.offset n x
  | .indexAddr t x i => match P.underlying t with
    | some (.slice e) => match sizeT P e with
      | some (s + 1) => (cOpd P x).bind fun x => (cOpd P i).map fun i => .idxS (s + 1) x i
      | _ => none
    | some (.array n e) => match sizeT P e with
      | some (s + 1) => (cOpd P x).bind fun x => (cOpd P i).map fun i => .idxA (s + 1) n x i
      | _ => none
    | _ => none
  | .index t x i => match P.underlying t with
    | some .string => (cOpd P x).bind fun x => (cOpd P i).map fun i => .indexStr x i
    | some (.array n e) => (sizeT P e).bind fun s => (aggN P e).bind fun m => (cOpd P x).bind fun x => (cOpd P i).map fun i => .index s n m x i
    | _ => none
  | .lookup t m k ok => match P.underlying t with
    | some (.map _ e) => (mapK P t).bind fun kk => (zeroT P e).bind fun z => (cOpd P m).bind fun m => (cOpd P k).map fun k => .lookup kk z ok m k
    | _ => none
  | .mapUpdate t m k v | .insert t m k v => (mapK P t).bind fun kk => (cOpd P m).bind fun m => (cOpd P k).bind fun k => (cOpd P v).map fun v => .mapUpd kk m k v
  | .typeAssert x _ t ok => match P.underlying t with
    | some (.interface _) => none
    | some _ => (zeroT P t).bind fun z => (cOpd P x).map fun x => .assertT t ok z x
    | none => none
  | .extract x i => (cOpd P x).map fun x => .extract x i
  | .call c => match c.callee with
    | .builtin .len => match c.args.toList, c.argTypes.toList with
      | [x], [t] => match P.underlying t with
        | some (.slice _) => (cOpd P x).map .lenS
        | some .string => (cOpd P x).map .lenT
        | some (.map _ _) => (cOpd P x).map .lenM
        | _ => none
      | _, _ => none
    | .builtin .min => match c.args.toList with
      | [x, y] => (cOpd P x).bind fun x => (cOpd P y).map fun y => .min x y
      | _ => none
    | .builtin .max => match c.args.toList with
      | [x, y] => (cOpd P x).bind fun x => (cOpd P y).map fun y => .max x y
      | _ => none
    | .builtin .append => match c.args.toList, c.argTypes.toList with
      | [x, y], [s, t] => (elemT P s).bind fun e => (eInfo P e).bind fun (sz, b, _) => match P.underlying t with
        | some (.slice _) | some .string => (cOpd P x).bind fun x => (cOpd P y).map fun y => .append sz b x y
        | _ => none
      | _, _ => none
    | .builtin .copy => match c.args.toList, c.argTypes.toList with
      | [x, y], [s, _] => (elemT P s).bind fun e => match sizeT P e with
        | some (sz + 1) => (cOpd P x).bind fun x => (cOpd P y).map fun y => .copy (sz + 1) x y
        | _ => none
      | _, _ => none
    | .builtin .delete => match c.args.toList, c.argTypes.toList with
      | [m, k], t :: _ => (mapK P t).bind fun kk => (cOpd P m).bind fun m => (cOpd P k).map fun k => .delete kk m k
      | _, _ => none
    | _ => none
  | _ => none

def cIOp : Op → Option AIOp
  | .call c => match c.callee with
    | .value f => (cOpd P f).bind fun f => (cOpds P c.args.toList).map fun as => .call f as
    | _ => (cOp P (.call c)).map .op
  | .panic x => (cOpd P x).map .panic
  | op => (cOp P op).map .op

/-- The guard's slot. -/
def cGuard (ops : Array Oper) : Option (Nat × Bool) → Option (Option (Nat × Bool))
  | none => some none
  | some (j, b) => ((ops[j]?).bind (·.dst)).map fun t => some (t, b)

def dstOk (N : Nat) : Option Nat → Bool
  | some d => decide (d < N)
  | none => true

def cInstr (N : Nat) (ops : Array Oper) (o : Oper) : Option AInstr :=
  if dstOk N o.dst = true then
    (cIOp P o.op).bind fun a => (cGuard ops o.guard).bind fun g => if dstOk N (g.map (·.1)) = true then some { dst := o.dst, op := a, guard := g } else none
  else none
def cInstrs (N : Nat) (ops : Array Oper) : List Oper → Option (List AInstr)
  | [] => some []
  | o :: os => (cInstr P N ops o).bind fun a => (cInstrs N ops os).map (a :: ·)

/-- What an instruction is in a region whose order is open. -/
inductive DC where
  | pure | read | act | free
  deriving DecidableEq

def opClass : AOp → DC
  | .load .. | .slice .. | .idxS .. | .lenM _ | .lookup .. | .b2s _ => .read
  | .box _ | .buildSlice .. | .mkMap | .store .. | .mapUpd .. | .append .. | .copy .. | .delete .. => .act
  | .alloc _ | .mkSlice .. => .free
  | _ => .pure
def insClass : AIOp → Option DC
  | .op o => some (opClass o)
  | .call .. => some .act
  | .panic _ => none
def DC.isAct : DC → Bool
  | .act | .free => true
  | _ => false

def opdReads : AOpd → List Nat
  | .tmp t => [t]
  | _ => []
def optReads : Option AOpd → List Nat
  | some x => opdReads x
  | none => []
def opReads : AOp → List Nat
  | .mov x | .box x | .load _ x | .nilCheck x | .un _ x | .conv _ x | .b2s x | .mkIface _ x | .mkSlice _ _ _ x | .fieldAddr _ x | .field _ _ x | .assertT _ _ _ x | .extract x _ | .lenS x | .lenT x | .lenM x => opdReads x
  | .pick a b c | .mapUpd _ a b c => opdReads a ++ opdReads b ++ opdReads c
  | .alloc _ | .mkMap => []
  | .build _ ps => ps.flatMap fun p => opdReads p.2.2
  | .buildSlice _ _ _ ps => ps.flatMap fun p => opdReads p.2
  | .store _ a b | .bin _ a b | .eql _ _ a b | .idxS _ a b | .idxA _ _ a b | .index _ _ _ a b | .indexStr a b | .lookup _ _ _ a b | .min a b | .max a b | .append _ _ a b | .copy _ a b | .delete _ a b => opdReads a ++ opdReads b
  | .mkFn _ a b => a.flatMap opdReads ++ b.flatMap opdReads
  | .slice _ a b c => opdReads a ++ optReads b ++ optReads c
def insReads (i : AInstr) : List Nat := (match i.op with
  | .op o => opReads o
  | .call f as => opdReads f ++ as.flatMap opdReads
  | .panic x => opdReads x) ++ (match i.guard with | some (t, _) => [t] | none => [])

/-- The edges that bind in every order. -/
def bindsOn (o : Oper) : List Nat := (o.after.toList.filter (Region.binds .any)).map (·.on)

def bitOf (m i : Nat) : Bool := m.testBit i

/-- Of each instruction which ones must come ahead of it, as a mask. -/
def preMasks : List Oper → Nat → List Nat → List Nat
  | [], _, acc => acc
  | o :: os, j, acc => preMasks os (j + 1) (acc ++ [(bindsOn o).foldl (fun m i => m ||| (1 <<< i) ||| acc.getD i 0) 0])

structure DI where
  i : AInstr
  c : DC
  pre : Nat

/-- How many acts stand ahead of a place. -/
def actsAhead (ds : List DI) (q : Nat) : Nat := ((ds.take q).filter (·.c.isAct)).length

/-- The places at which the first act that isn't done may stand, when instruction j comes. -/
def mayStand (ds : List DI) (n j : Nat) (pj : Nat) (q : Nat) : Bool :=
  (q == n || (ds[q]?).any (·.c.isAct)) &&
  (List.range n).all fun c => (ds[c]?).all fun d => !d.c.isAct || ((!(bitOf pj c) || c < q) && (!(j < c && c < q) || !(bitOf d.pre j)))

/-- .. other than such as the same acts stand ahead of. -/
def placesQ (ds : List DI) (n j pj : Nat) : List Nat := (List.range (n + 1)).filter fun q => mayStand ds n j pj q && actsAhead ds q != actsAhead ds j

/-- A new object of constants: whoever makes it early makes the same. -/
def bareAlloc (d : DI) : Bool := match d.i.op, d.i.guard with
  | .op (.alloc _), none => true
  | _, _ => false
def lastOf (ds : List DI) (n j : Nat) : Bool := (List.range n).all fun p => (ds[p]?).all fun d => !(j < p) || bitOf d.pre j || bareAlloc d

def dkOf (ds : List DI) (n : Nat) (j : Nat) (d : DI) : Option DInstr := match d.c with
  | .pure => some ⟨d.i, .pure⟩
  | .read => some ⟨d.i, .read (placesQ ds n j d.pre)⟩
  | _ => some ⟨d.i, .act (lastOf ds n j)⟩
def dksOf (ds : List DI) (n : Nat) : List DI → Nat → Option (List DInstr)
  | [], _ => some []
  | d :: r, j => (dkOf ds n j d).bind fun a => (dksOf ds n r (j + 1)).map (a :: ·)

/-- Two instructions, the one ahead of the other in the text: may the region's order be open? -/
def pairOk (ds : List DI) (i j : Nat) (x y : DI) : Bool :=
  (bitOf y.pre i) ||
    ((match x.i.dst with | some t => !(insReads y.i).contains t && y.i.dst != some t | none => true) &&
     (match y.i.dst with | some t => !(insReads x.i).contains t | none => true) &&
     (!(x.c.isAct && y.c.isAct) || y.c == .free))
/-- Who hangs on a free act hangs on all acts ahead of it. -/
def freeOk (ds : List DI) (n : Nat) (y : DI) : Bool :=
  (List.range n).all fun f => (ds[f]?).all fun d => !(d.c == .free && bitOf y.pre f) || (List.range f).all fun c => (ds[c]?).all fun e => !e.c.isAct || bitOf y.pre c
def preOk (os : List Oper) (ds : List DI) (n : Nat) (j : Nat) (o : Oper) (d : DI) : Bool :=
  (bindsOn o).all (fun i => decide (i < j) && bitOf d.pre i) &&
  (List.range n).all fun i => !(bitOf d.pre i) || (decide (i < j) && (bindsOn o).any fun m => m == i || (decide (m < j) && (ds[m]?).any fun e => bitOf e.pre i))

def mkDI : List AInstr → List Nat → Option (List DI)
  | [], _ => some []
  | i :: is, ms => (insClass i.op).bind fun c => (mkDI is (ms.drop 1)).map (⟨i, c, ms.headD 0⟩ :: ·)

def drawOk (os : List Oper) (ds : List DI) : Bool :=
  let n := ds.length
  (List.range n).all fun j => match os[j]?, ds[j]? with
    | some o, some d => preOk os ds n j o d && freeOk ds n d && (List.range j).all fun i => match ds[i]? with
      | some x => pairOk ds i j x d
      | none => false
    | _, _ => false

def cDraw1 (N : Nat) (ops : Array Oper) : Option ACode :=
  (cInstrs P N ops ops.toList).bind fun is => (mkDI is (preMasks ops.toList 0 [])).bind fun ds =>
    if drawOk ops.toList ds = true then (if ds.any (·.c.isAct) then (dksOf ds ds.length ds 0).map .draw else some (.region is)) else none

/-- The instructions in another order. -/
def remap (σ : List Nat) (o : Oper) : Oper := { o with after := o.after.map fun e => { e with on := σ.idxOf e.on }, guard := o.guard.map fun g => (σ.idxOf g.1, g.2) }
def permOps (σ : List Nat) (ops : Array Oper) : Array Oper := (σ.map fun i => remap σ ((ops[i]?).getD default)).toArray
def permOk (σ : List Nat) (n : Nat) : Bool := decide (σ.length = n) && decide σ.Nodup && σ.all (fun i => decide (i < n)) && (List.range n).all fun i => σ.contains i

/-- An order: whoever may come, but new objects late. -/
def lateOp (o : Oper) : Bool := match o.op with
  | .alloc _ | .makeSlice .. => true
  | _ => false
def sched (ops : List Oper) : Nat → List Nat → List Nat
  | 0, acc => acc
  | f + 1, acc =>
    let can := (List.range ops.length).filter fun i => !acc.contains i && (ops[i]?).any fun o => (bindsOn o).all fun m => acc.contains m
    match can.find? (fun i => (ops[i]?).any fun o => !lateOp o) with
    | some i => sched ops f (acc ++ [i])
    | none => match can with
      | i :: _ => sched ops f (acc ++ [i])
      | [] => acc

def cDraw (N : Nat) (ops : Array Oper) : Option ACode := match cDraw1 P N ops with
  | some c => some c
  | none => let σ := sched ops.toList ops.size []
    if permOk σ ops.size = true then cDraw1 P N (permOps σ ops) else none

def cCode (N : Nat) : Code → Option ACode
  | .skip => some .skip
  | .region _ ops draw => if draw = false then (cInstrs P N ops ops.toList).map .region else cDraw P N ops
  | .seq a b => (cCode N a).bind fun a => (cCode N b).map fun b => .seq a b
  | .cond c a b => (cOpd P c).bind fun c => (cCode N a).bind fun a => (cCode N b).map fun b => .cond c a b
  | .block id b => (cCode N b).map fun b => .block id b
  | .loop b => (cCode N b).map .loop
  | .exit id => some (.exit id)
  | .ret => some .ret
  | _ => none

def cRes : List ResultVar → Option (List AResVar)
  | [] => some []
  | .tmp t :: r => (cRes r).map (.tmp t :: ·)
  | .cell t ty :: r => (aggN P ty).bind fun n => (cRes r).map (.cell t n :: ·)

/-- The function that a region's last instruction puts off. -/
def deferOp (o : Oper) : Option Operand := match o.op, o.guard, o.dst with
  | .defer c, none, none => match c.callee, c.args.toList with
    | .value x, [] => some x
    | _, _ => none
  | _, _, _ => none
def splitDefer (os : List Oper) : Option (List Oper × Operand) := match os.getLast? with
  | some o => (deferOp o).map fun x => (os.dropLast, x)
  | none => none
def cLate (N : Nat) : Code → Option (ACode × AOpd × ACode)
  | .seq (.region id ops false) b => match splitDefer ops.toList with
    | some (init, x) => (cInstrs P N ops init).bind fun is => (cOpd P x).bind fun x => (cCode P N b).map fun t => (.region is, x, t)
    | none => (cCode P N (.region id ops false)).bind fun a => (cLate N b).map fun (p, x, t) => (.seq a p, x, t)
  | .seq a b => (cCode P N a).bind fun a => (cLate N b).map fun (p, x, t) => (.seq a p, x, t)
  | _ => none

def isRecover (o : Oper) : Bool := match o.op, o.guard with
  | .call c, none => match c.callee with
    | .builtin .recover => true
    | _ => false
  | _, _ => false
def AInstr.plain (i : AInstr) : Bool := match i.op with
  | .op _ => true
  | _ => false
def cRcv (N : Nat) : Code → Option (Option Nat × ACode)
  | .seq (.region _ ops false) b => match ops.toList with
    | o :: os => if isRecover o = true ∧ dstOk N o.dst = true then (cInstrs P N ops os).bind fun is => if is.all AInstr.plain = true then (cCode P N b).map fun t => (o.dst, .seq (.region is) t) else none else none
    | [] => none
  | _ => none

def cFun (f : Func) : Option AFun := f.body.bind fun c => (cRes P f.results.toList).bind fun r => match cCode P f.ntmps c with
  | some b => some { body := b, results := r, late := none, rcv := none }
  | none => match cLate P f.ntmps c with
    | some (p, x, t) => some { body := p, results := r, late := some (x, t), rcv := none }
    | none => (cRcv P f.ntmps c).map fun (d, b) => { body := b, results := r, late := none, rcv := some d }
end
end Go.AM

/- The translation of the model's code into the abstract machine's. -/
import Derived.Test.YtloclegkilgglaaAm1
namespace Go.Am
set_option linter.unusedSimpArgs false
set_option linter.unusedVariables false

def shL (f : TypeId → Option Sh) : List Field → Option Sh
  | [] => some .nil
  | x :: l => match f x.type with
    | some a => match shL f l with
      | some b => some (.cons a b)
      | none => none
    | none => none

/-- a type's shape -/
def shT (P : Program) : Nat → TypeId → Option Sh
  | 0, _ => none
  | n + 1, t => match P.underlying t with
    | some (.struct fs) => shL (shT P n) fs.toList
    | some (.array m e) => match shT P n e with
      | some s => some (.ar m s)
      | none => none
    | some .bool => some (.leaf .bool)
    | some (.int k) => some (.leaf (.int k))
    | some .string => some (.leaf .str)
    | some (.pointer _) | some (.slice _) | some (.map _ _) | some (.func _ _ _) | some (.interface _) => some .ref
    | _ => none

/-- its shape, and so many cells -/
def sh (P : Program) (t : TypeId) : Option Sh :=
  match shT P 40 t with
  | some s => match P.info? t with
    | some i => bif i.size == s.size then some s else none
    | none => none
  | none => none

def zL (f : TypeId → Option D) : List Field → Option (List D)
  | [] => some []
  | x :: l => match f x.type with
    | some a => match zL f l with
      | some b => some (a :: b)
      | none => none
    | none => none

/-- a type's zero -/
def zT (P : Program) : Nat → TypeId → Option D
  | 0, _ => none
  | n + 1, t => match P.underlying t with
    | some (.struct fs) => match shT P (n + 1) t with
      | some s => match zL (zT P n) fs.toList with
        | some l => some (.agg s l)
        | none => none
      | none => none
    | some (.array m e) => match shT P (n + 1) t with
      | some s => match zT P n e with
        | some d => some (.agg s (List.replicate m d))
        | none => none
      | none => none
    | some .bool => some (.raw (.bool false))
    | some (.int k) => some (.raw (.int k 0))
    | some .string => some (.raw (.string .empty))
    | some (.pointer _) => some (.raw (.pointer none))
    | some (.slice _) => some (.raw (.slice none 0 0))
    | some (.map _ _) => some (.raw (.map none))
    | some (.func _ _ _) => some (.raw .nilFunc)
    | some (.interface _) => some (.raw .nilIface)
    | _ => none

/-- are they one, as far as zeros go? -/
def sameZ : Value → Value → Bool
  | .bool a, .bool b => a == b
  | .int k a, .int k' b => k == k' && a == b
  | .string a, .string b => a.data.toList == b.data.toList
  | .pointer none, .pointer none => true
  | .slice none 0 0, .slice none 0 0 => true
  | .map none, .map none => true
  | .nilFunc, .nilFunc => true
  | .nilIface, .nilIface => true
  | _, _ => false
def sameZs : List D → List Value → Bool
  | [], [] => true
  | .raw v :: l, u :: r => sameZ v u && sameZs l r
  | _, _ => false

def isAggD : TypeDesc → Bool
  | .struct _ | .array _ _ => true
  | _ => false
def D.isAgg : D → Bool
  | .agg _ _ => true
  | _ => false

/-- the zero, held against the table's -/
def zero (P : Program) (t : TypeId) : Option D :=
  match zT P 40 t with
  | some d => match P.info? t with
    | some i => match i.zero with
      | some v => bif sameZs d.flat v.cells.toList && (match v with | .agg _ => d.isAgg | .tuple _ => false | _ => !d.isAgg) then some d else none
      | none => none
    | none => none
  | none => none

def bytesT (P : Program) (t : TypeId) : Nat := match P.info? t with | some i => i.bytes | none => 0

def cX : Operand → Option X
  | .tmp t => some (.tmp t)
  | .const v => bif v.oneCell' then some (.const v) else none
  | .global g => some (.glob g)
  | .func f => some (.const (.func (.func f) #[] #[]))
def cXs : List Operand → Option (List X)
  | [] => some []
  | x :: l => match cX x with
    | some a => match cXs l with
      | some b => some (a :: b)
      | none => none
    | none => none
def cXo : Option Operand → Option (Option X)
  | none => some none
  | some x => match cX x with
    | some a => some (some a)
    | none => none
def cParts : List (Nat × Operand) → Option (List (Nat × X))
  | [] => some []
  | (i, x) :: l => match cX x with
    | some a => match cParts l with
      | some b => some ((i, a) :: b)
      | none => none
    | none => none

def offsOk (s : Sh) : Nat → List Field → Bool
  | _, [] => true
  | i, f :: l => f.offset == s.offs i && offsOk s (i + 1) l
def sizesOk (P : Program) (s : Sh) : Nat → List Field → Bool
  | _, [] => true
  | i, f :: l => (match P.info? f.type, s.sub i with | some a, some e => a.size == e.size | _, _ => false) && sizesOk P s (i + 1) l

def dAgg : D → List D
  | .agg _ l => l
  | _ => []

def o2 {α β : Type} (x : Option α) (f : α → Option β) : Option β := match x with | some a => f a | none => none
def ifo {α : Type} (b : Bool) (x : Option α) : Option α := bif b then x else none

def elemT (P : Program) (t : TypeId) : Option TypeId := match P.underlying t with | some (.slice e) => some e | _ => none

/-- is a leaf's type no struct and no array? -/
def leafOk (P : Program) (t : TypeId) (s : Sh) : Bool := match P.underlying t with
  | some d => isAggD d == s.isAgg
  | none => false

def eqFs (P : Program) (rec : TypeId → Sh → Bool) (s : Sh) : Nat → List Field → Bool
  | _, [] => true
  | i, f :: fs => f.name != "_" && f.offset == s.offs i && (match s.sub i with
    | some e => (sh P f.type == some e) && leafOk P f.type e && rec f.type e
    | none => false) && eqFs P rec s (i + 1) fs

/-- a type whose values are held against each other cell by cell -/
def eqOk (P : Program) : Nat → TypeId → Sh → Bool
  | 0, _, _ => false
  | n + 1, t, s => match P.underlying t with
    | some (.struct fs) => !P.stoodInHeld t && s.isAgg && fs.toList.length == s.count && eqFs P (eqOk P n) s 0 fs.toList
    | some (.array m e) => match s with
      | .ar m' se => m == m' && (sh P e == some se) && leafOk P e se && eqOk P n e se
      | _ => false
    | some (.int k) => s == .leaf (.int k)
    | some .bool => s == .leaf .bool
    | some .string => s == .leaf .str
    | _ => false

def mnzName (s : String) : Bool := (Extern.BytealgMakeNoZero.typedRows.map (·.1)).contains s
/-- the functions that a value may be: by their parameters -/
def closF (P : Program) (c : Call) : List Nat := (List.range P.funcs.size).filter fun f => match P.funcs[f]? with
  | some fn => fn.params == c.argTypes && fn.body.isSome && fn.name != "runtime.NumGoroutine"
  | none => false
def cCall (P : Program) (c : Call) : Option AOp :=
  match c.callee with
  | .value (.func f) => o2 (P.funcs[f]?) fun fn => bif fn.body.isSome then ifo (fn.name != "runtime.NumGoroutine") (o2 (cXs c.args.toList) fun l => some (.call f l)) else
      ifo (mnzName fn.name && fn.origin == "") (match c.args.toList, fn.resultTypes.toList with
        | [x], [t] => match P.underlying t with
          | some (.slice e) => ifo (sh P e == some (.leaf u8s)) (o2 (cX x) fun x => some (.mnz x))
          | _ => none
        | _, _ => none)
  | .value (.tmp t) => o2 (cXs c.args.toList) fun l => some (.callv (closF P c) (.tmp t) l)
  | .builtin .len => match c.args.toList, c.argTypes.toList with
    | [x], t :: _ => o2 (cX x) fun x => match P.underlying t with
      | some (.slice _) => some (.len x)
      | some .string => some (.strlen x)
      | some (.array n _) => some (.mv (.const (.int .i64 n)))
      | _ => none
    | _, _ => none
  | .builtin .append => match c.args.toList, c.argTypes.toList with
    | [a, b], [t, u] => o2 (cX a) fun a => o2 (cX b) fun b => o2 (elemT P t) fun e => o2 (sh P e) fun s => o2 (zero P e) fun z => ifo (s.size != 0 && z.fits s) (match P.underlying u with
      | some (.slice e') => ifo (sh P e' == some s) (some (.append s (bytesT P e) a b))
      | some .string => ifo (s == .leaf u8s) (some (.append s (bytesT P e) a b))
      | some (.int _) => some (.appendz s (bytesT P e) z a b)
      | _ => none)
    | _, _ => none
  | .builtin .copy => match c.args.toList, c.argTypes.toList with
    | [a, b], [t, u] => o2 (cX a) fun a => o2 (cX b) fun b => o2 (elemT P t) fun e => o2 (sh P e) fun s => ifo (s.size != 0) (match P.underlying u with
      | some (.slice e') => ifo (sh P e' == some s) (some (.copy s a b))
      | some .string => ifo (s == .leaf u8s) (some (.copy s a b))
      | _ => none)
    | _, _ => none
  | .builtin .min => o2 (cXs c.args.toList) fun l => some (.minmax false l)
  | .builtin .max => o2 (cXs c.args.toList) fun l => some (.minmax true l)
  | _ => none

def cOp0 (P : Program) (o : Op) : Option AOp :=
  match o with
  | .move x | .assign x => o2 (cX x) fun x => some (.mv x)
  | .pick c a b => o2 (cX c) fun c => o2 (cX a) fun a => o2 (cX b) fun b => some (.pick c a b)
  | .alloc t => o2 (sh P t) fun s => o2 (zero P t) fun z => ifo (z.fits s) (some (.alloc s z))
  | .box t x => o2 (sh P t) fun s => o2 (cX x) fun x => some (.box s x)
  | .build t parts => o2 (sh P t) fun s => o2 (zero P t) fun z => o2 (cParts parts.toList) fun ps => match P.underlying t with
    | some (.struct fs) => ifo (z.fits s && z.isAgg && offsOk s 0 fs.toList && sizesOk P s 0 fs.toList && fs.toList.length == s.count) (some (.build s (dAgg z) ps))
    | some (.array n e) => o2 (sh P e) fun se => ifo (z.fits s && z.isAgg && s == .ar n se) (some (.build s (dAgg z) ps))
    | _ => none
  | .buildSlice t n parts => o2 (elemT P t) fun e => o2 (sh P e) fun s => o2 (zero P e) fun z => o2 (cParts parts.toList) fun ps => ifo (z.fits s && s.size != 0 && Nat.ble (n * s.size) 16777216) (some (.bslice s n z ps))
  | .load t x => o2 (sh P t) fun s => o2 (cX x) fun x => ifo (leafOk P t s) (some (.load s x))
  | .store t a v => o2 (sh P t) fun s => o2 (cX a) fun a => o2 (cX v) fun v => some (.store s a v)
  | .nilCheck x => o2 (cX x) fun x => some (.nilc x)
  | .binOp op t x y _ => o2 (cX x) fun x => o2 (cX y) fun y => match P.underlying t with
    | some (.int _) | some .string => some (.bin op x y)
    | some .bool => match op with
      | .eql => some (.beq false x y)
      | .neq => some (.beq true x y)
      | _ => none
    | some (.struct _) | some (.array _ _) => o2 (sh P t) fun s => ifo (eqOk P 40 t s && !(P.eqGuardType P.depth t)) (match op with
      | .eql => some (.eqa s false x y)
      | .neq => some (.eqa s true x y)
      | _ => none)
    | some (.pointer _) => match op with
      | .eql => some (.eqnil false x y)
      | .neq => some (.eqnil true x y)
      | _ => none
    | some (.slice _) => match op with
      | .eql => some (.eqsn false x y)
      | .neq => some (.eqsn true x y)
      | _ => none
    | _ => none
  | .unOp op _ x => o2 (cX x) fun x => some (.un op x)
  | .convert src dst x => o2 (cX x) fun x => match P.underlying src, P.underlying dst with
    | some (.int _), some (.int k) => some (.conv k x)
    | some .string, some .string => some (.convs x)
    | some .string, some (.slice e) => match P.underlying e with
      | some (.int .u8) => some (.s2b x)
      | _ => none
    | some (.slice e), some .string => match P.underlying e with
      | some (.int .u8) => some (.b2s x)
      | _ => none
    | some (.slice _), some (.slice e) => ifo (src == dst) (o2 (sh P e) fun s => ifo (s == .leaf u8s) (match P.underlying e with
      | some (.int .u8) => some (.frzb s x)
      | _ => none))
    | _, _ => none
  | .makeSlice t l c => o2 (elemT P t) fun e => o2 (sh P e) fun s => o2 (zero P e) fun z => o2 (cX l) fun l => o2 (cX c) fun c => ifo (z.fits s && s.size != 0) (some (.mks s (bytesT P e) z l c))
  | .fieldAddr t x i => o2 (sh P t) fun s => o2 (cX x) fun x => match P.underlying t with
    | some (.struct fs) => match fs[i]?, s.sub i with
      | some f, some e => ifo (f.offset == s.offs i && (match P.info? f.type with | some a => a.size == e.size | none => false) && e.size != 0) (some (.faddr s x i))
      | _, _ => none
    | _ => none
  | .field t x i => o2 (sh P t) fun s => o2 (cX x) fun x => match P.underlying t with
    | some (.struct fs) => match fs[i]?, s.sub i with
      | some f, some e => ifo (f.offset == s.offs i && sh P f.type == some e && leafOk P f.type e) (some (.field s x i))
      | _, _ => none
    | _ => none
  | .indexAddr t x i => o2 (cX x) fun x => o2 (cX i) fun i => match P.underlying t with
    | some (.array n e) => o2 (sh P e) fun s => some (.iaddra n s x i)
    | some (.slice e) => o2 (sh P e) fun s => some (.iaddrs s x i)
    | _ => none
  | .index t x i => o2 (cX x) fun x => o2 (cX i) fun i => match P.underlying t with
    | some (.array n e) => o2 (sh P e) fun s => ifo (leafOk P e s) (some (.index n s x i))
    | some .string => some (.sindex x i)
    | _ => none
  | .slice t x lo hi mx => o2 (cX x) fun x => o2 (cXo lo) fun lo => o2 (cXo hi) fun hi => o2 (cXo mx) fun mx => match P.underlying t with
    | some (.array n e) => o2 (sh P e) fun s => ifo (mx.isNone || hi.isSome) (some (.slicea n s x lo hi mx))
    | some (.slice e) => o2 (sh P e) fun s => ifo (mx.isNone || hi.isSome) (some (.slice s x lo hi mx))
    | some .string => ifo mx.isNone (some (.sslice x lo hi))
    | _ => none
  | .extract x i => o2 (cX x) fun x => some (.ext x i)
  | .call c => cCall P c
  | .sliceToArrayPointer t x => match P.underlying t with
    | some (.array n e) => o2 (sh P e) fun s => o2 (cX x) fun x => some (.s2a n s x)
    | _ => none
  | _ => none
/-- what isn't translated fails -/
def cOp (P : Program) (o : Op) : Option AOp :=
  match cOp0 P o with
  | some a => some a
  | none => some .fail

def cGuard (ops : List Oper) (g : Option (Nat × Bool)) : Option (Option (Nat × Bool)) :=
  match g with
  | none => some none
  | some (j, want) => match ops[j]? with
    | some o => match o.dst with
      | some t => some (some (t, want))
      | none => none
    | none => none

def cDst (n : Nat) : Option Nat → Bool
  | none => true
  | some t => Nat.blt t n

def cOps (P : Program) (n : Nat) (all : List Oper) : List Oper → Option (List AOper)
  | [] => some []
  | o :: l => ifo (cDst n o.dst) (o2 (cOp P o.op) fun a => o2 (cGuard all o.guard) fun g => o2 (cOps P n all l) fun r => some (⟨o.dst, a, g⟩ :: r))

def quietA : AOp → Bool
  | .store _ _ _ => false
  | .append _ _ _ _ => false
  | .appendz _ _ _ _ _ => false
  | .copy _ _ _ => false
  | .callv _ _ _ => false
  | .eqsn _ _ _ => false
  | .mnz _ => false
  | _ => true

/-- the operands of an operation -/
def AOp.xs : AOp → List X
  | .mv x | .un _ x | .conv _ x | .convs x | .box _ x | .load _ x | .nilc x | .faddr _ x _ | .field _ x _ | .ext x _ | .len x | .strlen x | .b2s x | .s2b x => [x]
  | .pick c a b => [c, a, b]
  | .bin _ x y | .eqa _ _ x y | .beq _ x y | .store _ x y | .iaddra _ _ x y | .iaddrs _ x y | .index _ _ x y | .sindex x y | .append _ _ x y | .appendz _ _ _ x y | .copy _ x y => [x, y]
  | .alloc _ _ => []
  | .build _ _ ps | .bslice _ _ _ ps => ps.map (·.2)
  | .slicea _ _ x lo hi mx | .slice _ x lo hi mx => x :: (lo.toList ++ hi.toList ++ mx.toList)
  | .sslice x lo hi => x :: (lo.toList ++ hi.toList)
  | .mks _ _ _ l c => [l, c]
  | .minmax _ l => l
  | .call _ l => l
  | .callv _ x l => x :: l
  | .fail => []
  | .eqnil _ x y | .eqsn _ x y => [x, y]
  | .s2a _ _ x | .frzb _ x => [x]
  | .mnz x => [x]

/-- does it leave the rows alone? -/
def quietOp : Op → Bool
  | .store _ _ _ => false
  | .call c => match c.callee with
    | .builtin .append => false
    | .builtin .copy => false
    | _ => true
  | _ => true

/-- does operation i wait for j? -/
def dep (ops : List Oper) (i j : Nat) : Bool :=
  match ops[i]? with
  | some o => o.after.toList.any fun e => Region.binds .any e && e.on == j
  | none => false
def xslots : List X → List Nat
  | [] => []
  | .tmp t :: l => t :: xslots l
  | _ :: l => xslots l
def uses (o : AOper) : List Nat := xslots o.op.xs ++ (match o.guard with | some (t, _) => [t] | none => [])
def dstOf (al : List AOper) (j : Nat) : Option Nat := match al[j]? with | some o => o.dst | none => none

def dOK (ops : List Oper) (al : List AOper) (m : Nat) : Bool :=
  Nat.ble m ops.length &&
  (List.range ops.length).all (fun i => match ops[i]? with
    | some o => o.after.toList.all fun e => !Region.binds .any e || Nat.blt e.on i
    | none => true) &&
  (List.range m).all (fun i => match al[i]?, ops[i]? with
    | some x, some o => quietA x.op && quietOp o.op &&
      (List.range m).all (fun j => j == i || x.dst.isNone || dstOf al j != x.dst) &&
      (uses x).all fun t => (List.range m).all fun j => dstOf al j != some t || dep ops i j
    | _, _ => false) &&
  (List.range ops.length).all (fun i => Nat.blt i m || (List.range i).all fun j => dep ops i j || (List.range i).any fun k => Nat.blt j k && dep ops k j)

def drawOK (ops : List Oper) (al : List AOper) : Bool := (List.range (ops.length + 1)).any fun m => dOK ops al m

/-- must j be done when i is ready? -/
def anc (ops : List Oper) : Nat → Nat → Nat → Bool
  | 0, _, _ => false
  | n + 1, i, j => dep ops i j || (List.range i).any fun k => dep ops i k && anc ops n k j
def dly (ops : List Oper) (m i : Nat) : List Nat := (List.range m).filter fun j => !anc ops 2 i j
def dOK2 (ops : List Oper) (al : List AOper) (m : Nat) : Bool :=
  Nat.ble m ops.length &&
  (List.range ops.length).all (fun i => match ops[i]? with
    | some o => o.after.toList.all fun e => !Region.binds .any e || Nat.blt e.on i
    | none => true) &&
  (List.range m).all (fun i => match al[i]?, ops[i]? with
    | some x, some o => quietA x.op && quietOp o.op &&
      (List.range m).all (fun j => j == i || x.dst.isNone || dstOf al j != x.dst) &&
      (uses x).all fun t => (List.range m).all fun j => dstOf al j != some t || dep ops i j
    | _, _ => false) &&
  (List.range ops.length).all (fun i => Nat.blt i m || (match al[i]? with
    | some x => (List.range i).all fun j => anc ops 2 i j || (Nat.blt j m && (match al[j]? with
      | some y => y.guard.isNone && (match y.dst with
        | some t => x.dst != some t && !(uses x).contains t
        | none => false)
      | none => false))
    | none => false))
def nquiet : List Oper → List AOper → Nat
  | o :: ops, x :: al => bif quietA x.op && quietOp o.op then nquiet ops al + 1 else 0
  | _, _ => 0
/-- how many of them come ahead: as many as may be -/
def mQ (ops : List Oper) (al : List AOper) : Nat := ((List.range (nquiet ops al + 1)).reverse.find? fun m => dOK2 ops al m).getD 0
def tailL (ops : List Oper) (al : List AOper) (m : Nat) : Nat → Nat → List (AOper × List AOper)
  | _, 0 => []
  | k, n + 1 => match al[k]? with
    | some x => (x, (dly ops m k).filterMap fun j => al[j]?) :: tailL ops al m (k + 1) n
    | none => []
def drawC (ops : List Oper) (al : List AOper) (m : Nat) : ACode := .draw (al.take m) ((dly ops m m).filterMap fun j => al[j]?) (tailL ops al m m (ops.length - m))

/-- does it call? -/
def callsA (al : List AOper) : Bool := al.any fun x => match x.op with | .call _ _ => true | _ => false
/-- the least count of operations behind which the order is the text's -/
def leastM (ops : List Oper) (al : List AOper) : Option Nat := (List.range (ops.length + 1)).find? fun m => dOK ops al m
def drawA (ops : List Oper) (al : List AOper) : ACode := match leastM ops al with
  | some m => bif callsA (al.drop m) then .draw1 (al.take m) (al.drop m) else .region true al
  | none => .region true al
def failC : ACode := .region false [⟨none, .fail, none⟩]
def comp (P : Program) (n : Nat) : Code → Option ACode
  | .skip => some .skip
  | .region _ ops draw => match cOps P n ops.toList ops.toList with
    | some l => bif !draw then some (.region false l) else bif P.follows .mixedOrders && drawOK ops.toList l then some (drawA ops.toList l) else
      bif P.follows .mixedOrders && dOK2 ops.toList l (mQ ops.toList l) then some (drawC ops.toList l (mQ ops.toList l)) else some failC
    | none => some failC
  | .seq a b => o2 (comp P n a) fun a => o2 (comp P n b) fun b => some (.seq a b)
  | .cond c a b => o2 (cX c) fun c => o2 (comp P n a) fun a => o2 (comp P n b) fun b => some (.cond c a b)
  | .block id a => o2 (comp P n a) fun a => some (.block id a)
  | .loop a => o2 (comp P n a) fun a => some (.loop a)
  | .exit id => some (.exit id)
  | .ret => some .ret
  | _ => some failC

end Go.Am

/- An abstract machine over data: what it computes is what the model computes (definitions). -/
import Derived.Calls
import Derived.Laws.CopyRow
import Derived.Laws.AppendOwn
import Derived.Laws.Rows
import Derived.Laws.Entries
import Derived.Laws.Cells
import Derived.KernelRfl
namespace Go.Am
set_option linter.unusedSimpArgs false
set_option linter.unusedVariables false

/-- shapes: how a value lies in cells. 'leaf': a cell of plain data; 'ref': any cell -/
inductive Sc where
  | int (k : IntKind)
  | bool
  | str
  deriving DecidableEq, Repr, Inhabited
def isSc : Value → Sc → Bool
  | .int k _, .int k' => k == k'
  | .bool _, .bool => true
  | .string _, .str => true
  | _, _ => false
abbrev u8s : Sc := .int .u8

inductive Sh where
  | leaf (k : Sc)
  | ref
  | nil
  | cons (a b : Sh)
  | ar (n : Nat) (s : Sh)
  deriving DecidableEq, Repr, Inhabited

abbrev L8 : Sh := .leaf (.int .u8)
abbrev L16 : Sh := .leaf (.int .u16)
abbrev L32 : Sh := .leaf (.int .u32)
abbrev L64 : Sh := .leaf (.int .u64)
abbrev LI : Sh := .leaf (.int .i64)
abbrev LB : Sh := .leaf .bool
abbrev LS : Sh := .leaf .str
/-- data: plain cells; addresses into rows; immutable lists and variables; structs and arrays; tuples -/
inductive D where
  | raw (v : Value)
  | ptr (s : Sh) (r : Nat) (p : List Nat)
  | sl (s : Sh) (r : Nat) (p : List Nat) (off len : Nat) (ex : Bool)
  | aptr (n : Nat) (s : Sh) (r : Nat) (p : List Nat) (off : Nat)
  | lst (s : Sh) (l : List D) (ex : Bool)
  | cptr (d : D)
  | agg (s : Sh) (l : List D)
  | tup (l : List D)
  deriving Inhabited

mutual
def D.flat : D → List D
  | .agg _ l => flatL l
  | .raw v => [.raw v]
  | .ptr s r p => [.ptr s r p]
  | .sl s r p o n e => [.sl s r p o n e]
  | .aptr n s r p o => [.aptr n s r p o]
  | .lst s l e => [.lst s l e]
  | .cptr d => [.cptr d]
  | .tup l => [.tup l]
def flatL : List D → List D
  | [] => []
  | d :: l => d.flat ++ flatL l
end

def D.isLeaf : D → Bool
  | .agg _ _ | .tup _ => false
  | .raw v => v.oneCell'
  | _ => true

def Sh.size : Sh → Nat
  | .leaf _ | .ref => 1
  | .nil => 0
  | .cons a b => a.size + b.size
  | .ar n s => n * s.size
def Sh.isAgg : Sh → Bool
  | .nil => true
  | .cons _ b => b.isAgg
  | .ar _ _ => true
  | _ => false
def Sh.count : Sh → Nat
  | .cons _ b => b.count + 1
  | .ar n _ => n
  | _ => 0
def Sh.sub : Sh → Nat → Option Sh
  | .cons a _, 0 => some a
  | .cons _ b, i + 1 => b.sub i
  | .ar n s, i => if i < n then some s else none
  | _, _ => none
def Sh.offs : Sh → Nat → Nat
  | .cons _ _, 0 => 0
  | .cons a b, i + 1 => a.size + b.offs i
  | .ar _ s, i => i * s.size
  | _, _ => 0
def Sh.at : Sh → List Nat → Option Sh
  | s, [] => some s
  | s, i :: p => match s.sub i with
    | some e => e.at p
    | none => none
def Sh.off : Sh → List Nat → Nat
  | _, [] => 0
  | s, i :: p => s.offs i + (match s.sub i with | some e => e.off p | none => 0)

/-- a shape's data -/
inductive HasSh : Sh → D → Prop where
  | leaf (k : Sc) (v : Value) : isSc v k = true → HasSh (.leaf k) (.raw v)
  | ref (d : D) : d.isLeaf = true → HasSh .ref d
  | agg (s : Sh) (l : List D) : s.isAgg = true → l.length = s.count → (∀ i e d, s.sub i = some e → l[i]? = some d → HasSh e d) → HasSh s (.agg s l)

/-- does a value fit a shape, by its own mark? -/
def D.fits : D → Sh → Bool
  | .raw v, .leaf k => isSc v k
  | .agg s _, t => s == t
  | .tup _, _ => false
  | d, .ref => d.isLeaf
  | _, _ => false

def D.get : D → List Nat → Option D
  | d, [] => some d
  | .agg _ l, i :: p => match l[i]? with
    | some d => d.get p
    | none => none
  | _, _ :: _ => none
def D.set : D → List Nat → D → Option D
  | _, [], x => some x
  | .agg s l, i :: p, x => match l[i]? with
    | some d => match d.set p x with
      | some d' => some (.agg s (l.set i d'))
      | none => none
    | none => none
  | _, _ :: _, _ => none

structure Row where
  sh : Sh
  els : List D
  deriving Inhabited

def rowGet (els : List D) : List Nat → Option D
  | [] => none
  | i :: p => match els[i]? with
    | some d => d.get p
    | none => none
def rowSet (els : List D) : List Nat → D → Option (List D)
  | [], _ => none
  | i :: p, x => match els[i]? with
    | some d => match d.set p x with
      | some d' => some (els.set i d')
      | none => none
    | none => none

abbrev Rows := List (Option Row)
abbrev Env := List (Nat × D)

def look : Env → Nat → Option D
  | [], _ => none
  | (k, d) :: e, t => bif k == t then some d else look e t
def put (dst : Option Nat) (d : D) (env : Env) : Env :=
  match dst with
  | some t => (t, d) :: env
  | none => env

/-- an operand -/
inductive X where
  | tmp (t : Nat)
  | const (v : Value)
  | glob (g : Nat)
  deriving Inhabited

/-- the operations -/
inductive AOp where
  | mv (x : X)
  | pick (c a b : X)
  | bin (op : BinOp) (x y : X)
  | eqa (s : Sh) (neg : Bool) (x y : X)
  | beq (neg : Bool) (x y : X)
  | un (op : UnOp) (x : X)
  | conv (k : IntKind) (x : X)
  | convs (x : X)
  | alloc (s : Sh) (z : D)
  | box (s : Sh) (x : X)
  | build (s : Sh) (z : List D) (parts : List (Nat × X))
  | bslice (s : Sh) (n : Nat) (z : D) (parts : List (Nat × X))
  | load (s : Sh) (x : X)
  | store (s : Sh) (x v : X)
  | nilc (x : X)
  | faddr (s : Sh) (x : X) (i : Nat)
  | field (s : Sh) (x : X) (i : Nat)
  | iaddra (n : Nat) (s : Sh) (x i : X)
  | iaddrs (s : Sh) (x i : X)
  | index (n : Nat) (s : Sh) (x i : X)
  | sindex (x i : X)
  | slicea (n : Nat) (s : Sh) (x : X) (lo hi mx : Option X)
  | slice (s : Sh) (x : X) (lo hi mx : Option X)
  | sslice (x : X) (lo hi : Option X)
  | mks (s : Sh) (bytes : Nat) (z : D) (len cap : X)
  | ext (x : X) (i : Nat)
  | len (x : X)
  | strlen (x : X)
  | append (s : Sh) (bytes : Nat) (a b : X)
  | appendz (s : Sh) (bytes : Nat) (z : D) (a n : X)
  | copy (s : Sh) (a b : X)
  | minmax (mx : Bool) (l : List X)
  | b2s (x : X)
  | s2b (x : X)
  | call (f : FuncId) (args : List X)
  | callv (fs : List Nat) (x : X) (args : List X)
  | fail
  | eqnil (neg : Bool) (x y : X)
  | eqsn (neg : Bool) (x y : X)
  | s2a (n : Nat) (s : Sh) (x : X)
  | frzb (s : Sh) (x : X)
  | mnz (x : X)
  deriving Inhabited

structure AOper where
  dst : Option Nat
  op : AOp
  guard : Option (Nat × Bool) := none
  deriving Inhabited

inductive ACode where
  | skip
  | region (draw : Bool) (ops : List AOper)
  | draw (pre dl : List AOper) (tail : List (AOper × List AOper))
  | draw1 (pre tail : List AOper)
  | seq (a b : ACode)
  | cond (c : X) (a b : ACode)
  | block (id : Nat) (a : ACode)
  | loop (a : ACode)
  | exit (id : Nat)
  | ret
  deriving Inhabited

inductive AExit where
  | normal
  | exit (id : Nat)
  | ret
  deriving DecidableEq, Inhabited

/-- what a function does to data: its arguments, the rows that they reach; what holds behind it -/
abbrev AFun := List D → Rows → (D → Rows → Prop) → Prop

/-- a function's contract: what it comes to -/
abbrev Fn := List D → Rows → Option (D × Rows)

structure Ctx where
  glob : Nat → Option D
  fn : FuncId → Option Fn
  fnr : FuncId → Option AFun
/-- without those functions that write -/
def Ctx.quiet (C : Ctx) : Ctx := ⟨C.glob, C.fn, fun _ => none⟩

def bnd {α : Type} (x : Option α) (k : α → Prop) : Prop :=
  match x with
  | some a => k a
  | none => False

def ev (C : Ctx) (env : Env) : X → Option D
  | .tmp t => look env t
  | .const v => some (.raw v)
  | .glob g => match C.glob g with
    | some d => some (.cptr d)
    | none => none
def evs (C : Ctx) (env : Env) : List X → Option (List D)
  | [] => some []
  | x :: l => match ev C env x with
    | some d => match evs C env l with
      | some ds => some (d :: ds)
      | none => none
    | none => none
def evo (C : Ctx) (env : Env) : Option X → Option (Option Int)
  | none => some none
  | some x => match ev C env x with
    | some (.raw (.int _ n)) => some (some n)
    | _ => none

def live (rows : Rows) (r : Nat) : Option Row :=
  match rows[r]? with
  | some (some row) => some row
  | _ => none

/-- the elements of a slice -/
def elems (rows : Rows) : D → Option (List D)
  | .raw (.slice none 0 0) => some []
  | .lst _ l _ => some l
  | .sl _ r [] off len _ => match live rows r with
    | some row => some ((row.els.drop off).take len)
    | none => none
  | .sl _ r (i :: p) off len _ => match live rows r with
    | some row => match rowGet row.els (i :: p) with
      | some (.agg _ l) => some ((l.drop off).take len)
      | _ => none
    | none => none
  | _ => none
/-- how many there are -/
def slen : D → Option Nat
  | .raw (.slice none 0 0) => some 0
  | .lst _ l _ => some l.length
  | .sl _ _ _ _ len _ => some len
  | _ => none

/-- arithmetic and comparison of plain data -/
def aBin (op : BinOp) (x y : Value) (k : D → Prop) : Prop :=
  match op, x, y with
  | .shl, .int k1 a, .int _ b => 0 ≤ b ∧ k (.raw (.int k1 (k1.wrap (a * 2 ^ (min b.toNat k1.bits)))))
  | .shr, .int k1 a, .int _ b => 0 ≤ b ∧ k (.raw (.int k1 (a.fdiv (2 ^ (min b.toNat k1.bits)))))
  | .add, .int k1 a, .int k2 b => k1 = k2 ∧ k (.raw (.int k1 (k1.wrap (a + b))))
  | .sub, .int k1 a, .int k2 b => k1 = k2 ∧ k (.raw (.int k1 (k1.wrap (a - b))))
  | .mul, .int k1 a, .int k2 b => k1 = k2 ∧ k (.raw (.int k1 (k1.wrap (a * b))))
  | .quo, .int k1 a, .int k2 b => k1 = k2 ∧ b ≠ 0 ∧ k (.raw (.int k1 (k1.wrap (a.tdiv b))))
  | .rem, .int k1 a, .int k2 b => k1 = k2 ∧ b ≠ 0 ∧ k (.raw (.int k1 (a.tmod b)))
  | .and, .int k1 a, .int k2 b => k1 = k2 ∧ k (.raw (.int k1 (k1.wrap (BitVec.ofInt k1.bits a &&& BitVec.ofInt k1.bits b).toNat)))
  | .or, .int k1 a, .int k2 b => k1 = k2 ∧ k (.raw (.int k1 (k1.wrap (BitVec.ofInt k1.bits a ||| BitVec.ofInt k1.bits b).toNat)))
  | .xor, .int k1 a, .int k2 b => k1 = k2 ∧ k (.raw (.int k1 (k1.wrap (BitVec.ofInt k1.bits a ^^^ BitVec.ofInt k1.bits b).toNat)))
  | .andNot, .int k1 a, .int k2 b => k1 = k2 ∧ k (.raw (.int k1 (k1.wrap (BitVec.ofInt k1.bits a &&& ~~~BitVec.ofInt k1.bits b).toNat)))
  | .eql, .int k1 a, .int k2 b => k1 = k2 ∧ k (.raw (.bool (decide (a = b))))
  | .neq, .int k1 a, .int k2 b => k1 = k2 ∧ k (.raw (.bool (!decide (a = b))))
  | .lss, .int k1 a, .int k2 b => k1 = k2 ∧ k (.raw (.bool (decide (a < b))))
  | .leq, .int k1 a, .int k2 b => k1 = k2 ∧ k (.raw (.bool (decide (a ≤ b))))
  | .gtr, .int k1 a, .int k2 b => k1 = k2 ∧ k (.raw (.bool (decide (b < a))))
  | .geq, .int k1 a, .int k2 b => k1 = k2 ∧ k (.raw (.bool (decide (b ≤ a))))
  | .add, .string a, .string b => ((a.size + b.size : Nat) : Int) ≤ IntKind.i64.max ∧ k (.raw (.string (a ++ b)))
  | .eql, .string a, .string b => k (.raw (.bool (a.toList == b.toList)))
  | .neq, .string a, .string b => k (.raw (.bool (!(a.toList == b.toList))))
  | _, _, _ => False

/-- are two leaves one? -/
def eqLeaf : D → D → Option Bool
  | .raw (.int k a), .raw (.int k' b) => if k = k' then some (decide (a = b)) else none
  | .raw (.bool a), .raw (.bool b) => some (a == b)
  | .raw (.string a), .raw (.string b) => some (a.toList == b.toList)
  | _, _ => none

def aUn (op : UnOp) (x : Value) (k : D → Prop) : Prop :=
  match op, x with
  | .neg, .int k1 n => k (.raw (.int k1 (k1.wrap (0 - n))))
  | .xor, .int k1 n => k (.raw (.int k1 (k1.wrap (BitVec.ofInt k1.bits (if k1.signed then -1 else k1.max) ^^^ BitVec.ofInt k1.bits n).toNat)))
  | .not, .bool b => k (.raw (.bool !b))
  | _, _ => False

/-- the parts of a literal laid over its zero -/
def fillP (C : Ctx) (env : Env) (sub : Nat → Option Sh) : List (Nat × X) → List D → Option (List D)
  | [], z => some z
  | (i, x) :: r, z => match ev C env x with
    | some d => match sub i with
      | some e => bif d.fits e then fillP C env sub r (z.set i d) else none
      | none => none
    | none => none

/-- a shape that holds plain data alone -/
def Sh.pure : Sh → Bool
  | .leaf _ => true
  | .ref => false
  | .nil => true
  | .cons a b => a.pure && b.pure
  | .ar _ s => s.pure

mutual
def eqD : D → D → Option Bool
  | .raw a, y => eqLeaf (.raw a) y
  | .agg _ l, .agg _ l' => eqL l l'
  | _, _ => none
def eqL : List D → List D → Option Bool
  | [], [] => some true
  | a :: l, b :: l' => match eqD a b with
    | some t => match eqL l l' with
      | some u => some (t && u)
      | none => none
    | none => none
  | _, _ => none
end

def mapO {α β : Type} (f : α → Option β) : List α → Option (List β)
  | [] => some []
  | x :: l => match f x with
    | some y => match mapO f l with
      | some ys => some (y :: ys)
      | none => none
    | none => none

/-- data without addresses of rows, as they stand -/
def view (rows : Rows) : Nat → D → Option D
  | 0, _ => none
  | _ + 1, .raw v => some (.raw v)
  | n + 1, .lst s l e => bif s.pure then some (.lst s l e) else match mapO (view rows n) l with
    | some l' => some (.lst s l' e)
    | none => none
  | n + 1, .agg s l => bif s.pure then some (.agg s l) else match mapO (view rows n) l with
    | some l' => some (.agg s l')
    | none => none
  | n + 1, .ptr s r p => match live rows r with
    | some row => match rowGet row.els p with
      | some d => bif s.pure then some (.cptr d) else match view rows n d with
        | some d' => some (.cptr d')
        | none => none
      | none => none
    | none => none
  | n + 1, .sl s r p off len e => match elems rows (.sl s r p off len e) with
    | some l => bif !(l.length == len) then none else bif s.pure then some (.lst s l e) else match mapO (view rows n) l with
      | some l' => some (.lst s l' e)
      | none => none
    | none => none
  | _ + 1, _ => none

mutual
def shift (n : Nat) : D → D
  | .raw v => .raw v
  | .ptr s r p => .ptr s (r + n) p
  | .sl s r p o l e => .sl s (r + n) p o l e
  | .aptr m s r p o => .aptr m s (r + n) p o
  | .lst s l e => bif s.pure then .lst s l e else .lst s (shiftL n l) e
  | .cptr d => .cptr (shift n d)
  | .agg s l => bif s.pure then .agg s l else .agg s (shiftL n l)
  | .tup l => .tup (shiftL n l)
def shiftL (n : Nat) : List D → List D
  | [] => []
  | d :: l => shift n d :: shiftL n l
end
def shiftRows (n : Nat) : Rows → Rows
  | [] => []
  | some ⟨s, els⟩ :: l => some ⟨s, bif s.pure then els else shiftL n els⟩ :: shiftRows n l
  | none :: l => none :: shiftRows n l

mutual
/-- does it bear an address of a row? -/
def hasRef : D → Bool
  | .raw _ => false
  | .ptr _ _ _ => true
  | .sl _ _ _ _ _ _ => true
  | .aptr _ _ _ _ _ => true
  | .lst s l _ => bif s.pure then false else hasRefL l
  | .cptr d => hasRef d
  | .agg s l => bif s.pure then false else hasRefL l
  | .tup l => hasRefL l
def hasRefL : List D → Bool
  | [] => false
  | d :: l => hasRef d || hasRefL l
end
mutual
/-- does it bear no immutable list? -/
def noLst : D → Bool
  | .raw _ => true
  | .ptr _ _ _ => true
  | .sl _ _ _ _ _ _ => true
  | .aptr _ _ _ _ _ => true
  | .lst _ _ _ => false
  | .cptr _ => false
  | .agg s l => bif s.pure then true else noLstL l
  | .tup l => noLstL l
def noLstL : List D → Bool
  | [] => true
  | d :: l => noLst d && noLstL l
end
def noLstRows : Rows → Bool
  | [] => true
  | some ⟨s, _⟩ :: l => s.pure && noLstRows l
  | none :: l => noLstRows l

def kill (rows : Rows) : D → Rows
  | .sl _ r _ _ _ _ => rows.set r none
  | _ => rows

/-- 'the slice is the whole beginning of a row of ours' -/
def owned : D → Bool
  | .sl _ _ [] 0 _ _ => true
  | _ => false
def exact : D → Bool
  | .sl _ _ _ _ _ e => e
  | .lst _ _ e => e
  | _ => false
def isNil : D → Bool
  | .raw (.slice none 0 0) => true
  | _ => false

def most : Nat := 1099511627776

def sshape (s : Sh) : D → Bool
  | .raw (.slice none 0 0) => true
  | .lst t _ _ => s == t
  | .sl t _ _ _ _ _ => s == t
  | _ => false

/-- appending: the new row, the base's row is spent -/
def aApp (rows : Rows) (s : Sh) (bytes : Nat) (a : D) (news : List D) (k : D → Rows → Prop) : Prop :=
  bnd (elems rows a) fun old => bnd (slen a) fun n => sshape s a = true ∧ old.length = n ∧ (n + news.length) * bytes ≤ most ∧ n + news.length ≤ most ∧
    bif isNil a || owned a then
      k (.sl s rows.length [] 0 (n + news.length) false) (kill rows a ++ [some ⟨s, old ++ news⟩])
    else exact a = true ∧ (news.length = 0 → k a rows) ∧
      (news.length ≠ 0 → k (.sl s rows.length [] 0 (n + news.length) false) (rows ++ [some ⟨s, old ++ news⟩]))

def splice {α : Type} (l : List α) (off : Nat) (xs : List α) : List α := l.take off ++ xs ++ l.drop (off + xs.length)

def aCopy (rows : Rows) (s : Sh) (a : D) (src : List D) (k : D → Rows → Prop) : Prop :=
  match a with
  | .raw (.slice none 0 0) => k (.raw (.int .i64 0)) rows
  | .sl t r [] off len _ => t = s ∧ bnd (live rows r) fun row => off + len ≤ row.els.length ∧
      k (.raw (.int .i64 (min src.length len : Nat))) (rows.set r (some ⟨row.sh, splice row.els off (src.take (min src.length len))⟩))
  | .sl t r (i :: p) off len _ => t = s ∧ bnd (live rows r) fun row => bnd (rowGet row.els (i :: p)) fun
    | .agg u l => off + len ≤ l.length ∧ bnd (rowSet row.els (i :: p) (.agg u (splice l off (src.take (min src.length len))))) fun els =>
      k (.raw (.int .i64 (min src.length len : Nat))) (rows.set r (some ⟨row.sh, els⟩))
    | _ => False
  | _ => False

def ofBytes (b : ByteArray) : List D := b.data.toList.map fun x => .raw (.int .u8 x.toNat)
def toByte : D → Option UInt8
  | .raw (.int .u8 n) => some (UInt8.ofNat n.toNat)
  | _ => none

/-- what is appended or copied -/
def srcOf (rows : Rows) (s : Sh) : D → Option (List D)
  | .raw (.string b) => bif s == .leaf u8s then some (ofBytes b) else none
  | d => bif sshape s d then elems rows d else none

def mmFold (mx : Bool) (k : IntKind) : Int → List D → Option Int
  | n, [] => some n
  | n, .raw (.int k' m) :: l => bif k == k' then mmFold mx k (bif mx then max n m else min n m) l else none
  | _, _ => none
/-- is it one of these functions? -/
def memB (f : Nat) : List Nat → Bool
  | [] => false
  | x :: l => bif x == f then true else memB f l
def minmaxI (mx : Bool) : List D → Option (IntKind × Int)
  | .raw (.int k n) :: l => match mmFold mx k n l with
    | some m => some (k, m)
    | none => none
  | _ => none

def aBounds (l h m : Int) (n : Nat) (k : Nat → Nat → Nat → Prop) : Prop :=
  0 ≤ l ∧ l ≤ h ∧ h ≤ m ∧ m ≤ (n : Int) ∧ k l.toNat h.toNat m.toNat

def exOf (c : Option Int) (h c' len : Nat) (e : Bool) : Bool :=
  match c with
  | some _ => h == c'
  | none => e && h == len

def aCall (C : Ctx) (rows : Rows) (f : FuncId) (ds : List D) (k : D → Rows → Prop) : Prop :=
  match C.fn f with
  | some A => (hasRefL ds = true → bnd (mapO (view rows 9) ds) fun ds' => bnd (A ds' []) fun r => (noLst r.1 && noLstRows r.2) = true ∧ k (shift rows.length r.1) (rows ++ shiftRows rows.length r.2)) ∧
      (hasRefL ds = false → bnd (A ds []) fun r => k (shift rows.length r.1) (rows ++ shiftRows rows.length r.2))
  | none => bnd (C.fnr f) fun A => A ds rows k

def aop (C : Ctx) (env : Env) (rows : Rows) (o : AOp) (k : D → Rows → Prop) : Prop :=
  match o with
  | .mv x => bnd (ev C env x) fun d => k d rows
  | .pick c a b => bnd (ev C env c) fun
    | .raw (.bool t) => bnd (bif t then ev C env a else ev C env b) fun d => k d rows
    | _ => False
  | .bin op x y => bnd (ev C env x) fun
    | .raw a => bnd (ev C env y) fun
      | .raw b => aBin op a b fun d => k d rows
      | _ => False
    | _ => False
  | .eqa s neg x y => bnd (ev C env x) fun
    | .agg s1 l => bnd (ev C env y) fun
      | .agg s2 l' => s1 = s ∧ s2 = s ∧ bnd (eqL l l') fun b => k (.raw (.bool (bif neg then !b else b))) rows
      | _ => False
    | _ => False
  | .beq neg x y => bnd (ev C env x) fun
    | .raw (.bool a) => bnd (ev C env y) fun
      | .raw (.bool b) => k (.raw (.bool (bif neg then !(a == b) else a == b))) rows
      | _ => False
    | _ => False
  | .un op x => bnd (ev C env x) fun
    | .raw a => aUn op a fun d => k d rows
    | _ => False
  | .conv kd x => bnd (ev C env x) fun
    | .raw (.int _ n) => k (.raw (.int kd (kd.wrap n))) rows
    | _ => False
  | .convs x => bnd (ev C env x) fun
    | .raw (.string b) => k (.raw (.string b)) rows
    | _ => False
  | .alloc s z => k (.ptr s rows.length [0]) (rows ++ [some ⟨s, [z]⟩])
  | .box s x => bnd (ev C env x) fun d => d.fits s = true ∧ k (.ptr s rows.length [0]) (rows ++ [some ⟨s, [d]⟩])
  | .build s z parts => bnd (fillP C env s.sub parts z) fun l => k (.agg s l) rows
  | .bslice s n z parts => bnd (fillP C env (Sh.ar n s).sub parts (List.replicate n z)) fun l =>
      k (.sl s rows.length [] 0 n true) (rows ++ [some ⟨s, l⟩])
  | .load s x => bnd (ev C env x) fun
    | .ptr s' r p => s' = s ∧ bnd (live rows r) fun row => bnd (rowGet row.els p) fun d => k d rows
    | .cptr d => d.fits s = true ∧ k d rows
    | .aptr m t r p off => s = .ar m t ∧ bnd (elems rows (.sl t r p off m false)) fun l => l.length = m ∧ k (.agg s l) rows
    | _ => False
  | .store s x v => bnd (ev C env x) fun
    | .ptr s' r p => bnd (ev C env v) fun d => d.fits s = true ∧ s' = s ∧ bnd (live rows r) fun row => bnd (rowSet row.els p d) fun els =>
        k (.tup []) (rows.set r (some ⟨row.sh, els⟩))
    | _ => False
  | .nilc x => bnd (ev C env x) fun
    | .ptr s r p => k (.ptr s r p) rows
    | .cptr d => k (.cptr d) rows
    | _ => False
  | .faddr s x i => bnd (ev C env x) fun
    | .ptr s' r p => s' = s ∧ bnd (s.sub i) fun e => k (.ptr e r (p ++ [i])) rows
    | .cptr (.agg s' l) => s' = s ∧ bnd (l[i]?) fun d => k (.cptr d) rows
    | _ => False
  | .field s x i => bnd (ev C env x) fun
    | .agg s' l => s' = s ∧ bnd (l[i]?) fun d => k d rows
    | _ => False
  | .iaddra m s x i => bnd (ev C env x) fun dx => bnd (ev C env i) fun
    | .raw (.int _ n) => match dx with
      | .ptr t r p => t = .ar m s ∧ 0 ≤ n ∧ n < (m : Int) ∧ k (.ptr s r (p ++ [n.toNat])) rows
      | .cptr (.agg t l) => t = .ar m s ∧ 0 ≤ n ∧ n < (m : Int) ∧ bnd (l[n.toNat]?) fun d => k (.cptr d) rows
      | _ => False
    | _ => False
  | .iaddrs s x i => bnd (ev C env x) fun dx => bnd (ev C env i) fun
    | .raw (.int _ n) => match dx with
      | .sl t r p off len _ => t = s ∧ 0 ≤ n ∧ n < (len : Int) ∧ k (.ptr s r (p ++ [off + n.toNat])) rows
      | .lst t l _ => t = s ∧ 0 ≤ n ∧ n < (l.length : Int) ∧ bnd (l[n.toNat]?) fun d => k (.cptr d) rows
      | _ => False
    | _ => False
  | .index m s x i => bnd (ev C env x) fun
    | .agg t l => bnd (ev C env i) fun
      | .raw (.int _ n) => t = .ar m s ∧ 0 ≤ n ∧ n < (m : Int) ∧ bnd (l[n.toNat]?) fun d => k d rows
      | _ => False
    | _ => False
  | .sindex x i => bnd (ev C env x) fun
    | .raw (.string b) => bnd (ev C env i) fun
      | .raw (.int _ n) => 0 ≤ n ∧ bnd (b.data.toList[n.toNat]?) fun c => k (.raw (.int .u8 c.toNat)) rows
      | _ => False
    | _ => False
  | .slicea m s x lo hi mx => bnd (ev C env x) fun dx => bnd (evo C env lo) fun l => bnd (evo C env hi) fun h => bnd (evo C env mx) fun c =>
      aBounds (l.getD 0) (h.getD m) (c.getD m) m fun l h c => match dx with
        | .ptr t r p => t = .ar m s ∧ k (.sl s r p l (h - l) (h == c)) rows
        | .cptr (.agg t els) => t = .ar m s ∧ k (.lst s ((els.drop l).take (h - l)) (h == c)) rows
        | _ => False
  | .slice s x lo hi mx => bnd (ev C env x) fun dx => bnd (evo C env lo) fun l => bnd (evo C env hi) fun h => bnd (evo C env mx) fun c =>
      bnd (slen dx) fun n => aBounds (l.getD 0) (h.getD n) (c.getD (h.getD n)) n fun l h' c' => match dx with
        | .raw (.slice none 0 0) => k (.raw (.slice none 0 0)) rows
        | .sl t r p off len e => t = s ∧ k (.sl s r p (off + l) (h' - l) (exOf c h' c' len e)) rows
        | .lst t els e => t = s ∧ k (.lst s ((els.drop l).take (h' - l)) (exOf c h' c' els.length e)) rows
        | _ => False
  | .sslice x lo hi => bnd (ev C env x) fun
    | .raw (.string b) => bnd (evo C env lo) fun l => bnd (evo C env hi) fun h => aBounds (l.getD 0) (h.getD b.size) b.size b.size fun l h _ => k (.raw (.string (b.extract l h))) rows
    | _ => False
  | .mks s bytes z len cap => bnd (ev C env len) fun
    | .raw (.int _ l) => bnd (ev C env cap) fun
      | .raw (.int _ c) => 0 ≤ l ∧ l ≤ c ∧ c * bytes ≤ (most : Int) ∧ c ≤ (most : Int) ∧
          k (.sl s rows.length [] 0 l.toNat (decide (l = c))) (rows ++ [some ⟨s, List.replicate l.toNat z⟩])
      | _ => False
    | _ => False
  | .ext x i => bnd (ev C env x) fun
    | .tup l => bnd (l[i]?) fun d => k d rows
    | _ => False
  | .len x => bnd (ev C env x) fun d => bnd (slen d) fun n => k (.raw (.int .i64 n)) rows
  | .strlen x => bnd (ev C env x) fun
    | .raw (.string b) => k (.raw (.int .i64 b.size)) rows
    | _ => False
  | .append s bytes a b => bnd (ev C env a) fun da => bnd (ev C env b) fun db => bnd (srcOf rows s db) fun news => (∀ k, slen db = some k → news.length = k) ∧ aApp rows s bytes da news k
  | .appendz s bytes z a n => bnd (ev C env a) fun da => bnd (ev C env n) fun
    | .raw (.int _ m) => 0 ≤ m ∧ aApp rows s bytes da (List.replicate m.toNat z) k
    | _ => False
  | .copy s a b => bnd (ev C env a) fun da => bnd (ev C env b) fun db => bnd (srcOf rows s db) fun src => (∀ k, slen db = some k → src.length = k) ∧ aCopy rows s da src k
  | .minmax mx l => bnd (evs C env l) fun ds => bnd (minmaxI mx ds) fun (kd, n) => k (.raw (.int kd n)) rows
  | .b2s x => bnd (ev C env x) fun d => sshape (.leaf u8s) d = true ∧ bnd (elems rows d) fun l => bnd (slen d) fun n => l.length = n ∧ bnd (mapO toByte l) fun bs => k (.raw (.string ⟨bs.toArray⟩)) rows
  | .s2b x => bnd (ev C env x) fun
    | .raw (.string b) => k (.lst (.leaf u8s) (ofBytes b) false) rows
    | _ => False
  | .call f args => bnd (evs C env args) fun ds => aCall C rows f ds k
  | .callv fs x args => bnd (ev C env x) fun
    | .raw (.func (.func f) c1 c2) => c1 = #[] ∧ c2 = #[] ∧ memB f fs = true ∧ bnd (evs C env args) fun ds => aCall C rows f ds k
    | _ => False
  | .fail => False
  | .eqnil neg x y => bnd (ev C env x) fun dx => bnd (ev C env y) fun
    | .raw (.pointer none) => match dx with
      | .raw (.pointer none) => k (.raw (.bool (!neg))) rows
      | .ptr _ _ _ | .cptr _ => k (.raw (.bool neg)) rows
      | _ => False
    | _ => False
  | .eqsn neg x y => bnd (ev C env x) fun dx => bnd (ev C env y) fun
    | .raw (.slice none 0 0) => match dx with
      | .raw (.slice none 0 0) => k (.raw (.bool (!neg))) rows
      | .lst _ l _ => (l.length = 0 → k (.raw (.bool (!neg))) rows) ∧ k (.raw (.bool neg)) rows
      | .sl _ _ _ _ len _ => (len = 0 → k (.raw (.bool (!neg))) rows) ∧ k (.raw (.bool neg)) rows
      | _ => False
    | _ => False
  | .s2a n s x => bnd (ev C env x) fun
    | .sl t r p off len _ => t = s ∧ n ≤ len ∧ 0 < n ∧ k (.aptr n s r p off) rows
    | .lst t l _ => t = s ∧ n ≤ l.length ∧ 0 < n ∧ k (.cptr (.agg (.ar n s) (l.take n))) rows
    | _ => False
  | .frzb s x => bnd (ev C env x) fun
    | .sl t r [] off len ex => t = s ∧ 0 < len ∧ bnd (live rows r) fun row => off + len ≤ row.els.length ∧ k (.sl s r [] off len ex) rows
    | _ => False
  | .mnz x => bnd (ev C env x) fun
    | .raw (.int kd n) => kd = .i64 ∧ 0 ≤ n ∧ n ≤ (most : Int) ∧ ∀ l : List (BitVec 8), l.length = n.toNat → k (.sl L8 rows.length [] 0 n.toNat false) (rows ++ [some ⟨L8, l.map fun b => .raw (.int .u8 (b.toNat : Int))⟩])
    | _ => False

def aops (C : Ctx) : List AOper → Env → Rows → (Env → Rows → Prop) → Prop
  | [], env, rows, k => k env rows
  | ⟨dst, o, none⟩ :: os, env, rows, k => aop C env rows o fun d rows => aops C os (put dst d env) rows k
  | ⟨dst, o, some (g, want)⟩ :: os, env, rows, k => bnd (look env g) fun
    | .raw (.bool t) => (t = want → aop C env rows o fun d rows => aops C os (put dst d env) rows k) ∧ (t = !want → aops C os (put dst (.tup []) env) rows k)
    | .tup [] => aops C os (put dst (.tup []) env) rows k
    | _ => False

/-- what may still be to do: it comes to the same now -/
def stab1 (env : Env) (rows : Rows) (dst : Option Nat) : D → Rows → Prop := fun d r => (match dst with
  | some t => look env t = some d
  | none => False) ∧ r = rows
def stabs (C : Ctx) (env : Env) (rows : Rows) : List AOper → Prop
  | [] => True
  | y :: l => aop C env rows y.op (stab1 env rows y.dst) ∧ stabs C env rows l
def aopsT (C : Ctx) : List (AOper × List AOper) → Env → Rows → (Env → Rows → Prop) → Prop
  | [], env, rows, K => K env rows
  | (x, dl) :: l, env, rows, K => aops C [x] env rows fun env rows => stabs C env rows dl ∧ aopsT C l env rows K

def loopN (body : (AExit → Env → Rows → Prop) → Env → Rows → Prop) (Q : AExit → Env → Rows → Prop) : Nat → Env → Rows → Prop
  | 0, _, _ => False
  | n + 1, env, rows => body (fun e env rows => match e with | .normal => loopN body Q n env rows | e => Q e env rows) env rows

def aw (C : Ctx) : ACode → (AExit → Env → Rows → Prop) → Env → Rows → Prop
  | .skip, Q, env, rows => Q .normal env rows
  | .region dr ops, Q, env, rows => aops (bif dr then C.quiet else C) ops env rows (Q .normal)
  | .draw pre dl tail, Q, env, rows => aops C.quiet pre env rows fun env rows => stabs C.quiet env rows dl ∧ aopsT C.quiet tail env rows (Q .normal)
  | .draw1 pre tail, Q, env, rows => aops C.quiet pre env rows fun env rows => aops C tail env rows (Q .normal)
  | .seq a b, Q, env, rows => aw C a (fun e env rows => match e with | .normal => aw C b Q env rows | e => Q e env rows) env rows
  | .cond c a b, Q, env, rows => bnd (ev C env c) fun
    | .raw (.bool t) => (t = true → aw C a Q env rows) ∧ (t = false → aw C b Q env rows)
    | _ => False
  | .block id a, Q, env, rows => aw C a (fun e env rows => match e with | .exit i => (i = id → Q .normal env rows) ∧ (i ≠ id → Q (.exit i) env rows) | e => Q e env rows) env rows
  | .loop a, Q, env, rows => ∃ n, loopN (aw C a) Q n env rows
  | .exit id, Q, env, rows => Q (.exit id) env rows
  | .ret, Q, env, rows => Q .ret env rows

end Go.Am

import Derived.Calls
import Derived.Laws.CopyRow
import Derived.Laws.AppendOwn
import Derived.Laws.Rows
import Derived.Laws.Entries
import Derived.Laws.Cells
import Derived.KernelRfl
namespace Go.Am
set_option linter.unusedSimpArgs false
set_option linter.unusedVariables false
inductive Sc where
 | int (k : IntKind)
 | bool
 | str
 deriving DecidableEq, Repr, Inhabited
def isSc : Value → Sc → Bool
 | .int k _, .int k' => k == k'
 | .bool _, .bool => true
 | .string _, .str => true
 | _, _ => false
abbrev u8s : Sc := .int .u8
inductive Sh where
 | leaf (k : Sc)
 | ref
 | nil
 | cons (a b : Sh)
 | ar (n : Nat) (s : Sh)
 deriving DecidableEq, Repr, Inhabited
abbrev L8 : Sh := .leaf (.int .u8)
abbrev L32 : Sh := .leaf (.int .u32)
abbrev L64 : Sh := .leaf (.int .u64)
abbrev LI : Sh := .leaf (.int .i64)
abbrev LB : Sh := .leaf .bool
abbrev LS : Sh := .leaf .str
inductive D where
 | raw (v : Value)
 | ptr (s : Sh) (r : Nat) (p : List Nat)
 | sl (s : Sh) (r : Nat) (p : List Nat) (off len : Nat) (ex : Bool)
 | aptr (n : Nat) (s : Sh) (r : Nat) (p : List Nat) (off : Nat)
 | lst (s : Sh) (l : List D) (ex : Bool)
 | cptr (d : D)
 | agg (s : Sh) (l : List D)
 | tup (l : List D)
 | mp (r : Nat)
 | om (s : Sh) (l : List D)
 deriving Inhabited
mutual
def D.flat : D → List D
 | .agg _ l => flatL l
 | .raw v => [.raw v]
 | .ptr s r p => [.ptr s r p]
 | .sl s r p o n e => [.sl s r p o n e]
 | .aptr n s r p o => [.aptr n s r p o]
 | .lst s l e => [.lst s l e]
 | .cptr d => [.cptr d]
 | .tup l => [.tup l]
 | .mp r => [.mp r]
 | .om s l => [.om s l]
def flatL : List D → List D
 | [] => []
 | d :: l => d.flat ++ flatL l
end
def D.isLeaf : D → Bool
 | .agg _ _ | .tup _ => false
 | .raw v => v.oneCell'
 | _ => true
def Sh.size : Sh → Nat
 | .leaf _ | .ref => 1
 | .nil => 0
 | .cons a b => a.size + b.size
 | .ar n s => n * s.size
def Sh.isAgg : Sh → Bool
 | .nil => true
 | .cons _ b => b.isAgg
 | .ar _ _ => true
 | _ => false
def Sh.count : Sh → Nat
 | .cons _ b => b.count + 1
 | .ar n _ => n
 | _ => 0
def Sh.sub : Sh → Nat → Option Sh
 | .cons a _, 0 => some a
 | .cons _ b, i + 1 => b.sub i
 | .ar n s, i => if i < n then some s else none
 | _, _ => none
def Sh.offs : Sh → Nat → Nat
 | .cons _ _, 0 => 0
 | .cons a b, i + 1 => a.size + b.offs i
 | .ar _ s, i => i * s.size
 | _, _ => 0
def Sh.at : Sh → List Nat → Option Sh
 | s, [] => some s
 | s, i :: p => match s.sub i with
  | some e => e.at p
  | none => none
def Sh.off : Sh → List Nat → Nat
 | _, [] => 0
 | s, i :: p => s.offs i + (match s.sub i with | some e => e.off p | none => 0)
inductive HasSh : Sh → D → Prop where
 | leaf (k : Sc) (v : Value) : isSc v k = true → HasSh (.leaf k) (.raw v)
 | ref (d : D) : d.isLeaf = true → HasSh .ref d
 | agg (s : Sh) (l : List D) : s.isAgg = true → l.length = s.count → (∀ i e d, s.sub i = some e → l[i]? = some d → HasSh e d) → HasSh s (.agg s l)
def D.fits : D → Sh → Bool
 | .raw v, .leaf k => isSc v k
 | .agg s _, t => s == t
 | .tup _, _ => false
 | d, .ref => d.isLeaf
 | _, _ => false
def D.get : D → List Nat → Option D
 | d, [] => some d
 | .agg _ l, i :: p => match l[i]? with
  | some d => d.get p
  | none => none
 | _, _ :: _ => none
def D.set : D → List Nat → D → Option D
 | _, [], x => some x
 | .agg s l, i :: p, x => match l[i]? with
  | some d => match d.set p x with
   | some d' => some (.agg s (l.set i d'))
   | none => none
  | none => none
 | _, _ :: _, _ => none
structure Row where
 sh : Sh
 els : List D
 deriving Inhabited
def rowGet (els : List D) : List Nat → Option D
 | [] => none
 | i :: p => match els[i]? with
  | some d => d.get p
  | none => none
def rowSet (els : List D) : List Nat → D → Option (List D)
 | [], _ => none
 | i :: p, x => match els[i]? with
  | some d => match d.set p x with
   | some d' => some (els.set i d')
   | none => none
  | none => none
abbrev Rows := List (Option Row)
abbrev Env := List (Nat × D)
def look : Env → Nat → Option D
 | [], _ => none
 | (k, d) :: e, t => bif k == t then some d else look e t
def put (dst : Option Nat) (d : D) (env : Env) : Env :=
 match dst with
 | some t => (t, d) :: env
 | none => env
inductive X where
 | tmp (t : Nat)
 | const (v : Value)
 | glob (g : Nat)
 deriving Inhabited
inductive AOp where
 | mv (x : X)
 | pick (c a b : X)
 | bin (op : BinOp) (x y : X)
 | eqa (s : Sh) (neg : Bool) (x y : X)
 | beq (neg : Bool) (x y : X)
 | un (op : UnOp) (x : X)
 | conv (k : IntKind) (x : X)
 | convs (x : X)
 | alloc (s : Sh) (z : D)
 | box (s : Sh) (x : X)
 | build (s : Sh) (z : List D) (parts : List (Nat × X))
 | bslice (s : Sh) (n : Nat) (z : D) (parts : List (Nat × X))
 | load (s : Sh) (x : X)
 | store (s : Sh) (x v : X)
 | nilc (x : X)
 | faddr (s : Sh) (x : X) (i : Nat)
 | field (s : Sh) (x : X) (i : Nat)
 | iaddra (n : Nat) (s : Sh) (x i : X)
 | iaddrs (s : Sh) (x i : X)
 | index (n : Nat) (s : Sh) (x i : X)
 | sindex (x i : X)
 | slicea (n : Nat) (s : Sh) (x : X) (lo hi mx : Option X)
 | slice (s : Sh) (x : X) (lo hi mx : Option X)
 | sslice (x : X) (lo hi : Option X)
 | mks (s : Sh) (bytes : Nat) (z : D) (len cap : X)
 | ext (x : X) (i : Nat)
 | len (x : X)
 | strlen (x : X)
 | append (s : Sh) (bytes : Nat) (a b : X)
 | appendz (s : Sh) (bytes : Nat) (z : D) (a n : X)
 | copy (s : Sh) (a b : X)
 | minmax (mx : Bool) (l : List X)
 | b2s (x : X)
 | s2b (x : X)
 | call (f : FuncId) (args : List X)
 | callv (fs : List Nat) (x : X) (args : List X)
 | fail
 | eqnil (neg : Bool) (x y : X)
 | eqsn (neg : Bool) (x y : X)
 | s2a (n : Nat) (s : Sh) (x : X)
 | frzb (s : Sh) (x : X)
 | mnz (x : X)
 | mkm (ks vs : Sh)
 | mset (ks vs : Sh) (m x v : X)
 | mget (ks vs : Sh) (ok : Bool) (z : D) (m x : X)
 deriving Inhabited
structure AOper where
 dst : Option Nat
 op : AOp
 guard : Option (Nat × Bool) := none
 deriving Inhabited
inductive ACode where
 | skip
 | region (draw : Bool) (ops : List AOper)
 | draw (pre dl : List AOper) (tail : List (AOper × List AOper))
 | draw1 (pre tail : List AOper)
 | drawf (pre dl : List AOper) (tail : List (AOper × List AOper × List AOper))
 | seq (a b : ACode)
 | cond (c : X) (a b : ACode)
 | block (id : Nat) (a : ACode)
 | loop (a : ACode)
 | exit (id : Nat)
 | ret
 deriving Inhabited
inductive AExit where
 | normal
 | exit (id : Nat)
 | ret
 deriving DecidableEq, Inhabited
abbrev AFun := List D → Rows → (D → Rows → Prop) → Prop
abbrev Fn := List D → Rows → Option (D × Rows)
abbrev QFun := List D → Rows → Option (D × Rows)
structure Ctx where
 glob : Nat → Option D
 fn : FuncId → Option Fn
 fnr : FuncId → Option AFun
 fnq : FuncId → Option QFun
def Ctx.quiet (C : Ctx) : Ctx := ⟨C.glob, C.fn, fun _ => none, C.fnq⟩
def bnd {α : Type} (x : Option α) (k : α → Prop) : Prop :=
 match x with
 | some a => k a
 | none => False
def qrun (q : QFun) : AFun := fun ds rows K => bnd (q ds rows) fun r => K r.1 (rows ++ r.2)
def Ctx.fnrq (C : Ctx) (f : FuncId) : Option AFun := match C.fnr f with
 | some A => some A
 | none => (C.fnq f).map qrun
def ev (C : Ctx) (env : Env) : X → Option D
 | .tmp t => look env t
 | .const v => some (.raw v)
 | .glob g => match C.glob g with
  | some d => some (.cptr d)
  | none => none
def evs (C : Ctx) (env : Env) : List X → Option (List D)
 | [] => some []
 | x :: l => match ev C env x with
  | some d => match evs C env l with
   | some ds => some (d :: ds)
   | none => none
  | none => none
def evo (C : Ctx) (env : Env) : Option X → Option (Option Int)
 | none => some none
 | some x => match ev C env x with
  | some (.raw (.int _ n)) => some (some n)
  | _ => none
def live (rows : Rows) (r : Nat) : Option Row :=
 match rows[r]? with
 | some (some row) => some row
 | _ => none
def elems (rows : Rows) : D → Option (List D)
 | .raw (.slice none 0 0) => some []
 | .lst _ l _ => some l
 | .sl _ r [] off len _ => match live rows r with
  | some row => some ((row.els.drop off).take len)
  | none => none
 | .sl _ r (i :: p) off len _ => match live rows r with
  | some row => match rowGet row.els (i :: p) with
   | some (.agg _ l) => some ((l.drop off).take len)
   | _ => none
  | none => none
 | _ => none
def slen : D → Option Nat
 | .raw (.slice none 0 0) => some 0
 | .lst _ l _ => some l.length
 | .sl _ _ _ _ len _ => some len
 | _ => none
def aBin (op : BinOp) (x y : Value) (k : D → Prop) : Prop :=
 match op, x, y with
 | .shl, .int k1 a, .int _ b => 0 ≤ b ∧ k (.raw (.int k1 (k1.wrap (a * 2 ^ (min b.toNat k1.bits)))))
 | .shr, .int k1 a, .int _ b => 0 ≤ b ∧ k (.raw (.int k1 (a.fdiv (2 ^ (min b.toNat k1.bits)))))
 | .add, .int k1 a, .int k2 b => k1 = k2 ∧ k (.raw (.int k1 (k1.wrap (a + b))))
 | .sub, .int k1 a, .int k2 b => k1 = k2 ∧ k (.raw (.int k1 (k1.wrap (a - b))))
 | .mul, .int k1 a, .int k2 b => k1 = k2 ∧ k (.raw (.int k1 (k1.wrap (a * b))))
 | .quo, .int k1 a, .int k2 b => k1 = k2 ∧ b ≠ 0 ∧ k (.raw (.int k1 (k1.wrap (a.tdiv b))))
 | .rem, .int k1 a, .int k2 b => k1 = k2 ∧ b ≠ 0 ∧ k (.raw (.int k1 (a.tmod b)))
 | .and, .int k1 a, .int k2 b => k1 = k2 ∧ k (.raw (.int k1 (k1.wrap (BitVec.ofInt k1.bits a &&& BitVec.ofInt k1.bits b).toNat)))
 | .or, .int k1 a, .int k2 b => k1 = k2 ∧ k (.raw (.int k1 (k1.wrap (BitVec.ofInt k1.bits a ||| BitVec.ofInt k1.bits b).toNat)))
 | .xor, .int k1 a, .int k2 b => k1 = k2 ∧ k (.raw (.int k1 (k1.wrap (BitVec.ofInt k1.bits a ^^^ BitVec.ofInt k1.bits b).toNat)))
 | .andNot, .int k1 a, .int k2 b => k1 = k2 ∧ k (.raw (.int k1 (k1.wrap (BitVec.ofInt k1.bits a &&& ~~~BitVec.ofInt k1.bits b).toNat)))
 | .eql, .int k1 a, .int k2 b => k1 = k2 ∧ k (.raw (.bool (decide (a = b))))
 | .neq, .int k1 a, .int k2 b => k1 = k2 ∧ k (.raw (.bool (!decide (a = b))))
 | .lss, .int k1 a, .int k2 b => k1 = k2 ∧ k (.raw (.bool (decide (a < b))))
 | .leq, .int k1 a, .int k2 b => k1 = k2 ∧ k (.raw (.bool (decide (a ≤ b))))
 | .gtr, .int k1 a, .int k2 b => k1 = k2 ∧ k (.raw (.bool (decide (b < a))))
 | .geq, .int k1 a, .int k2 b => k1 = k2 ∧ k (.raw (.bool (decide (b ≤ a))))
 | .add, .string a, .string b => ((a.size + b.size : Nat) : Int) ≤ IntKind.i64.max ∧ k (.raw (.string (a ++ b)))
 | .eql, .string a, .string b => k (.raw (.bool (a.toList == b.toList)))
 | .neq, .string a, .string b => k (.raw (.bool (!(a.toList == b.toList))))
 | _, _, _ => False
def eqLeaf : D → D → Option Bool
 | .raw (.int k a), .raw (.int k' b) => if k = k' then some (decide (a = b)) else none
 | .raw (.bool a), .raw (.bool b) => some (a == b)
 | .raw (.string a), .raw (.string b) => some (a.toList == b.toList)
 | _, _ => none
def aUn (op : UnOp) (x : Value) (k : D → Prop) : Prop :=
 match op, x with
 | .neg, .int k1 n => k (.raw (.int k1 (k1.wrap (0 - n))))
 | .xor, .int k1 n => k (.raw (.int k1 (k1.wrap (BitVec.ofInt k1.bits (if k1.signed then -1 else k1.max) ^^^ BitVec.ofInt k1.bits n).toNat)))
 | .not, .bool b => k (.raw (.bool !b))
 | _, _ => False
def fillP (C : Ctx) (env : Env) (sub : Nat → Option Sh) : List (Nat × X) → List D → Option (List D)
 | [], z => some z
 | (i, x) :: r, z => match ev C env x with
  | some d => match sub i with
   | some e => bif d.fits e then fillP C env sub r (z.set i d) else none
   | none => none
  | none => none
def Sh.pure : Sh → Bool
 | .leaf _ => true
 | .ref => false
 | .nil => true
 | .cons a b => a.pure && b.pure
 | .ar _ s => s.pure
mutual
def eqD : D → D → Option Bool
 | .raw a, y => eqLeaf (.raw a) y
 | .agg _ l, .agg _ l' => eqL l l'
 | _, _ => none
def eqL : List D → List D → Option Bool
 | [], [] => some true
 | a :: l, b :: l' => match eqD a b with
  | some t => match eqL l l' with
   | some u => some (t && u)
   | none => none
  | none => none
 | _, _ => none
end
def mapO {α β : Type} (f : α → Option β) : List α → Option (List β)
 | [] => some []
 | x :: l => match f x with
  | some y => match mapO f l with
   | some ys => some (y :: ys)
   | none => none
  | none => none
mutual
/-- does it bear an address of a row? -/
def hasRef : D → Bool
 | .raw _ => false
 | .ptr _ _ _ => true
 | .sl _ _ _ _ _ _ => true
 | .aptr _ _ _ _ _ => true
 | .lst s l _ => bif s.pure then false else hasRefL l
 | .cptr d => hasRef d
 | .agg s l => bif s.pure then false else hasRefL l
 | .tup l => hasRefL l
 | .mp _ => true
 | .om _ _ => false
def hasRefL : List D → Bool
 | [] => false
 | d :: l => hasRef d || hasRefL l
end
def view (rows : Rows) : Nat → D → Option D
 | 0, _ => none
 | _ + 1, .raw v => some (.raw v)
 | _ + 1, .om s l => some (.om s l)
 | _ + 1, .cptr d => bif hasRef d then none else some (.cptr d)
 | _ + 1, .mp r => match live rows r with
  | some row => some (.om row.sh row.els)
  | none => none
 | n + 1, .lst s l e => bif s.pure then some (.lst s l e) else match mapO (view rows n) l with
  | some l' => some (.lst s l' e)
  | none => none
 | n + 1, .agg s l => bif s.pure then some (.agg s l) else match mapO (view rows n) l with
  | some l' => some (.agg s l')
  | none => none
 | n + 1, .ptr s r p => match live rows r with
  | some row => match rowGet row.els p with
   | some d => bif s.pure then some (.cptr d) else match view rows n d with
    | some d' => some (.cptr d')
    | none => none
   | none => none
  | none => none
 | n + 1, .sl s r p off len e => match elems rows (.sl s r p off len e) with
  | some l => bif !(l.length == len) then none else bif s.pure then some (.lst s l e) else match mapO (view rows n) l with
   | some l' => some (.lst s l' e)
   | none => none
  | none => none
 | _ + 1, _ => none
mutual
def shift (n : Nat) : D → D
 | .raw v => .raw v
 | .ptr s r p => .ptr s (r + n) p
 | .sl s r p o l e => .sl s (r + n) p o l e
 | .aptr m s r p o => .aptr m s (r + n) p o
 | .lst s l e => bif s.pure then .lst s l e else .lst s (shiftL n l) e
 | .cptr d => .cptr (shift n d)
 | .agg s l => bif s.pure then .agg s l else .agg s (shiftL n l)
 | .tup l => .tup (shiftL n l)
 | .mp r => .mp (r + n)
 | .om s l => .om s l
def shiftL (n : Nat) : List D → List D
 | [] => []
 | d :: l => shift n d :: shiftL n l
end
def shiftRows (n : Nat) : Rows → Rows
 | [] => []
 | some ⟨s, els⟩ :: l => some ⟨s, bif s.pure then els else shiftL n els⟩ :: shiftRows n l
 | none :: l => none :: shiftRows n l
mutual
/-- does it bear no immutable list? -/
def noLst : D → Bool
 | .raw _ => true
 | .ptr _ _ _ => true
 | .sl _ _ _ _ _ _ => true
 | .aptr _ _ _ _ _ => true
 | .lst _ _ _ => false
 | .cptr _ => false
 | .agg s l => bif s.pure then true else noLstL l
 | .tup l => noLstL l
 | .mp _ => true
 | .om _ _ => false
def noLstL : List D → Bool
 | [] => true
 | d :: l => noLst d && noLstL l
end
def noLstRows : Rows → Bool
 | [] => true
 | some ⟨s, _⟩ :: l => s.pure && noLstRows l
 | none :: l => noLstRows l
def kill (rows : Rows) : D → Rows
 | .sl _ r _ _ _ _ => rows.set r none
 | _ => rows
def owned : D → Bool
 | .sl _ _ [] 0 _ _ => true
 | _ => false
def exact : D → Bool
 | .sl _ _ _ _ _ e => e
 | .lst _ _ e => e
 | _ => false
def isNil : D → Bool
 | .raw (.slice none 0 0) => true
 | _ => false
def most : Nat := 1099511627776
def sshape (s : Sh) : D → Bool
 | .raw (.slice none 0 0) => true
 | .lst t _ _ => s == t
 | .sl t _ _ _ _ _ => s == t
 | _ => false
def aApp (rows : Rows) (s : Sh) (bytes : Nat) (a : D) (news : List D) (k : D → Rows → Prop) : Prop :=
 bnd (elems rows a) fun old => bnd (slen a) fun n => sshape s a = true ∧ old.length = n ∧ (n + news.length) * bytes ≤ most ∧ n + news.length ≤ most ∧
  bif isNil a || owned a then
   k (.sl s rows.length [] 0 (n + news.length) false) (kill rows a ++ [some ⟨s, old ++ news⟩])
  else exact a = true ∧ (news.length = 0 → k a rows) ∧
   (news.length ≠ 0 → k (.sl s rows.length [] 0 (n + news.length) false) (rows ++ [some ⟨s, old ++ news⟩]))
def splice {α : Type} (l : List α) (off : Nat) (xs : List α) : List α := l.take off ++ xs ++ l.drop (off + xs.length)
def aCopy (rows : Rows) (s : Sh) (a : D) (src : List D) (k : D → Rows → Prop) : Prop :=
 match a with
 | .raw (.slice none 0 0) => k (.raw (.int .i64 0)) rows
 | .sl t r [] off len _ => t = s ∧ bnd (live rows r) fun row => off + len ≤ row.els.length ∧
   k (.raw (.int .i64 (min src.length len : Nat))) (rows.set r (some ⟨row.sh, splice row.els off (src.take (min src.length len))⟩))
 | .sl t r (i :: p) off len _ => t = s ∧ bnd (live rows r) fun row => bnd (rowGet row.els (i :: p)) fun
  | .agg u l => off + len ≤ l.length ∧ bnd (rowSet row.els (i :: p) (.agg u (splice l off (src.take (min src.length len))))) fun els =>
   k (.raw (.int .i64 (min src.length len : Nat))) (rows.set r (some ⟨row.sh, els⟩))
  | _ => False
 | _ => False
def ofBytes (b : ByteArray) : List D := b.data.toList.map fun x => .raw (.int .u8 x.toNat)
def toByte : D → Option UInt8
 | .raw (.int .u8 n) => some (UInt8.ofNat n.toNat)
 | _ => none
def srcOf (rows : Rows) (s : Sh) : D → Option (List D)
 | .raw (.string b) => bif s == .leaf u8s then some (ofBytes b) else none
 | d => bif sshape s d then elems rows d else none
def mmFold (mx : Bool) (k : IntKind) : Int → List D → Option Int
 | n, [] => some n
 | n, .raw (.int k' m) :: l => bif k == k' then mmFold mx k (bif mx then max n m else min n m) l else none
 | _, _ => none
def memB (f : Nat) : List Nat → Bool
 | [] => false
 | x :: l => bif x == f then true else memB f l
def minmaxI (mx : Bool) : List D → Option (IntKind × Int)
 | .raw (.int k n) :: l => match mmFold mx k n l with
  | some m => some (k, m)
  | none => none
 | _ => none
def aBounds (l h m : Int) (n : Nat) (k : Nat → Nat → Nat → Prop) : Prop :=
 0 ≤ l ∧ l ≤ h ∧ h ≤ m ∧ m ≤ (n : Int) ∧ k l.toNat h.toNat m.toNat
def exOf (c : Option Int) (h c' len : Nat) (e : Bool) : Bool :=
 match c with
 | some _ => h == c'
 | none => e && h == len
abbrev mpS (ks vs : Sh) : Sh := .cons ks (.cons vs .nil)
def entOf : D → Option (D × Value)
 | .agg _ [k, .raw v] => some (k, v)
 | _ => none
def mfind (k : D) : List D → Option (Option Value)
 | [] => some none
 | d :: l => match entOf d with
  | some (k', v) => match eqD k k' with
   | some true => some (some v)
   | some false => mfind k l
   | none => none
  | none => none
def melems (rows : Rows) (s : Sh) : D → Option (List D)
 | .mp r => match live rows r with
  | some row => bif row.sh == s then some row.els else none
  | none => none
 | .om t l => bif t == s then some l else none
 | _ => none
def aCall (C : Ctx) (rows : Rows) (f : FuncId) (ds : List D) (k : D → Rows → Prop) : Prop :=
 match C.fn f with
 | some A => (hasRefL ds = true → bnd (mapO (view rows 9) ds) fun ds' => bnd (A ds' []) fun r => (noLst r.1 && noLstRows r.2) = true ∧ k (shift rows.length r.1) (rows ++ shiftRows rows.length r.2)) ∧
   (hasRefL ds = false → bnd (A ds []) fun r => k (shift rows.length r.1) (rows ++ shiftRows rows.length r.2))
 | none => bnd (C.fnrq f) fun A => A ds rows k
def aop (C : Ctx) (env : Env) (rows : Rows) (o : AOp) (k : D → Rows → Prop) : Prop :=
 match o with
 | .mv x => bnd (ev C env x) fun d => k d rows
 | .pick c a b => bnd (ev C env c) fun
  | .raw (.bool t) => bnd (bif t then ev C env a else ev C env b) fun d => k d rows
  | _ => False
 | .bin op x y => bnd (ev C env x) fun
  | .raw a => bnd (ev C env y) fun
   | .raw b => aBin op a b fun d => k d rows
   | _ => False
  | _ => False
 | .eqa s neg x y => bnd (ev C env x) fun
  | .agg s1 l => bnd (ev C env y) fun
   | .agg s2 l' => s1 = s ∧ s2 = s ∧ bnd (eqL l l') fun b => k (.raw (.bool (bif neg then !b else b))) rows
   | _ => False
  | _ => False
 | .beq neg x y => bnd (ev C env x) fun
  | .raw (.bool a) => bnd (ev C env y) fun
   | .raw (.bool b) => k (.raw (.bool (bif neg then !(a == b) else a == b))) rows
   | _ => False
  | _ => False
 | .un op x => bnd (ev C env x) fun
  | .raw a => aUn op a fun d => k d rows
  | _ => False
 | .conv kd x => bnd (ev C env x) fun
  | .raw (.int _ n) => k (.raw (.int kd (kd.wrap n))) rows
  | _ => False
 | .convs x => bnd (ev C env x) fun
  | .raw (.string b) => k (.raw (.string b)) rows
  | _ => False
 | .alloc s z => k (.ptr s rows.length [0]) (rows ++ [some ⟨s, [z]⟩])
 | .box s x => bnd (ev C env x) fun d => d.fits s = true ∧ k (.ptr s rows.length [0]) (rows ++ [some ⟨s, [d]⟩])
 | .build s z parts => bnd (fillP C env s.sub parts z) fun l => k (.agg s l) rows
 | .bslice s n z parts => bnd (fillP C env (Sh.ar n s).sub parts (List.replicate n z)) fun l =>
   k (.sl s rows.length [] 0 n true) (rows ++ [some ⟨s, l⟩])
 | .load s x => bnd (ev C env x) fun
  | .ptr s' r p => s' = s ∧ bnd (live rows r) fun row => bnd (rowGet row.els p) fun d => k d rows
  | .cptr d => d.fits s = true ∧ k d rows
  | .aptr m t r p off => s = .ar m t ∧ bnd (elems rows (.sl t r p off m false)) fun l => l.length = m ∧ k (.agg s l) rows
  | _ => False
 | .store s x v => bnd (ev C env x) fun
  | .ptr s' r p => bnd (ev C env v) fun d => d.fits s = true ∧ s' = s ∧ bnd (live rows r) fun row => bnd (rowSet row.els p d) fun els =>
    k (.tup []) (rows.set r (some ⟨row.sh, els⟩))
  | _ => False
 | .nilc x => bnd (ev C env x) fun
  | .ptr s r p => k (.ptr s r p) rows
  | .cptr d => k (.cptr d) rows
  | _ => False
 | .faddr s x i => bnd (ev C env x) fun
  | .ptr s' r p => s' = s ∧ bnd (s.sub i) fun e => k (.ptr e r (p ++ [i])) rows
  | .cptr (.agg s' l) => s' = s ∧ bnd (l[i]?) fun d => k (.cptr d) rows
  | _ => False
 | .field s x i => bnd (ev C env x) fun
  | .agg s' l => s' = s ∧ bnd (l[i]?) fun d => k d rows
  | _ => False
 | .iaddra m s x i => bnd (ev C env x) fun dx => bnd (ev C env i) fun
  | .raw (.int _ n) => match dx with
   | .ptr t r p => t = .ar m s ∧ 0 ≤ n ∧ n < (m : Int) ∧ k (.ptr s r (p ++ [n.toNat])) rows
   | .cptr (.agg t l) => t = .ar m s ∧ 0 ≤ n ∧ n < (m : Int) ∧ bnd (l[n.toNat]?) fun d => k (.cptr d) rows
   | _ => False
  | _ => False
 | .iaddrs s x i => bnd (ev C env x) fun dx => bnd (ev C env i) fun
  | .raw (.int _ n) => match dx with
   | .sl t r p off len _ => t = s ∧ 0 ≤ n ∧ n < (len : Int) ∧ k (.ptr s r (p ++ [off + n.toNat])) rows
   | .lst t l _ => t = s ∧ 0 ≤ n ∧ n < (l.length : Int) ∧ bnd (l[n.toNat]?) fun d => k (.cptr d) rows
   | _ => False
  | _ => False
 | .index m s x i => bnd (ev C env x) fun
  | .agg t l => bnd (ev C env i) fun
   | .raw (.int _ n) => t = .ar m s ∧ 0 ≤ n ∧ n < (m : Int) ∧ bnd (l[n.toNat]?) fun d => k d rows
   | _ => False
  | _ => False
 | .sindex x i => bnd (ev C env x) fun
  | .raw (.string b) => bnd (ev C env i) fun
   | .raw (.int _ n) => 0 ≤ n ∧ bnd (b.data.toList[n.toNat]?) fun c => k (.raw (.int .u8 c.toNat)) rows
   | _ => False
  | _ => False
 | .slicea m s x lo hi mx => bnd (ev C env x) fun dx => bnd (evo C env lo) fun l => bnd (evo C env hi) fun h => bnd (evo C env mx) fun c =>
   aBounds (l.getD 0) (h.getD m) (c.getD m) m fun l h c => match dx with
    | .ptr t r p => t = .ar m s ∧ k (.sl s r p l (h - l) (h == c)) rows
    | .cptr (.agg t els) => t = .ar m s ∧ k (.lst s ((els.drop l).take (h - l)) (h == c)) rows
    | _ => False
 | .slice s x lo hi mx => bnd (ev C env x) fun dx => bnd (evo C env lo) fun l => bnd (evo C env hi) fun h => bnd (evo C env mx) fun c =>
   bnd (slen dx) fun n => aBounds (l.getD 0) (h.getD n) (c.getD (h.getD n)) n fun l h' c' => match dx with
    | .raw (.slice none 0 0) => k (.raw (.slice none 0 0)) rows
    | .sl t r p off len e => t = s ∧ k (.sl s r p (off + l) (h' - l) (exOf c h' c' len e)) rows
    | .lst t els e => t = s ∧ k (.lst s ((els.drop l).take (h' - l)) (exOf c h' c' els.length e)) rows
    | _ => False
 | .sslice x lo hi => bnd (ev C env x) fun
  | .raw (.string b) => bnd (evo C env lo) fun l => bnd (evo C env hi) fun h => aBounds (l.getD 0) (h.getD b.size) b.size b.size fun l h _ => k (.raw (.string (b.extract l h))) rows
  | _ => False
 | .mks s bytes z len cap => bnd (ev C env len) fun
  | .raw (.int _ l) => bnd (ev C env cap) fun
   | .raw (.int _ c) => 0 ≤ l ∧ l ≤ c ∧ c * bytes ≤ (most : Int) ∧ c ≤ (most : Int) ∧
     k (.sl s rows.length [] 0 l.toNat (decide (l = c))) (rows ++ [some ⟨s, List.replicate l.toNat z⟩])
   | _ => False
  | _ => False
 | .ext x i => bnd (ev C env x) fun
  | .tup l => bnd (l[i]?) fun d => k d rows
  | _ => False
 | .len x => bnd (ev C env x) fun d => bnd (slen d) fun n => k (.raw (.int .i64 n)) rows
 | .strlen x => bnd (ev C env x) fun
  | .raw (.string b) => k (.raw (.int .i64 b.size)) rows
  | _ => False
 | .append s bytes a b => bnd (ev C env a) fun da => bnd (ev C env b) fun db => bnd (srcOf rows s db) fun news => (∀ k, slen db = some k → news.length = k) ∧ aApp rows s bytes da news k
 | .appendz s bytes z a n => bnd (ev C env a) fun da => bnd (ev C env n) fun
  | .raw (.int _ m) => 0 ≤ m ∧ aApp rows s bytes da (List.replicate m.toNat z) k
  | _ => False
 | .copy s a b => bnd (ev C env a) fun da => bnd (ev C env b) fun db => bnd (srcOf rows s db) fun src => (∀ k, slen db = some k → src.length = k) ∧ aCopy rows s da src k
 | .minmax mx l => bnd (evs C env l) fun ds => bnd (minmaxI mx ds) fun (kd, n) => k (.raw (.int kd n)) rows
 | .b2s x => bnd (ev C env x) fun d => sshape (.leaf u8s) d = true ∧ bnd (elems rows d) fun l => bnd (slen d) fun n => l.length = n ∧ bnd (mapO toByte l) fun bs => k (.raw (.string ⟨bs.toArray⟩)) rows
 | .s2b x => bnd (ev C env x) fun
  | .raw (.string b) => k (.lst (.leaf u8s) (ofBytes b) false) rows
  | _ => False
 | .call f args => bnd (evs C env args) fun ds => aCall C rows f ds k
 | .callv fs x args => bnd (ev C env x) fun
  | .raw (.func (.func f) c1 c2) => c1 = #[] ∧ c2 = #[] ∧ memB f fs = true ∧ bnd (evs C env args) fun ds => aCall C rows f ds k
  | _ => False
 | .fail => False
 | .eqnil neg x y => bnd (ev C env x) fun dx => bnd (ev C env y) fun
  | .raw (.pointer none) => match dx with
   | .raw (.pointer none) => k (.raw (.bool (!neg))) rows
   | .ptr _ _ _ | .cptr _ => k (.raw (.bool neg)) rows
   | _ => False
  | _ => False
 | .eqsn neg x y => bnd (ev C env x) fun dx => bnd (ev C env y) fun
  | .raw (.slice none 0 0) => match dx with
   | .raw (.slice none 0 0) => k (.raw (.bool (!neg))) rows
   | .lst _ l _ => (l.length = 0 → k (.raw (.bool (!neg))) rows) ∧ k (.raw (.bool neg)) rows
   | .sl _ _ _ _ len _ => (len = 0 → k (.raw (.bool (!neg))) rows) ∧ k (.raw (.bool neg)) rows
   | _ => False
  | _ => False
 | .s2a n s x => bnd (ev C env x) fun
  | .sl t r p off len _ => t = s ∧ n ≤ len ∧ 0 < n ∧ k (.aptr n s r p off) rows
  | .lst t l _ => t = s ∧ n ≤ l.length ∧ 0 < n ∧ k (.cptr (.agg (.ar n s) (l.take n))) rows
  | _ => False
 | .frzb s x => bnd (ev C env x) fun
  | .sl t r [] off len ex => t = s ∧ 0 < len ∧ bnd (live rows r) fun row => off + len ≤ row.els.length ∧ k (.sl s r [] off len ex) rows
  | _ => False
 | .mnz x => bnd (ev C env x) fun
  | .raw (.int kd n) => kd = .i64 ∧ 0 ≤ n ∧ n ≤ (most : Int) ∧ ∀ l : List (BitVec 8), l.length = n.toNat → k (.sl L8 rows.length [] 0 n.toNat false) (rows ++ [some ⟨L8, l.map fun b => .raw (.int .u8 (b.toNat : Int))⟩])
  | _ => False
 | .mkm ks vs => k (.mp rows.length) (rows ++ [some ⟨mpS ks vs, []⟩])
 | .mset ks vs m x v => bnd (ev C env m) fun
  | .mp r => bnd (ev C env x) fun kd => bnd (ev C env v) fun
   | .raw val => kd.fits ks = true ∧ (D.raw val).fits vs = true ∧ bnd (live rows r) fun row => row.sh = mpS ks vs ∧
     k (.tup []) (rows.set r (some ⟨row.sh, .agg (mpS ks vs) [kd, .raw val] :: row.els⟩))
   | _ => False
  | _ => False
 | .mget ks vs ok z m x => bnd (ev C env m) fun dm => bnd (ev C env x) fun kd => kd.fits ks = true ∧ bnd (melems rows (mpS ks vs) dm) fun els => bnd (mfind kd els) fun o =>
   k (match o with
    | some v => bif ok then .tup [.raw v, .raw (.bool true)] else .raw v
    | none => bif ok then .tup [z, .raw (.bool false)] else z) rows
def aops (C : Ctx) : List AOper → Env → Rows → (Env → Rows → Prop) → Prop
 | [], env, rows, k => k env rows
 | ⟨dst, o, none⟩ :: os, env, rows, k => aop C env rows o fun d rows => aops C os (put dst d env) rows k
 | ⟨dst, o, some (g, want)⟩ :: os, env, rows, k => bnd (look env g) fun
  | .raw (.bool t) => (t = want → aop C env rows o fun d rows => aops C os (put dst d env) rows k) ∧ (t = !want → aops C os (put dst (.tup []) env) rows k)
  | .tup [] => aops C os (put dst (.tup []) env) rows k
  | _ => False
def stab1 (env : Env) (rows : Rows) (dst : Option Nat) : D → Rows → Prop := fun d r => (match dst with
 | some t => look env t = some d
 | none => False) ∧ r = rows
def stabs (C : Ctx) (env : Env) (rows : Rows) : List AOper → Prop
 | [] => True
 | y :: l => aop C env rows y.op (stab1 env rows y.dst) ∧ stabs C env rows l
def aopsT (C : Ctx) : List (AOper × List AOper) → Env → Rows → (Env → Rows → Prop) → Prop
 | [], env, rows, K => K env rows
 | (x, dl) :: l, env, rows, K => aops C [x] env rows fun env rows => stabs C env rows dl ∧ aopsT C l env rows K
def isPtr (s : Sh) (els : List D) (rows : Rows) : D → Prop
 | .ptr s' r p => s' = s ∧ p = [0] ∧ live rows r = some ⟨s, els⟩
 | _ => False
def isSl (s : Sh) (n : Nat) (els : List D) (rows : Rows) : D → Prop
 | .sl s' r p off len ex => s' = s ∧ p = [] ∧ off = 0 ∧ len = n ∧ ex = true ∧ live rows r = some ⟨s, els⟩
 | _ => False
def stabF1 (C : Ctx) (env : Env) (rows : Rows) (o : AOp) (t : Nat) : Prop := match o with
 | .alloc s z => bnd (look env t) (isPtr s [z] rows)
 | .bslice s n z parts => bnd (fillP C env (Sh.ar n s).sub parts (List.replicate n z)) fun l => bnd (look env t) (isSl s n l rows)
 | o => aop C env rows o (stab1 env rows (some t))
def stabsF (C : Ctx) (env : Env) (rows : Rows) : List AOper → Prop
 | [] => True
 | y :: l => (match y.dst with
  | some t => stabF1 C env rows y.op t
  | none => False) ∧ stabsF C env rows l
def aopsF (C : Ctx) : List (AOper × List AOper × List AOper) → Env → Rows → (Env → Rows → Prop) → Prop
 | [], env, rows, K => K env rows
 | (x, fl, dl) :: l, env, rows, K => aops C [x] env rows fun env rows => aops C.quiet fl env rows fun env rows => stabsF C.quiet env rows dl ∧ aopsF C l env rows K
def loopN (body : (AExit → Env → Rows → Prop) → Env → Rows → Prop) (Q : AExit → Env → Rows → Prop) : Nat → Env → Rows → Prop
 | 0, _, _ => False
 | n + 1, env, rows => body (fun e env rows => match e with | .normal => loopN body Q n env rows | e => Q e env rows) env rows
def aw (C : Ctx) : ACode → (AExit → Env → Rows → Prop) → Env → Rows → Prop
 | .skip, Q, env, rows => Q .normal env rows
 | .region dr ops, Q, env, rows => aops (bif dr then C.quiet else C) ops env rows (Q .normal)
 | .draw pre dl tail, Q, env, rows => aops C.quiet pre env rows fun env rows => stabs C.quiet env rows dl ∧ aopsT C.quiet tail env rows (Q .normal)
 | .draw1 pre tail, Q, env, rows => aops C.quiet pre env rows fun env rows => aops C tail env rows (Q .normal)
 | .drawf pre dl tail, Q, env, rows => aops C.quiet pre env rows fun env rows => stabsF C.quiet env rows dl ∧ aopsF C tail env rows (Q .normal)
 | .seq a b, Q, env, rows => aw C a (fun e env rows => match e with | .normal => aw C b Q env rows | e => Q e env rows) env rows
 | .cond c a b, Q, env, rows => bnd (ev C env c) fun
  | .raw (.bool t) => (t = true → aw C a Q env rows) ∧ (t = false → aw C b Q env rows)
  | _ => False
 | .block id a, Q, env, rows => aw C a (fun e env rows => match e with | .exit i => (i = id → Q .normal env rows) ∧ (i ≠ id → Q (.exit i) env rows) | e => Q e env rows) env rows
 | .loop a, Q, env, rows => ∃ n, loopN (aw C a) Q n env rows
 | .exit id, Q, env, rows => Q (.exit id) env rows
 | .ret, Q, env, rows => Q .ret env rows
end Go.Am
namespace Go.Am
set_option linter.unusedSimpArgs false
set_option linter.unusedVariables false
def shL (f : TypeId → Option Sh) : List Field → Option Sh
 | [] => some .nil
 | x :: l => match f x.type with
  | some a => match shL f l with
   | some b => some (.cons a b)
   | none => none
  | none => none
def shT (P : Program) : Nat → TypeId → Option Sh
 | 0, _ => none
 | n + 1, t => match P.underlying t with
  | some (.struct fs) => shL (shT P n) fs.toList
  | some (.array m e) => match shT P n e with
   | some s => some (.ar m s)
   | none => none
  | some .bool => some (.leaf .bool)
  | some (.int k) => some (.leaf (.int k))
  | some .string => some (.leaf .str)
  | some (.pointer _) | some (.slice _) | some (.map _ _) | some (.func _ _ _) | some (.interface _) => some .ref
  | _ => none
def sh (P : Program) (t : TypeId) : Option Sh :=
 match shT P 40 t with
 | some s => match P.info? t with
  | some i => bif i.size == s.size then some s else none
  | none => none
 | none => none
def zL (f : TypeId → Option D) : List Field → Option (List D)
 | [] => some []
 | x :: l => match f x.type with
  | some a => match zL f l with
   | some b => some (a :: b)
   | none => none
  | none => none
def zT (P : Program) : Nat → TypeId → Option D
 | 0, _ => none
 | n + 1, t => match P.underlying t with
  | some (.struct fs) => match shT P (n + 1) t with
   | some s => match zL (zT P n) fs.toList with
    | some l => some (.agg s l)
    | none => none
   | none => none
  | some (.array m e) => match shT P (n + 1) t with
   | some s => match zT P n e with
    | some d => some (.agg s (List.replicate m d))
    | none => none
   | none => none
  | some .bool => some (.raw (.bool false))
  | some (.int k) => some (.raw (.int k 0))
  | some .string => some (.raw (.string .empty))
  | some (.pointer _) => some (.raw (.pointer none))
  | some (.slice _) => some (.raw (.slice none 0 0))
  | some (.map _ _) => some (.raw (.map none))
  | some (.func _ _ _) => some (.raw .nilFunc)
  | some (.interface _) => some (.raw .nilIface)
  | _ => none
def sameZ : Value → Value → Bool
 | .bool a, .bool b => a == b
 | .int k a, .int k' b => k == k' && a == b
 | .string a, .string b => a.data.toList == b.data.toList
 | .pointer none, .pointer none => true
 | .slice none 0 0, .slice none 0 0 => true
 | .map none, .map none => true
 | .nilFunc, .nilFunc => true
 | .nilIface, .nilIface => true
 | _, _ => false
def sameZs : List D → List Value → Bool
 | [], [] => true
 | .raw v :: l, u :: r => sameZ v u && sameZs l r
 | _, _ => false
def isAggD : TypeDesc → Bool
 | .struct _ | .array _ _ => true
 | _ => false
def D.isAgg : D → Bool
 | .agg _ _ => true
 | _ => false
def zero (P : Program) (t : TypeId) : Option D :=
 match zT P 40 t with
 | some d => match P.info? t with
  | some i => match i.zero with
   | some v => bif sameZs d.flat v.cells.toList && (match v with | .agg _ => d.isAgg | .tuple _ => false | _ => !d.isAgg) then some d else none
   | none => none
  | none => none
 | none => none
def bytesT (P : Program) (t : TypeId) : Nat := match P.info? t with | some i => i.bytes | none => 0
def cX : Operand → Option X
 | .tmp t => some (.tmp t)
 | .const v => bif v.oneCell' then some (.const v) else none
 | .global g => some (.glob g)
 | .func f => some (.const (.func (.func f) #[] #[]))
def cXs : List Operand → Option (List X)
 | [] => some []
 | x :: l => match cX x with
  | some a => match cXs l with
   | some b => some (a :: b)
   | none => none
  | none => none
def cXo : Option Operand → Option (Option X)
 | none => some none
 | some x => match cX x with
  | some a => some (some a)
  | none => none
def cParts : List (Nat × Operand) → Option (List (Nat × X))
 | [] => some []
 | (i, x) :: l => match cX x with
  | some a => match cParts l with
   | some b => some ((i, a) :: b)
   | none => none
  | none => none
def offsOk (s : Sh) : Nat → List Field → Bool
 | _, [] => true
 | i, f :: l => f.offset == s.offs i && offsOk s (i + 1) l
def sizesOk (P : Program) (s : Sh) : Nat → List Field → Bool
 | _, [] => true
 | i, f :: l => (match P.info? f.type, s.sub i with | some a, some e => a.size == e.size | _, _ => false) && sizesOk P s (i + 1) l
def dAgg : D → List D
 | .agg _ l => l
 | _ => []
def o2 {α β : Type} (x : Option α) (f : α → Option β) : Option β := match x with | some a => f a | none => none
def ifo {α : Type} (b : Bool) (x : Option α) : Option α := bif b then x else none
def elemT (P : Program) (t : TypeId) : Option TypeId := match P.underlying t with | some (.slice e) => some e | _ => none
def leafOk (P : Program) (t : TypeId) (s : Sh) : Bool := match P.underlying t with
 | some d => isAggD d == s.isAgg
 | none => false
def eqFs (P : Program) (rec : TypeId → Sh → Bool) (s : Sh) : Nat → List Field → Bool
 | _, [] => true
 | i, f :: fs => f.name != "_" && f.offset == s.offs i && (match s.sub i with
  | some e => (sh P f.type == some e) && leafOk P f.type e && rec f.type e
  | none => false) && eqFs P rec s (i + 1) fs
def eqOk (P : Program) : Nat → TypeId → Sh → Bool
 | 0, _, _ => false
 | n + 1, t, s => match P.underlying t with
  | some (.struct fs) => !P.stoodInHeld t && s.isAgg && fs.toList.length == s.count && eqFs P (eqOk P n) s 0 fs.toList
  | some (.array m e) => match s with
   | .ar m' se => m == m' && (sh P e == some se) && leafOk P e se && eqOk P n e se
   | _ => false
  | some (.int k) => s == .leaf (.int k)
  | some .bool => s == .leaf .bool
  | some .string => s == .leaf .str
  | _ => false
def leafL : Sh → Bool
 | .nil => true
 | .cons (.leaf _) b => leafL b
 | _ => false
def plainT (P : Program) (t : TypeId) : Bool := match P.underlying t with
 | some (.int _) | some .bool | some .string => true
 | _ => false
def keyOK (P : Program) (t : TypeId) (s : Sh) : Bool := match P.underlying t with
 | some .string => s == .leaf .str
 | some (.struct fs) => s.isAgg && leafL s && eqOk P 40 t s && fs.toList.all fun f => plainT P f.type
 | _ => false
def valSh : Sh → Bool
 | .leaf _ => true
 | _ => false
def mapT (P : Program) (t : TypeId) : Option (TypeId × TypeId) := match P.underlying t with | some (.map a b) => some (a, b) | _ => none
def mapSh (P : Program) (t : TypeId) : Option (Sh × Sh) := o2 (mapT P t) fun (kt, et) => o2 (sh P kt) fun ks => o2 (sh P et) fun vs => ifo (keyOK P kt ks && valSh vs) (some (ks, vs))
def mnzName (s : String) : Bool := (Extern.BytealgMakeNoZero.typedRows.map (·.1)).contains s
def closF (P : Program) (c : Call) : List Nat := (List.range P.funcs.size).filter fun f => match P.funcs[f]? with
 | some fn => fn.params == c.argTypes && fn.body.isSome && fn.name != "runtime.NumGoroutine"
 | none => false
def cCall (P : Program) (c : Call) : Option AOp :=
 match c.callee with
 | .value (.func f) => o2 (P.funcs[f]?) fun fn => bif fn.body.isSome then ifo (fn.name != "runtime.NumGoroutine") (o2 (cXs c.args.toList) fun l => some (.call f l)) else
   ifo (mnzName fn.name && fn.origin == "") (match c.args.toList, fn.resultTypes.toList with
    | [x], [t] => match P.underlying t with
     | some (.slice e) => ifo (sh P e == some (.leaf u8s)) (o2 (cX x) fun x => some (.mnz x))
     | _ => none
    | _, _ => none)
 | .value (.tmp t) => o2 (cXs c.args.toList) fun l => some (.callv (closF P c) (.tmp t) l)
 | .builtin .len => match c.args.toList, c.argTypes.toList with
  | [x], t :: _ => o2 (cX x) fun x => match P.underlying t with
   | some (.slice _) => some (.len x)
   | some .string => some (.strlen x)
   | some (.array n _) => some (.mv (.const (.int .i64 n)))
   | _ => none
  | _, _ => none
 | .builtin .append => match c.args.toList, c.argTypes.toList with
  | [a, b], [t, u] => o2 (cX a) fun a => o2 (cX b) fun b => o2 (elemT P t) fun e => o2 (sh P e) fun s => o2 (zero P e) fun z => ifo (s.size != 0 && z.fits s) (match P.underlying u with
   | some (.slice e') => ifo (sh P e' == some s) (some (.append s (bytesT P e) a b))
   | some .string => ifo (s == .leaf u8s) (some (.append s (bytesT P e) a b))
   | some (.int _) => some (.appendz s (bytesT P e) z a b)
   | _ => none)
  | _, _ => none
 | .builtin .copy => match c.args.toList, c.argTypes.toList with
  | [a, b], [t, u] => o2 (cX a) fun a => o2 (cX b) fun b => o2 (elemT P t) fun e => o2 (sh P e) fun s => ifo (s.size != 0) (match P.underlying u with
   | some (.slice e') => ifo (sh P e' == some s) (some (.copy s a b))
   | some .string => ifo (s == .leaf u8s) (some (.copy s a b))
   | _ => none)
  | _, _ => none
 | .builtin .min => o2 (cXs c.args.toList) fun l => some (.minmax false l)
 | .builtin .max => o2 (cXs c.args.toList) fun l => some (.minmax true l)
 | _ => none
def cOp0 (P : Program) (o : Op) : Option AOp :=
 match o with
 | .move x | .assign x => o2 (cX x) fun x => some (.mv x)
 | .pick c a b => o2 (cX c) fun c => o2 (cX a) fun a => o2 (cX b) fun b => some (.pick c a b)
 | .alloc t => o2 (sh P t) fun s => o2 (zero P t) fun z => ifo (z.fits s) (some (.alloc s z))
 | .box t x => o2 (sh P t) fun s => o2 (cX x) fun x => some (.box s x)
 | .build t parts => o2 (sh P t) fun s => o2 (zero P t) fun z => o2 (cParts parts.toList) fun ps => match P.underlying t with
  | some (.struct fs) => ifo (z.fits s && z.isAgg && offsOk s 0 fs.toList && sizesOk P s 0 fs.toList && fs.toList.length == s.count) (some (.build s (dAgg z) ps))
  | some (.array n e) => o2 (sh P e) fun se => ifo (z.fits s && z.isAgg && s == .ar n se) (some (.build s (dAgg z) ps))
  | _ => none
 | .buildSlice t n parts => o2 (elemT P t) fun e => o2 (sh P e) fun s => o2 (zero P e) fun z => o2 (cParts parts.toList) fun ps => ifo (z.fits s && s.size != 0 && Nat.ble (n * s.size) 16777216) (some (.bslice s n z ps))
 | .load t x => o2 (sh P t) fun s => o2 (cX x) fun x => ifo (leafOk P t s) (some (.load s x))
 | .store t a v => o2 (sh P t) fun s => o2 (cX a) fun a => o2 (cX v) fun v => some (.store s a v)
 | .nilCheck x => o2 (cX x) fun x => some (.nilc x)
 | .binOp op t x y _ => o2 (cX x) fun x => o2 (cX y) fun y => match P.underlying t with
  | some (.int _) | some .string => some (.bin op x y)
  | some .bool => match op with
   | .eql => some (.beq false x y)
   | .neq => some (.beq true x y)
   | _ => none
  | some (.struct _) | some (.array _ _) => o2 (sh P t) fun s => ifo (eqOk P 40 t s && !(P.eqGuardType P.depth t)) (match op with
   | .eql => some (.eqa s false x y)
   | .neq => some (.eqa s true x y)
   | _ => none)
  | some (.pointer _) => match op with
   | .eql => some (.eqnil false x y)
   | .neq => some (.eqnil true x y)
   | _ => none
  | some (.slice _) => match op with
   | .eql => some (.eqsn false x y)
   | .neq => some (.eqsn true x y)
   | _ => none
  | _ => none
 | .unOp op _ x => o2 (cX x) fun x => some (.un op x)
 | .convert src dst x => o2 (cX x) fun x => match P.underlying src, P.underlying dst with
  | some (.int _), some (.int k) => some (.conv k x)
  | some .string, some .string => some (.convs x)
  | some .string, some (.slice e) => match P.underlying e with
   | some (.int .u8) => some (.s2b x)
   | _ => none
  | some (.slice e), some .string => match P.underlying e with
   | some (.int .u8) => some (.b2s x)
   | _ => none
  | some (.slice _), some (.slice e) => ifo (src == dst) (o2 (sh P e) fun s => ifo (s == .leaf u8s) (match P.underlying e with
   | some (.int .u8) => some (.frzb s x)
   | _ => none))
  | _, _ => none
 | .makeSlice t l c => o2 (elemT P t) fun e => o2 (sh P e) fun s => o2 (zero P e) fun z => o2 (cX l) fun l => o2 (cX c) fun c => ifo (z.fits s && s.size != 0) (some (.mks s (bytesT P e) z l c))
 | .makeMap t none => o2 (mapSh P t) fun (ks, vs) => some (.mkm ks vs)
 | .mapUpdate t m k v => o2 (mapSh P t) fun (ks, vs) => o2 (cX m) fun m => o2 (cX k) fun k => o2 (cX v) fun v => some (.mset ks vs m k v)
 | .lookup t m k ok => o2 (mapT P t) fun (_, et) => o2 (mapSh P t) fun (ks, vs) => o2 (zero P et) fun z => o2 (cX m) fun m => o2 (cX k) fun k => ifo (z.fits vs) (some (.mget ks vs ok z m k))
 | .fieldAddr t x i => o2 (sh P t) fun s => o2 (cX x) fun x => match P.underlying t with
  | some (.struct fs) => match fs[i]?, s.sub i with
   | some f, some e => ifo (f.offset == s.offs i && (match P.info? f.type with | some a => a.size == e.size | none => false) && e.size != 0) (some (.faddr s x i))
   | _, _ => none
  | _ => none
 | .field t x i => o2 (sh P t) fun s => o2 (cX x) fun x => match P.underlying t with
  | some (.struct fs) => match fs[i]?, s.sub i with
   | some f, some e => ifo (f.offset == s.offs i && sh P f.type == some e && leafOk P f.type e) (some (.field s x i))
   | _, _ => none
  | _ => none
 | .indexAddr t x i => o2 (cX x) fun x => o2 (cX i) fun i => match P.underlying t with
  | some (.array n e) => o2 (sh P e) fun s => some (.iaddra n s x i)
  | some (.slice e) => o2 (sh P e) fun s => some (.iaddrs s x i)
  | _ => none
 | .index t x i => o2 (cX x) fun x => o2 (cX i) fun i => match P.underlying t with
  | some (.array n e) => o2 (sh P e) fun s => ifo (leafOk P e s) (some (.index n s x i))
  | some .string => some (.sindex x i)
  | _ => none
 | .slice t x lo hi mx => o2 (cX x) fun x => o2 (cXo lo) fun lo => o2 (cXo hi) fun hi => o2 (cXo mx) fun mx => match P.underlying t with
  | some (.array n e) => o2 (sh P e) fun s => ifo (mx.isNone || hi.isSome) (some (.slicea n s x lo hi mx))
  | some (.slice e) => o2 (sh P e) fun s => ifo (mx.isNone || hi.isSome) (some (.slice s x lo hi mx))
  | some .string => ifo mx.isNone (some (.sslice x lo hi))
  | _ => none
 | .extract x i => o2 (cX x) fun x => some (.ext x i)
 | .call c => cCall P c
 | .sliceToArrayPointer t x => match P.underlying t with
  | some (.array n e) => o2 (sh P e) fun s => o2 (cX x) fun x => some (.s2a n s x)
  | _ => none
 | _ => none
def cOp (P : Program) (o : Op) : Option AOp :=
 match cOp0 P o with
 | some a => some a
 | none => some .fail
def cGuard (ops : List Oper) (g : Option (Nat × Bool)) : Option (Option (Nat × Bool)) :=
 match g with
 | none => some none
 | some (j, want) => match ops[j]? with
  | some o => match o.dst with
   | some t => some (some (t, want))
   | none => none
  | none => none
def cDst (n : Nat) : Option Nat → Bool
 | none => true
 | some t => Nat.blt t n
def cOps (P : Program) (n : Nat) (all : List Oper) : List Oper → Option (List AOper)
 | [] => some []
 | o :: l => ifo (cDst n o.dst) (o2 (cOp P o.op) fun a => o2 (cGuard all o.guard) fun g => o2 (cOps P n all l) fun r => some (⟨o.dst, a, g⟩ :: r))
def quietA : AOp → Bool
 | .store _ _ _ => false
 | .append _ _ _ _ => false
 | .appendz _ _ _ _ _ => false
 | .copy _ _ _ => false
 | .callv _ _ _ => false
 | .eqsn _ _ _ => false
 | .mnz _ => false
 | .mset _ _ _ _ _ => false
 | _ => true
def AOp.xs : AOp → List X
 | .mv x | .un _ x | .conv _ x | .convs x | .box _ x | .load _ x | .nilc x | .faddr _ x _ | .field _ x _ | .ext x _ | .len x | .strlen x | .b2s x | .s2b x => [x]
 | .pick c a b => [c, a, b]
 | .bin _ x y | .eqa _ _ x y | .beq _ x y | .store _ x y | .iaddra _ _ x y | .iaddrs _ x y | .index _ _ x y | .sindex x y | .append _ _ x y | .appendz _ _ _ x y | .copy _ x y => [x, y]
 | .alloc _ _ => []
 | .build _ _ ps | .bslice _ _ _ ps => ps.map (·.2)
 | .slicea _ _ x lo hi mx | .slice _ x lo hi mx => x :: (lo.toList ++ hi.toList ++ mx.toList)
 | .sslice x lo hi => x :: (lo.toList ++ hi.toList)
 | .mks _ _ _ l c => [l, c]
 | .minmax _ l => l
 | .call _ l => l
 | .callv _ x l => x :: l
 | .fail => []
 | .eqnil _ x y | .eqsn _ x y => [x, y]
 | .s2a _ _ x | .frzb _ x => [x]
 | .mnz x => [x]
 | .mkm _ _ => []
 | .mset _ _ m x v => [m, x, v]
 | .mget _ _ _ _ m x => [m, x]
def quietOp : Op → Bool
 | .store _ _ _ => false
 | .mapUpdate _ _ _ _ => false
 | .call c => match c.callee with
  | .builtin .append => false
  | .builtin .copy => false
  | _ => true
 | _ => true
def dep (ops : List Oper) (i j : Nat) : Bool :=
 match ops[i]? with
 | some o => o.after.toList.any fun e => Region.binds .any e && e.on == j
 | none => false
def xslots : List X → List Nat
 | [] => []
 | .tmp t :: l => t :: xslots l
 | _ :: l => xslots l
def uses (o : AOper) : List Nat := xslots o.op.xs ++ (match o.guard with | some (t, _) => [t] | none => [])
def dstOf (al : List AOper) (j : Nat) : Option Nat := match al[j]? with | some o => o.dst | none => none
def dOK (ops : List Oper) (al : List AOper) (m : Nat) : Bool :=
 Nat.ble m ops.length &&
 (List.range ops.length).all (fun i => match ops[i]? with
  | some o => o.after.toList.all fun e => !Region.binds .any e || Nat.blt e.on i
  | none => true) &&
 (List.range m).all (fun i => match al[i]?, ops[i]? with
  | some x, some o => quietA x.op && quietOp o.op &&
   (List.range m).all (fun j => j == i || x.dst.isNone || dstOf al j != x.dst) &&
   (uses x).all fun t => (List.range m).all fun j => dstOf al j != some t || dep ops i j
  | _, _ => false) &&
 (List.range ops.length).all (fun i => Nat.blt i m || (List.range i).all fun j => dep ops i j || (List.range i).any fun k => Nat.blt j k && dep ops k j)
def drawOK (ops : List Oper) (al : List AOper) : Bool := (List.range (ops.length + 1)).any fun m => dOK ops al m
def anc (ops : List Oper) : Nat → Nat → Nat → Bool
 | 0, _, _ => false
 | n + 1, i, j => dep ops i j || (List.range i).any fun k => dep ops i k && anc ops n k j
def dly (ops : List Oper) (m i : Nat) : List Nat := (List.range m).filter fun j => !anc ops 2 i j
def dOK2 (ops : List Oper) (al : List AOper) (m : Nat) : Bool :=
 Nat.ble m ops.length &&
 (List.range ops.length).all (fun i => match ops[i]? with
  | some o => o.after.toList.all fun e => !Region.binds .any e || Nat.blt e.on i
  | none => true) &&
 (List.range m).all (fun i => match al[i]?, ops[i]? with
  | some x, some o => quietA x.op && quietOp o.op &&
   (List.range m).all (fun j => j == i || x.dst.isNone || dstOf al j != x.dst) &&
   (uses x).all fun t => (List.range m).all fun j => dstOf al j != some t || dep ops i j
  | _, _ => false) &&
 (List.range ops.length).all (fun i => Nat.blt i m || (match al[i]? with
  | some x => (List.range i).all fun j => anc ops 2 i j || (Nat.blt j m && (match al[j]? with
   | some y => y.guard.isNone && (match y.dst with
    | some t => x.dst != some t && !(uses x).contains t
    | none => false)
   | none => false))
  | none => false))
def nquiet : List Oper → List AOper → Nat
 | o :: ops, x :: al => bif quietA x.op && quietOp o.op then nquiet ops al + 1 else 0
 | _, _ => 0
def mQ (ops : List Oper) (al : List AOper) : Nat := ((List.range (nquiet ops al + 1)).reverse.find? fun m => dOK2 ops al m).getD 0
def tailL (ops : List Oper) (al : List AOper) (m : Nat) : Nat → Nat → List (AOper × List AOper)
 | _, 0 => []
 | k, n + 1 => match al[k]? with
  | some x => (x, (dly ops m k).filterMap fun j => al[j]?) :: tailL ops al m (k + 1) n
  | none => []
def drawC (ops : List Oper) (al : List AOper) (m : Nat) : ACode := .draw (al.take m) ((dly ops m m).filterMap fun j => al[j]?) (tailL ops al m m (ops.length - m))
def callsA (al : List AOper) : Bool := al.any fun x => match x.op with | .call _ _ => true | _ => false
def leastM (ops : List Oper) (al : List AOper) : Option Nat := (List.range (ops.length + 1)).find? fun m => dOK ops al m
def drawA (ops : List Oper) (al : List AOper) : ACode := match leastM ops al with
 | some m => bif callsA (al.drop m) then .draw1 (al.take m) (al.drop m) else .region true al
 | none => .region true al
mutual
def rawD : D → Bool
 | .raw _ => true
 | .agg _ l => rawDs l
 | _ => false
def rawDs : List D → Bool
 | [] => true
 | d :: l => rawD d && rawDs l
end
def floatA : AOp → Bool
 | .alloc _ z => rawD z
 | .bslice s _ _ _ => s.pure
 | .call _ _ => false
 | o => quietA o
def fOK (ops : List Oper) (al : List AOper) (i : Nat) : Bool := match ops[i]?, al[i]? with
 | some o, some x => floatA x.op && quietOp o.op && x.guard.isNone && x.dst.isSome
 | _, _ => false
def okF1 (ops : List Oper) (al : List AOper) (prev : Option Nat) (F : List Nat) (i : Nat) : Bool :=
 fOK ops al i && !F.contains i && F.all (fun j => dstOf al j != dstOf al i) && (match prev with
  | some c => anc ops 2 i c
  | none => true) && (match al[i]? with
  | some x => (uses x).all fun t => (List.range ops.length).all fun j => dstOf al j != some t || dep ops i j
  | none => false)
def okFs (ops : List Oper) (al : List AOper) (prev : Option Nat) : List Nat → List Nat → Bool
 | _, [] => true
 | F, i :: l => okF1 ops al prev F i && okFs ops al prev (F ++ [i]) l
def okC (ops : List Oper) (al : List AOper) (prev : Option Nat) (F : List Nat) (c : Nat) : Bool :=
 !F.contains c && (match prev with
  | some p => anc ops 2 c p
  | none => true) && (match al[c]? with
  | some x => F.all fun f => anc ops 2 c f || (match dstOf al f with
   | some t => x.dst != some t && !(uses x).contains t
   | none => false)
  | none => false)
def okG (ops : List Oper) (al : List AOper) : Option Nat → List Nat → List (Nat × List Nat) → Bool
 | _, _, [] => true
 | prev, F, (c, fl) :: gs => okC ops al prev F c && gs.all (fun g => g.1 != c) && !fl.contains c && okFs ops al (some c) F fl && okG ops al (some c) (F ++ fl) gs
def inG (gs : List (Nat × List Nat)) (i : Nat) : Bool := gs.any fun g => g.1 == i || g.2.contains i
def dOK3 (ops : List Oper) (al : List AOper) (f0 : List Nat) (gs : List (Nat × List Nat)) : Bool :=
 (List.range ops.length).all (fun i => match ops[i]? with
  | some o => o.after.toList.all fun e => !Region.binds .any e || Nat.blt e.on i
  | none => true) &&
 (List.range ops.length).all (fun i => f0.contains i || inG gs i) && okFs ops al none [] f0 && okG ops al none f0 gs
def plan0 (ops : List Oper) (al : List AOper) : List Nat := (List.range ops.length).foldl (fun F i => bif fOK ops al i && (List.range i).all (fun j => !dep ops i j || F.contains j) then F ++ [i] else F) []
def planG (ops : List Oper) (al : List AOper) : List Nat → Option (Nat × List Nat) → List (Nat × List Nat)
 | [], none => []
 | [], some g => [g]
 | i :: l, none => planG ops al l (some (i, []))
 | i :: l, some (c, fl) => bif fOK ops al i && anc ops 2 i c then planG ops al l (some (c, fl ++ [i])) else (c, fl) :: planG ops al l (some (i, []))
def atL (al : List AOper) (l : List Nat) : List AOper := l.filterMap fun j => al[j]?
def dlyF (ops : List Oper) (F : List Nat) (c : Nat) : List Nat := F.filter fun j => !anc ops 2 c j
def tailF (ops : List Oper) (al : List AOper) : List Nat → List (Nat × List Nat) → List (AOper × List AOper × List AOper)
 | _, [] => []
 | F, (c, fl) :: gs => match al[c]? with
  | some x => (x, atL al fl, atL al (dlyF ops F c ++ fl)) :: tailF ops al (dlyF ops F c ++ fl) gs
  | none => []
def drawF (ops : List Oper) (al : List AOper) (f0 : List Nat) (gs : List (Nat × List Nat)) : ACode := .drawf (atL al f0) (atL al f0) (tailF ops al f0 gs)
def plan (ops : List Oper) (al : List AOper) : List Nat × List (Nat × List Nat) := (plan0 ops al, planG ops al ((List.range ops.length).filter fun i => !(plan0 ops al).contains i) none)
def failC : ACode := .region false [⟨none, .fail, none⟩]
def comp (P : Program) (n : Nat) : Code → Option ACode
 | .skip => some .skip
 | .region _ ops draw => match cOps P n ops.toList ops.toList with
  | some l => bif !draw then some (.region false l) else bif P.follows .mixedOrders && drawOK ops.toList l then some (drawA ops.toList l) else
   bif P.follows .mixedOrders && dOK2 ops.toList l (mQ ops.toList l) then some (drawC ops.toList l (mQ ops.toList l)) else
   bif P.follows .mixedOrders && dOK3 ops.toList l (plan ops.toList l).1 (plan ops.toList l).2 then some (drawF ops.toList l (plan ops.toList l).1 (plan ops.toList l).2) else some failC
  | none => some failC
 | .seq a b => o2 (comp P n a) fun a => o2 (comp P n b) fun b => some (.seq a b)
 | .cond c a b => o2 (cX c) fun c => o2 (comp P n a) fun a => o2 (comp P n b) fun b => some (.cond c a b)
 | .block id a => o2 (comp P n a) fun a => some (.block id a)
 | .loop a => o2 (comp P n a) fun a => some (.loop a)
 | .exit id => some (.exit id)
 | .ret => some .ret
 | _ => some failC
end Go.Am

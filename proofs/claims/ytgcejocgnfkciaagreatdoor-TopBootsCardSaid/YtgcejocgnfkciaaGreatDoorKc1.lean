import Derived.Calls
import Derived.Laws.CopyRow
import Derived.Laws.AppendOwn
import Derived.Laws.Rows
import Derived.Laws.Entries
import Derived.Laws.Cells
import Derived.KernelRfl
namespace Go.Am
set_option linter.unusedSimpArgs false
set_option linter.unusedVariables false
inductive Sc where
 |int (k:IntKind)
 |bool
 |str
 deriving DecidableEq,Repr,Inhabited
def mE:Value→Sc→Bool
 | .int k _,.int k'=>k==k'
 | .bool _,.bool=>true
 | .string _,.str=>true
 | _,_=>false
abbrev uE:Sc:= .int .u8
inductive Sh where
 |leaf (k:Sc)
 |ref
 |nil
 |cons (a b:Sh)
 |ar (n:Nat) (s:Sh)
 deriving DecidableEq,Repr,Inhabited
abbrev L8:Sh:= .leaf (.int .u8)
abbrev dk:Sh:= .leaf (.int .u32)
abbrev L64:Sh:= .leaf (.int .u64)
abbrev LI:Sh:= .leaf (.int .i64)
abbrev LB:Sh:= .leaf .bool
abbrev LS:Sh:= .leaf .str
inductive D where
 |raw (v:Value)
 |ptr (s:Sh) (r:Nat) (p:List Nat)
 |sl (s:Sh) (r:Nat) (p:List Nat) (off len:Nat) (ex:Bool)
 |lF (n:Nat) (s:Sh) (r:Nat) (p:List Nat) (off:Nat)
 |cF (s:Sh) (l:List D) (ex:Bool)
 |b5 (d:D)
 |agg (s:Sh) (l:List D)
 |cA (l:List D)
 |mp (r:Nat)
 |om (s:Sh) (l:List D)
 |A0 (f:Nat) (s:Sh) (r:Nat) (p:List Nat)
 deriving Inhabited
mutual
def D.flat:D→List D
 | .agg _ l=>au l
 | .raw v=>[.raw v]
 | .ptr s r p=>[.ptr s r p]
 | .sl s r p o n e=>[.sl s r p o n e]
 | .lF n s r p o=>[.lF n s r p o]
 | .cF s l e=>[.cF s l e]
 | .b5 d=>[.b5 d]
 | .cA l=>[.cA l]
 | .mp r=>[.mp r]
 | .om s l=>[.om s l]
 | .A0 f s r p=>[.A0 f s r p]
def au:List D→List D
 |[]=>[]
 |d::l=>d.flat++au l
end
def D.ee:D→Bool
 | .agg _ _| .cA _=>false
 | .raw v=>v.oneCell'
 | _=>true
def Sh.size:Sh→Nat
 | .leaf _| .ref=>1
 | .nil=>0
 | .cons a b=>a.size+b.size
 | .ar n s=>n*s.size
def Sh.isAgg:Sh→Bool
 | .nil=>true
 | .cons _ b=>b.isAgg
 | .ar _ _=>true
 | _=>false
def Sh.count:Sh→Nat
 | .cons _ b=>b.count+1
 | .ar n _=>n
 | _=>0
def Sh.sub:Sh→Nat→Option Sh
 | .cons a _,0=>some a
 | .cons _ b,i+1=>b.sub i
 | .ar n s,i=>if i<n then some s else none
 | _,_=>none
def Sh.ju:Sh→Nat→Nat
 | .cons _ _,0=>0
 | .cons a b,i+1=>a.size+b.ju i
 | .ar _ s,i=>i*s.size
 | _,_=>0
def Sh.at:Sh→List Nat→Option Sh
 |s,[]=>some s
 |s,i::p=>match s.sub i with
  |some e=>e.at p
  |none=>none
def Sh.off:Sh→List Nat→Nat
 | _,[]=>0
 |s,i::p=>s.ju i+(match s.sub i with|some e=>e.off p|none=>0)
inductive aK:Sh→D→Prop where
 |leaf (k:Sc) (v:Value):mE v k=true→aK (.leaf k) (.raw v)
 |ref (d:D):d.ee=true→aK .ref d
 |agg (s:Sh) (l:List D):s.isAgg=true→l.length=s.count→(∀i e d,s.sub i=some e→l[i]?=some d→aK e d)→aK s (.agg s l)
def D.fits:D→Sh→Bool
 | .raw v,.leaf k=>mE v k
 | .agg s _,t=>s==t
 | .cA _,_=>false
 |d,.ref=>d.ee
 | _,_=>false
def D.get:D→List Nat→Option D
 |d,[]=>some d
 | .agg _ l,i::p=>match l[i]? with
  |some d=>d.get p
  |none=>none
 | _,_::_=>none
def D.set:D→List Nat→D→Option D
 | _,[],x=>some x
 | .agg s l, i :: p, x => match l[i]? with
  |some d=>match d.set p x with
   |some d'=>some (.agg s (l.set i d'))
   |none=>none
  |none=>none
 | _,_::_,_=>none
structure Row where
 sh:Sh
 els:List D
 deriving Inhabited
def cP(els:List D):List Nat→Option D
 |[]=>none
 |i::p=>match els[i]? with
  |some d=>d.get p
  |none=>none
def kg(els:List D):List Nat→D→Option (List D)
 |[],_=>none
 | i :: p, x => match els[i]? with
  |some d=>match d.set p x with
   |some d'=>some (els.set i d')
   |none=>none
  |none=>none
abbrev Rows:=List (Option Row)
abbrev Env:=List (Nat×D)
def look:Env→Nat→Option D
 |[],_=>none
 |(k,d)::e,t=>bif k==t then some d else look e t
def put(dst:Option Nat)(d:D)(env:Env):Env:=
 match dst with
 |some t=>(t,d)::env
 |none=>env
inductive X where
 |tmp (t:Nat)
 |const (v:Value)
 |aZ (g:Nat)
 deriving Inhabited
inductive mi where
 |mv (x:X)
 |pick (c a b:X)
 |bin (op:BinOp) (x y:X)
 |ZT (s:Sh) (neg:Bool) (x y:X)
 |beq (neg:Bool) (x y:X)
 |un (op:UnOp) (x:X)
 |conv (k:IntKind) (x:X)
 |En (x:X)
 |alloc (s:Sh) (z:D)
 |box (s:Sh) (x:X)
 |build (s:Sh) (z:List D) (parts:List (Nat×X))
 |ib (s:Sh) (n:Nat) (z:D) (parts:List (Nat×X))
 |load (s:Sh) (x:X)
 |store (s:Sh) (x v:X)
 |pW (x:X)
 |eN (s:Sh) (x:X) (i:Nat)
 |field (s:Sh) (x:X) (i:Nat)
 |uJ (n:Nat) (s:Sh) (x i:X)
 |lG (s:Sh) (x i:X)
 |index (n:Nat) (s:Sh) (x i:X)
 |sI (x i:X)
 |xR (n:Nat) (s:Sh) (x:X) (lo hi mx:Option X)
 |slice (s:Sh) (x:X) (lo hi mx:Option X)
 |xS (x:X) (lo hi:Option X)
 |mks (s:Sh) (bytes:Nat) (z:D) (len cap:X)
 |ext (x:X) (i:Nat)
 |len (x:X)
 |xT (x:X)
 |append (s:Sh) (bytes:Nat) (a b:X)
 |sJ (s:Sh) (bytes:Nat) (z:D) (a n:X)
 |copy (s:Sh) (a b:X)
 |uK (mx:Bool) (l:List X)
 |Vi (x:X)
 |s2b (x:X)
 |call (f:FuncId) (args:List X)
 |oK (fs:List Nat) (x:X) (args:List X)
 |fail
 |yU (neg:Bool) (x y:X)
 |KU (neg:Bool) (x y:X)
 |s2a (n:Nat) (s:Sh) (x:X)
 |NG (s:Sh) (x:X)
 |mnz (x:X)
 |clr (s:Sh) (z:D) (x:X)
 |NH (x y:X)
 |mkf (f:Nat) (x:X)
 |ZU (ks vs:Sh)
 |oL (ks vs:Sh) (m x v:X)
 |KV (ks vs:Sh) (ok:Bool) (z:D) (m x:X)
 deriving Inhabited
structure aT where
 dst:Option Nat
 op:mi
 guard:Option (Nat×Bool):=none
 deriving Inhabited
inductive aB where
 |skip
 |region (draw:Bool) (ops:List aT)
 |draw (pre dl:List aT) (tail:List (aT×List aT))
 |Qa (pre tail:List aT)
 |Vj (pre dl:List aT) (tail:List (aT×List aT×List aT))
 |seq (a b:aB)
 |cond (c:X) (a b:aB)
 |block (id:Nat) (a:aB)
 |loop (a:aB)
 |exit (id:Nat)
 |ret
 deriving Inhabited
inductive fa where
 |normal
 |exit (id:Nat)
 |ret
 deriving DecidableEq,Inhabited
abbrev jx:=List D→Rows→(D→Rows→Prop)→Prop
abbrev Fn:=List D→Rows→Option (D×Rows)
abbrev Eo:=List D→Rows→Option (D×Rows)
structure be where
 aZ:Nat→Option D
 fn:FuncId→Option Fn
 fU:FuncId→Option jx
 Vk:FuncId→Option Eo
def be.quiet(C:be):be:=⟨C.aZ,C.fn,fun _=>none,C.Vk⟩
def bd{α:Type}(x:Option α)(k:α→Prop):Prop:=
 match x with
 |some a=>k a
 |none=>False
def KW(q:Eo):jx:=fun ds rows K=>bd (q ds rows) fun r=>K r.1 (rows++r.2)
def be.KX(C:be)(f:FuncId):Option jx:=match C.fU f with
 |some A=>some A
 |none=>(C.Vk f).map KW
def ev(C:be)(env:Env):X→Option D
 | .tmp t=>look env t
 | .const v=>some (.raw v)
 | .aZ g=>match C.aZ g with
  |some d=>some (.b5 d)
  |none=>none
def KJ(C:be)(env:Env):List X→Option (List D)
 |[]=>some []
 | x :: l => match ev C env x with
  |some d=>match KJ C env l with
   |some ds=>some (d::ds)
   |none=>none
  |none=>none
def DX(C:be)(env:Env):Option X→Option (Option Int)
 |none=>some none
 |some x=>match ev C env x with
  |some (.raw (.int _ n))=>some (some n)
  | _=>none
def live(rows:Rows)(r:Nat):Option Row:=
 match rows[r]? with
 |some (some row)=>some row
 | _=>none
def elems(rows:Rows):D→Option (List D)
 | .raw (.slice none 0 0)=>some []
 | .cF _ l _=>some l
 | .sl _ r [] off len _=>match live rows r with
  |some row=>some ((row.els.drop off).take len)
  |none=>none
 | .sl _ r (i :: p) off len _ => match live rows r with
  |some row=>match cP row.els (i::p)with
   |some (.agg _ l)=>some ((l.drop off).take len)
   | _=>none
  |none=>none
 | _=>none
def dK:D→Option Nat
 | .raw (.slice none 0 0)=>some 0
 | .cF _ l _=>some l.length
 | .sl _ _ _ _ len _=>some len
 | _=>none
def bE(op:BinOp)(x y:Value)(k:D→Prop):Prop:=
 match op,x,y with
 | .shl,.int k1 a,.int _ b=>0≤b∧k (.raw (.int k1 (k1.wrap (a*2^(min b.toNat k1.bits)))))
 | .shr,.int k1 a,.int _ b=>0≤b∧k (.raw (.int k1 (a.fdiv (2^(min b.toNat k1.bits)))))
 | .add,.int k1 a,.int k2 b=>k1=k2∧k (.raw (.int k1 (k1.wrap (a+b))))
 | .sub,.int k1 a,.int k2 b=>k1=k2∧k (.raw (.int k1 (k1.wrap (a-b))))
 | .mul,.int k1 a,.int k2 b=>k1=k2∧k (.raw (.int k1 (k1.wrap (a*b))))
 | .quo,.int k1 a,.int k2 b=>k1=k2∧b≠0∧k (.raw (.int k1 (k1.wrap (a.tdiv b))))
 | .rem,.int k1 a,.int k2 b=>k1=k2∧b≠0∧k (.raw (.int k1 (a.tmod b)))
 | .and,.int k1 a,.int k2 b=>k1=k2∧k (.raw (.int k1 (k1.wrap (BitVec.ofInt k1.bits a&&&BitVec.ofInt k1.bits b).toNat)))
 | .or,.int k1 a,.int k2 b=>k1=k2∧k (.raw (.int k1 (k1.wrap (BitVec.ofInt k1.bits a|||BitVec.ofInt k1.bits b).toNat)))
 | .xor,.int k1 a,.int k2 b=>k1=k2∧k (.raw (.int k1 (k1.wrap (BitVec.ofInt k1.bits a^^^BitVec.ofInt k1.bits b).toNat)))
 | .andNot,.int k1 a,.int k2 b=>k1=k2∧k (.raw (.int k1 (k1.wrap (BitVec.ofInt k1.bits a&&&~~~BitVec.ofInt k1.bits b).toNat)))
 | .eql,.int k1 a,.int k2 b=>k1=k2∧k (.raw (.bool (decide (a=b))))
 | .neq,.int k1 a,.int k2 b=>k1=k2∧k (.raw (.bool (!decide (a=b))))
 | .lss,.int k1 a,.int k2 b=>k1=k2∧k (.raw (.bool (decide (a<b))))
 | .leq,.int k1 a,.int k2 b=>k1=k2∧k (.raw (.bool (decide (a≤b))))
 | .gtr,.int k1 a,.int k2 b=>k1=k2∧k (.raw (.bool (decide (b<a))))
 | .geq,.int k1 a,.int k2 b=>k1=k2∧k (.raw (.bool (decide (b≤a))))
 | .add,.string a,.string b=>((a.size+b.size:Nat):Int)≤IntKind.i64.max∧k (.raw (.string (a++b)))
 | .eql,.string a,.string b=>k (.raw (.bool (a.toList==b.toList)))
 | .neq,.string a,.string b=>k (.raw (.bool (!(a.toList==b.toList))))
 | _,_,_=>False
def gW:D→D→Option Bool
 | .raw (.int k a),.raw (.int k' b)=>if k=k' then some (decide (a=b))else none
 | .raw (.bool a),.raw (.bool b)=>some (a==b)
 | .raw (.string a),.raw (.string b)=>some (a.toList==b.toList)
 | _,_=>none
def Vl(op:UnOp)(x:Value)(k:D→Prop):Prop:=
 match op,x with
 | .neg,.int k1 n=>k (.raw (.int k1 (k1.wrap (0-n))))
 | .xor,.int k1 n=>k (.raw (.int k1 (k1.wrap (BitVec.ofInt k1.bits (if k1.signed then-1 else k1.max)^^^BitVec.ofInt k1.bits n).toNat)))
 | .not,.bool b=>k (.raw (.bool !b))
 | _,_=>False
def m9(C:be)(env:Env)(sub:Nat→Option Sh):List (Nat×X)→List D→Option (List D)
 |[],z=>some z
 | (i, x) :: r, z => match ev C env x with
  |some d=>match sub i with
   |some e=>bif d.fits e then m9 C env sub r (z.set i d)else none
   |none=>none
  |none=>none
def Sh.pure:Sh→Bool
 | .leaf _=>true
 | .ref=>false
 | .nil=>true
 | .cons a b=>a.pure&&b.pure
 | .ar _ s=>s.pure
mutual
def sK:D→D→Option Bool
 | .raw a,y=>gW (.raw a) y
 | .agg _ l,.agg _ l'=>yV l l'
 | _,_=>none
def yV:List D→List D→Option Bool
 |[],[]=>some true
 | a :: l, b :: l' => match sK a b with
  |some t=>match yV l l' with
   |some u=>some (t&&u)
   |none=>none
  |none=>none
 | _,_=>none
end
def cW{α β:Type}(f:α→Option β):List α→Option (List β)
 |[]=>some []
 | x :: l => match f x with
  |some y=>match cW f l with
   |some ys=>some (y::ys)
   |none=>none
  |none=>none
mutual
/-- does it bear an address of a row? -/
def aQ:D→Bool
 | .raw _=>false
 | .ptr _ _ _=>true
 | .sl _ _ _ _ _ _=>true
 | .lF _ _ _ _ _=>true
 | .cF s l _=>bif s.pure then false else aN l
 | .b5 d=>aQ d
 | .agg s l=>bif s.pure then false else aN l
 | .cA l=>aN l
 | .mp _=>true
 | .om _ _=>false
 | .A0 _ _ _ _=>true
def aN:List D→Bool
 |[]=>false
 |d::l=>aQ d||aN l
end
def view (rows : Rows) : Nat → D → Option D
 |0,_=>none
 | _+1,.raw v=>some (.raw v)
 | _+1,.om s l=>some (.om s l)
 | _+1,.b5 d=>bif aQ d then none else some (.b5 d)
 | _+1,.mp r=>match live rows r with
  |some row=>some (.om row.sh row.els)
  |none=>none
 |n+1,.cF s l e=>bif s.pure then some (.cF s l e)else match cW (view rows n) l with
  |some l'=>some (.cF s l' e)
  |none=>none
 |n+1,.agg s l=>bif s.pure then some (.agg s l)else match cW (view rows n) l with
  |some l'=>some (.agg s l')
  |none=>none
 | n + 1, .ptr s r p => match live rows r with
  | some row => match cP row.els p with
   |some d=>bif s.pure then some (.b5 d)else match view rows n d with
    |some d'=>some (.b5 d')
    |none=>none
   |none=>none
  |none=>none
 | n + 1, .sl s r p off len e => match elems rows (.sl s r p off len e) with
  |some l=>bif !(l.length==len)then none else bif s.pure then some (.cF s l e)else match cW (view rows n) l with
   |some l'=>some (.cF s l' e)
   |none=>none
  |none=>none
 | _+1,_=>none
mutual
def shift(n:Nat):D→D
 | .raw v=> .raw v
 | .ptr s r p=> .ptr s (r+n) p
 | .sl s r p o l e=> .sl s (r+n) p o l e
 | .lF m s r p o=> .lF m s (r+n) p o
 | .cF s l e=>bif s.pure then .cF s l e else .cF s (bh n l) e
 | .b5 d=> .b5 (shift n d)
 | .agg s l=>bif s.pure then .agg s l else .agg s (bh n l)
 | .cA l=> .cA (bh n l)
 | .mp r=> .mp (r+n)
 | .om s l=> .om s l
 | .A0 f s r p=> .A0 f s (r+n) p
def bh(n:Nat):List D→List D
 |[]=>[]
 |d::l=>shift n d::bh n l
end
def ae(n:Nat):Rows→Rows
 |[]=>[]
 |some ⟨s,els⟩::l=>some ⟨s,bif s.pure then els else bh n els⟩::ae n l
 |none::l=>none::ae n l
mutual
/-- does it bear no immutable list? -/
def bZ:D→Bool
 | .raw _=>true
 | .ptr _ _ _=>true
 | .sl _ _ _ _ _ _=>true
 | .lF _ _ _ _ _=>true
 | .cF _ _ _=>false
 | .b5 _=>false
 | .agg s l=>bif s.pure then true else fI l
 | .cA l=>fI l
 | .mp _=>true
 | .om _ _=>false
 | .A0 _ _ _ _=>true
def fI:List D→Bool
 |[]=>true
 |d::l=>bZ d&&fI l
end
def aS:Rows→Bool
 |[]=>true
 |some ⟨s,_⟩::l=>s.pure&&aS l
 |none::l=>aS l
def kill(rows:Rows):D→Rows
 | .sl _ r _ _ _ _=>rows.set r none
 | _=>rows
def owned:D→Bool
 | .sl _ _ [] 0 _ _=>true
 | _=>false
def exact:D→Bool
 | .sl _ _ _ _ _ e=>e
 | .cF _ _ e=>e
 | _=>false
def isNil:D→Bool
 | .raw (.slice none 0 0)=>true
 | _=>false
def most:Nat:=1099511627776
def eK(s:Sh):D→Bool
 | .raw (.slice none 0 0)=>true
 | .cF t _ _=>s==t
 | .sl t _ _ _ _ _=>s==t
 | _=>false
def uL(rows:Rows)(s:Sh)(bytes:Nat)(a:D)(news:List D)(k:D→Rows→Prop):Prop:=
 bd (elems rows a) fun old=>bd (dK a) fun n=>eK s a=true∧old.length=n∧(n+news.length)*bytes≤most∧n+news.length≤most∧
  bif isNil a||owned a then
   k (.sl s rows.length [] 0 (n+news.length) false) (kill rows a++[some ⟨s,old++news⟩])
  else exact a=true∧(news.length=0→k a rows)∧
   (news.length≠0→k (.sl s rows.length [] 0 (n+news.length) false) (rows++[some ⟨s,old++news⟩]))
def a9{α:Type}(l:List α)(off:Nat)(xs:List α):List α:=l.take off++xs++l.drop (off+xs.length)
def nc(rows:Rows)(s:Sh)(a:D)(src:List D)(k:D→Rows→Prop):Prop:=
 match a with
 | .raw (.slice none 0 0)=>k (.raw (.int .i64 0)) rows
 | .sl t r [] off len _ => t = s ∧ bd (live rows r) fun row => off + len ≤ row.els.length ∧
   k (.raw (.int .i64 (min src.length len:Nat))) (rows.set r (some ⟨row.sh,a9 row.els off (src.take (min src.length len))⟩))
 | .sl t r (i :: p) off len _ => t = s ∧ bd (live rows r) fun row => bd (cP row.els (i :: p)) fun
  | .agg u l=>off+len≤l.length∧bd (kg row.els (i::p) (.agg u (a9 l off (src.take (min src.length len))))) fun els=>
   k (.raw (.int .i64 (min src.length len:Nat))) (rows.set r (some ⟨row.sh,els⟩))
  | _=>False
 | _=>False
def ofBytes(b:ByteArray):List D:=b.data.toList.map fun x=> .raw (.int .u8 x.toNat)
def toByte:D→Option UInt8
 | .raw (.int .u8 n)=>some (UInt8.ofNat n.toNat)
 | _=>none
def n9(rows:Rows)(s:Sh):D→Option (List D)
 | .raw (.string b)=>bif s== .leaf uE then some (ofBytes b)else none
 |d=>bif eK s d then elems rows d else none
def mF(mx:Bool)(k:IntKind):Int→List D→Option Int
 |n,[]=>some n
 |n,.raw (.int k' m)::l=>bif k==k' then mF mx k (bif mx then max n m else min n m) l else none
 | _,_=>none
def IY(f:Nat):List Nat→Bool
 |[]=>false
 |x::l=>bif x==f then true else IY f l
def yW(mx:Bool):List D→Option (IntKind×Int)
 | .raw (.int k n)::l=>match mF mx k n l with
  |some m=>some (k,m)
  |none=>none
 | _=>none
def j7(l h m:Int)(n:Nat)(k:Nat→Nat→Nat→Prop):Prop:=
 0≤l∧l≤h∧h≤m∧m≤(n:Int)∧k l.toNat h.toNat m.toNat
def oM(c:Option Int)(h c' len:Nat)(e:Bool):Bool:=
 match c with
 |some _=>h==c'
 |none=>e&&h==len
def RW(c:Int)(b:ByteArray):Int:=match(List.range b.size).find? fun i=>b[i]! ==c.toNat.toUInt8 with
 |some i=>i
 |none=>-1
def yX:D→Value
 | .raw v=>v
 | _=>undef
def kv:D→Value
 | .raw v=>v
 | .agg _ l=> .agg ((au l).map yX).toArray
 | _=>undef
def dV(vs:Sh)(v:Value):D:=match vs with
 | .leaf _=> .raw v
 | _=> .agg vs (v.cells.toList.map .raw)
abbrev pP(ks vs:Sh):Sh:= .cons ks (.cons vs .nil)
def Hx:D→Option (D×Value)
 | .agg _ [k,e]=>some (k,kv e)
 | _=>none
def Hy(k:D):List D→Option (Option Value)
 |[]=>some none
 | d :: l => match Hx d with
  |some (k',v)=>match sK k k' with
   |some true=>some (some v)
   |some false=>Hy k l
   |none=>none
  |none=>none
def A1(rows:Rows)(s:Sh):D→Option (List D)
 | .mp r=>match live rows r with
  |some row=>bif row.sh==s then some row.els else none
  |none=>none
 | .om t l=>bif t==s then some l else none
 | _=>none
def yY(C:be)(rows:Rows)(f:FuncId)(ds:List D)(k:D→Rows→Prop):Prop:=
 match C.fn f with
 | some A => (aN ds = true → bd (cW (view rows 9) ds) fun ds' => bd (A ds' []) fun r => (bZ r.1 && aS r.2) = true ∧ k (shift rows.length r.1) (rows ++ ae rows.length r.2)) ∧
   (aN ds=false→bd (A ds []) fun r=>k (shift rows.length r.1) (rows++ae rows.length r.2))
 |none=>bd (C.KX f) fun A=>A ds rows k
def df (C : be) (env : Env) (rows : Rows) (o : mi) (k : D → Rows → Prop) : Prop :=
 match o with
 | .mv x=>bd (ev C env x) fun d=>k d rows
 | .pick c a b=>bd (ev C env c) fun
  | .raw (.bool t)=>bd (bif t then ev C env a else ev C env b) fun d=>k d rows
  | _=>False
 | .bin op x y => bd (ev C env x) fun
  | .raw a=>bd (ev C env y) fun
   | .raw b=>bE op a b fun d=>k d rows
   | _=>False
  | _=>False
 | .ZT s neg x y => bd (ev C env x) fun
  | .agg s1 l=>bd (ev C env y) fun
   | .agg s2 l'=>s1=s∧s2=s∧bd (yV l l') fun b=>k (.raw (.bool (bif neg then !b else b))) rows
   | _=>False
  | _=>False
 | .beq neg x y => bd (ev C env x) fun
  | .raw (.bool a)=>bd (ev C env y) fun
   | .raw (.bool b)=>k (.raw (.bool (bif neg then !(a==b)else a==b))) rows
   | _=>False
  | _=>False
 | .un op x=>bd (ev C env x) fun
  | .raw a=>Vl op a fun d=>k d rows
  | _=>False
 | .conv kd x=>bd (ev C env x) fun
  | .raw (.int _ n)=>k (.raw (.int kd (kd.wrap n))) rows
  | _=>False
 | .En x=>bd (ev C env x) fun
  | .raw (.string b)=>k (.raw (.string b)) rows
  | _=>False
 | .alloc s z=>k (.ptr s rows.length [0]) (rows++[some ⟨s,[z]⟩])
 | .box s x=>bd (ev C env x) fun d=>d.fits s=true∧k (.ptr s rows.length [0]) (rows++[some ⟨s,[d]⟩])
 | .build s z parts=>bd (m9 C env s.sub parts z) fun l=>k (.agg s l) rows
 | .ib s n z parts => bd (m9 C env (Sh.ar n s).sub parts (List.replicate n z)) fun l =>
   k (.sl s rows.length [] 0 n true) (rows++[some ⟨s,l⟩])
 | .load s x=>bd (ev C env x) fun
  | .ptr s' r p=>s'=s∧bd (live rows r) fun row=>bd (cP row.els p) fun d=>k d rows
  | .b5 d=>d.fits s=true∧k d rows
  | .lF m t r p off=>s= .ar m t∧bd (elems rows (.sl t r p off m false)) fun l=>l.length=m∧k (.agg s l) rows
  | _=>False
 | .store s x v => bd (ev C env x) fun
  | .ptr s' r p => bd (ev C env v) fun d => d.fits s = true ∧ s' = s ∧ bd (live rows r) fun row => bd (kg row.els p d) fun els =>
    k (.cA []) (rows.set r (some ⟨row.sh,els⟩))
  | _=>False
 | .pW x=>bd (ev C env x) fun
  | .ptr s r p=>k (.ptr s r p) rows
  | .b5 d=>k (.b5 d) rows
  | _=>False
 | .eN s x i=>bd (ev C env x) fun
  | .ptr s' r p=>s'=s∧bd (s.sub i) fun e=>k (.ptr e r (p++[i])) rows
  | .b5 (.agg s' l)=>s'=s∧bd (l[i]?) fun d=>k (.b5 d) rows
  | _=>False
 | .field s x i=>bd (ev C env x) fun
  | .agg s' l=>s'=s∧bd (l[i]?) fun d=>k d rows
  | _=>False
 | .uJ m s x i => bd (ev C env x) fun dx => bd (ev C env i) fun
  | .raw (.int _ n)=>match dx with
   | .ptr t r p=>t= .ar m s∧0≤n∧n<(m:Int)∧k (.ptr s r (p++[n.toNat])) rows
   | .b5 (.agg t l)=>t= .ar m s∧0≤n∧n<(m:Int)∧bd (l[n.toNat]?) fun d=>k (.b5 d) rows
   | _=>False
  | _=>False
 | .lG s x i => bd (ev C env x) fun dx => bd (ev C env i) fun
  | .raw (.int _ n)=>match dx with
   | .sl t r p off len _=>t=s∧0≤n∧n<(len:Int)∧k (.ptr s r (p++[off+n.toNat])) rows
   | .cF t l _=>t=s∧0≤n∧n<(l.length:Int)∧bd (l[n.toNat]?) fun d=>k (.b5 d) rows
   | _=>False
  | _=>False
 | .index m s x i => bd (ev C env x) fun
  | .agg t l=>bd (ev C env i) fun
   | .raw (.int _ n)=>t= .ar m s∧0≤n∧n<(m:Int)∧bd (l[n.toNat]?) fun d=>k d rows
   | _=>False
  | _=>False
 | .sI x i => bd (ev C env x) fun
  | .raw (.string b)=>bd (ev C env i) fun
   | .raw (.int _ n)=>0≤n∧bd (b.data.toList[n.toNat]?) fun c=>k (.raw (.int .u8 c.toNat)) rows
   | _=>False
  | _=>False
 | .xR m s x lo hi mx => bd (ev C env x) fun dx => bd (DX C env lo) fun l => bd (DX C env hi) fun h => bd (DX C env mx) fun c =>
   j7 (l.getD 0) (h.getD m) (c.getD m) m fun l h c=>match dx with
    | .ptr t r p=>t= .ar m s∧k (.sl s r p l (h-l) (h==c)) rows
    | .b5 (.agg t els)=>t= .ar m s∧k (.cF s ((els.drop l).take (h-l)) (h==c)) rows
    | _=>False
 | .slice s x lo hi mx => bd (ev C env x) fun dx => bd (DX C env lo) fun l => bd (DX C env hi) fun h => bd (DX C env mx) fun c =>
   bd (dK dx) fun n=>j7 (l.getD 0) (h.getD n) (c.getD (h.getD n)) n fun l h' c'=>match dx with
    | .raw (.slice none 0 0)=>k (.raw (.slice none 0 0)) rows
    | .sl t r p off len e=>t=s∧k (.sl s r p (off+l) (h'-l) (oM c h' c' len e)) rows
    | .cF t els e=>t=s∧k (.cF s ((els.drop l).take (h'-l)) (oM c h' c' els.length e)) rows
    | _=>False
 | .xS x lo hi=>bd (ev C env x) fun
  | .raw (.string b)=>bd (DX C env lo) fun l=>bd (DX C env hi) fun h=>j7 (l.getD 0) (h.getD b.size) b.size b.size fun l h _=>k (.raw (.string (b.extract l h))) rows
  | _=>False
 | .mks s bytes z len cap => bd (ev C env len) fun
  | .raw (.int _ l) => bd (ev C env cap) fun
   | .raw (.int _ c) => 0 ≤ l ∧ l ≤ c ∧ c * bytes ≤ (most : Int) ∧ c ≤ (most : Int) ∧
     k (.sl s rows.length [] 0 l.toNat (decide (l=c))) (rows++[some ⟨s,List.replicate l.toNat z⟩])
   | _=>False
  | _=>False
 | .ext x i=>bd (ev C env x) fun
  | .cA l=>bd (l[i]?) fun d=>k d rows
  | _=>False
 | .len x=>bd (ev C env x) fun d=>bd (dK d) fun n=>k (.raw (.int .i64 n)) rows
 | .xT x=>bd (ev C env x) fun
  | .raw (.string b)=>k (.raw (.int .i64 b.size)) rows
  | _=>False
 | .append s bytes a b=>bd (ev C env a) fun da=>bd (ev C env b) fun db=>bd (n9 rows s db) fun news=>(∀k,dK db=some k→news.length=k)∧uL rows s bytes da news k
 | .sJ s bytes z a n=>bd (ev C env a) fun da=>bd (ev C env n) fun
  | .raw (.int _ m)=>0≤m∧uL rows s bytes da (List.replicate m.toNat z) k
  | _=>False
 | .copy s a b=>bd (ev C env a) fun da=>bd (ev C env b) fun db=>bd (n9 rows s db) fun src=>(∀k,dK db=some k→src.length=k)∧nc rows s da src k
 | .uK mx l=>bd (KJ C env l) fun ds=>bd (yW mx ds) fun(kd,n)=>k (.raw (.int kd n)) rows
 | .Vi x=>bd (ev C env x) fun d=>eK (.leaf uE) d=true∧bd (elems rows d) fun l=>bd (dK d) fun n=>l.length=n∧bd (cW toByte l) fun bs=>k (.raw (.string ⟨bs.toArray⟩)) rows
 | .s2b x=>bd (ev C env x) fun
  | .raw (.string b)=>k (.cF (.leaf uE) (ofBytes b) false) rows
  | _=>False
 | .call f args=>bd (KJ C env args) fun ds=>yY C rows f ds k
 | .oK fs x args=>bd (ev C env x) fun
  | .raw (.func (.func f) c1 c2)=>c1=#[]∧c2=#[]∧IY f fs=true∧bd (KJ C env args) fun ds=>yY C rows f ds k
  | .A0 f s r p=>IY f fs=true∧bd (KJ C env args) fun ds=>yY C rows f (ds++[.ptr s r p]) k
  | _=>False
 | .mkf f x=>bd (ev C env x) fun
  | .ptr s r p=>k (.A0 f s r p) rows
  | _=>False
 | .clr s z x=>bd (ev C env x) fun d=>bd (dK d) fun n=>nc rows s d (List.replicate n z) fun _ rows=>k (.cA []) rows
 | .NH x y => bd (ev C env x) fun
  | .raw (.string b)=>bd (ev C env y) fun
   | .raw (.int .u8 c)=>k (.raw (.int .i64 (RW c b))) rows
   | _=>False
  | _=>False
 | .fail=>False
 | .yU neg x y => bd (ev C env x) fun dx => bd (ev C env y) fun
  | .raw (.pointer none)=>match dx with
   | .raw (.pointer none)=>k (.raw (.bool (!neg))) rows
   | .ptr _ _ _| .b5 _=>k (.raw (.bool neg)) rows
   | _=>False
  | _=>False
 | .KU neg x y => bd (ev C env x) fun dx => bd (ev C env y) fun
  | .raw (.slice none 0 0)=>match dx with
   | .raw (.slice none 0 0)=>k (.raw (.bool (!neg))) rows
   | .cF _ l _=>(l.length=0→k (.raw (.bool (!neg))) rows)∧k (.raw (.bool neg)) rows
   | .sl _ _ _ _ len _=>(len=0→k (.raw (.bool (!neg))) rows)∧k (.raw (.bool neg)) rows
   | _=>False
  | _=>False
 | .s2a n s x=>bd (ev C env x) fun
  | .sl t r p off len _=>t=s∧n≤len∧0<n∧k (.lF n s r p off) rows
  | .cF t l _=>t=s∧n≤l.length∧0<n∧k (.b5 (.agg (.ar n s) (l.take n))) rows
  | _=>False
 | .NG s x=>bd (ev C env x) fun
  | .sl t r [] off len ex=>t=s∧0<len∧bd (live rows r) fun row=>off+len≤row.els.length∧k (.sl s r [] off len ex) rows
  | _=>False
 | .mnz x=>bd (ev C env x) fun
  | .raw (.int kd n)=>kd= .i64∧0≤n∧n≤(most:Int)∧∀l:List (BitVec 8),l.length=n.toNat→k (.sl L8 rows.length [] 0 n.toNat false) (rows++[some ⟨L8,l.map fun b=> .raw (.int .u8 (b.toNat:Int))⟩])
  | _=>False
 | .ZU ks vs=>k (.mp rows.length) (rows++[some ⟨pP ks vs,[]⟩])
 | .oL ks vs m x v=>bd (ev C env m) fun
  | .mp r => bd (ev C env x) fun kd => bd (ev C env v) fun vd => kd.fits ks = true ∧ vd.fits vs = true ∧ bd (live rows r) fun row => row.sh = pP ks vs ∧
     k (.cA []) (rows.set r (some ⟨row.sh,.agg (pP ks vs) [kd,vd]::row.els⟩))
  | _=>False
 | .KV ks vs ok z m x => bd (ev C env m) fun dm => bd (ev C env x) fun kd => kd.fits ks = true ∧ bd (A1 rows (pP ks vs) dm) fun els => bd (Hy kd els) fun o =>
   k (match o with
    |some v=>bif ok then .cA [dV vs v,.raw (.bool true)]else dV vs v
    |none=>bif ok then .cA [z,.raw (.bool false)]else z) rows
def dt(C:be):List aT→Env→Rows→(Env→Rows→Prop)→Prop
 |[],env,rows,k=>k env rows
 |⟨dst,o,none⟩::os,env,rows,k=>df C env rows o fun d rows=>dt C os (put dst d env) rows k
 |⟨dst,o,some (g,want)⟩::os,env,rows,k=>bd (look env g) fun
  | .raw (.bool t)=>(t=want→df C env rows o fun d rows=>dt C os (put dst d env) rows k)∧(t=!want→dt C os (put dst (.cA []) env) rows k)
  | .cA []=>dt C os (put dst (.cA []) env) rows k
  | _=>False
def yZ(env:Env)(rows:Rows)(dst:Option Nat):D→Rows→Prop:=fun d r=>(match dst with
 |some t=>look env t=some d
 |none=>False)∧r=rows
def ra(C:be)(env:Env)(rows:Rows):List aT→Prop
 |[]=>True
 |y::l=>df C env rows y.op (yZ env rows y.dst)∧ra C env rows l
def uM(C:be):List (aT×List aT)→Env→Rows→(Env→Rows→Prop)→Prop
 |[],env,rows,K=>K env rows
 |(x,dl)::l,env,rows,K=>dt C [x] env rows fun env rows=>ra C env rows dl∧uM C l env rows K
def Vm(s:Sh)(els:List D)(rows:Rows):D→Prop
 | .ptr s' r p=>s'=s∧p=[0]∧live rows r=some ⟨s,els⟩
 | _=>False
def isSl(s:Sh)(n:Nat)(els:List D)(rows:Rows):D→Prop
 | .sl s' r p off len ex=>s'=s∧p=[]∧off=0∧len=n∧ex=true∧live rows r=some ⟨s,els⟩
 | _=>False
def jc(C:be)(env:Env)(rows:Rows)(o:mi)(t:Nat):Prop:=match o with
 | .alloc s z=>bd (look env t) (Vm s [z] rows)
 | .ib s n z parts=>bd (m9 C env (Sh.ar n s).sub parts (List.replicate n z)) fun l=>bd (look env t) (isSl s n l rows)
 |o=>df C env rows o (yZ env rows (some t))
def oN(C:be)(env:Env)(rows:Rows):List aT→Prop
 |[]=>True
 |y::l=>(match y.dst with
  |some t=>jc C env rows y.op t
  |none=>False)∧oN C env rows l
def xc(C:be):List (aT×List aT×List aT)→Env→Rows→(Env→Rows→Prop)→Prop
 |[],env,rows,K=>K env rows
 |(x,fl,dl)::l,env,rows,K=>dt C [x] env rows fun env rows=>dt C.quiet fl env rows fun env rows=>oN C.quiet env rows dl∧xc C l env rows K
def jd(body:(fa→Env→Rows→Prop)→Env→Rows→Prop)(Q:fa→Env→Rows→Prop):Nat→Env→Rows→Prop
 |0,_,_=>False
 |n+1,env,rows=>body (fun e env rows=>match e with| .normal=>jd body Q n env rows|e=>Q e env rows) env rows
def aw(C:be):aB→(fa→Env→Rows→Prop)→Env→Rows→Prop
 | .skip,Q,env,rows=>Q .normal env rows
 | .region dr ops,Q,env,rows=>dt (bif dr then C.quiet else C) ops env rows (Q .normal)
 | .draw pre dl tail,Q,env,rows=>dt C.quiet pre env rows fun env rows=>ra C.quiet env rows dl∧uM C.quiet tail env rows (Q .normal)
 | .Qa pre tail,Q,env,rows=>dt C.quiet pre env rows fun env rows=>dt C tail env rows (Q .normal)
 | .Vj pre dl tail,Q,env,rows=>dt C.quiet pre env rows fun env rows=>oN C.quiet env rows dl∧xc C tail env rows (Q .normal)
 | .seq a b,Q,env,rows=>aw C a (fun e env rows=>match e with| .normal=>aw C b Q env rows|e=>Q e env rows) env rows
 | .cond c a b,Q,env,rows=>bd (ev C env c) fun
  | .raw (.bool t)=>(t=true→aw C a Q env rows)∧(t=false→aw C b Q env rows)
  | _=>False
 | .block id a,Q,env,rows=>aw C a (fun e env rows=>match e with| .exit i=>(i=id→Q .normal env rows)∧(i≠id→Q (.exit i) env rows)|e=>Q e env rows) env rows
 | .loop a,Q,env,rows=>∃n,jd (aw C a) Q n env rows
 | .exit id,Q,env,rows=>Q (.exit id) env rows
 | .ret,Q,env,rows=>Q .ret env rows
end Go.Am
namespace Go.Am
set_option linter.unusedSimpArgs false
set_option linter.unusedVariables false
def shL(f:TypeId→Option Sh):List Field→Option Sh
 |[]=>some .nil
 | x :: l => match f x.type with
  |some a=>match shL f l with
   |some b=>some (.cons a b)
   |none=>none
  |none=>none
def shT(P:Program):Nat→TypeId→Option Sh
 |0,_=>none
 | n + 1, t => match P.underlying t with
  |some (.struct fs)=>shL (shT P n) fs.toList
  |some (.array m e)=>match shT P n e with
   |some s=>some (.ar m s)
   |none=>none
  |some .bool=>some (.leaf .bool)
  |some (.int k)=>some (.leaf (.int k))
  |some .string=>some (.leaf .str)
  |some (.pointer _)|some (.slice _)|some (.map _ _)|some (.func _ _ _)|some (.interface _)=>some .ref
  | _=>none
def sh(P:Program)(t:TypeId):Option Sh:=
 match shT P 40 t with
 |some s=>match P.info? t with
  |some i=>bif i.size==s.size then some s else none
  |none=>none
 |none=>none
def zL(f:TypeId→Option D):List Field→Option (List D)
 |[]=>some []
 | x :: l => match f x.type with
  |some a=>match zL f l with
   |some b=>some (a::b)
   |none=>none
  |none=>none
def zT (P : Program) : Nat → TypeId → Option D
 |0,_=>none
 | n + 1, t => match P.underlying t with
  | some (.struct fs) => match shT P (n + 1) t with
   |some s=>match zL (zT P n) fs.toList with
    |some l=>some (.agg s l)
    |none=>none
   |none=>none
  | some (.array m e) => match shT P (n + 1) t with
   |some s=>match zT P n e with
    |some d=>some (.agg s (List.replicate m d))
    |none=>none
   |none=>none
  |some .bool=>some (.raw (.bool false))
  |some (.int k)=>some (.raw (.int k 0))
  |some .string=>some (.raw (.string .empty))
  |some (.pointer _)=>some (.raw (.pointer none))
  |some (.slice _)=>some (.raw (.slice none 0 0))
  |some (.map _ _)=>some (.raw (.map none))
  |some (.func _ _ _)=>some (.raw .nilFunc)
  |some (.interface _)=>some (.raw .nilIface)
  | _=>none
def Vn:Value→Value→Bool
 | .bool a,.bool b=>a==b
 | .int k a,.int k' b=>k==k'&&a==b
 | .string a,.string b=>a.data.toList==b.data.toList
 | .pointer none,.pointer none=>true
 | .slice none 0 0,.slice none 0 0=>true
 | .map none,.map none=>true
 | .nilFunc,.nilFunc=>true
 | .nilIface,.nilIface=>true
 | _,_=>false
def xU:List D→List Value→Bool
 |[],[]=>true
 | .raw v::l,u::r=>Vn v u&&xU l r
 | _,_=>false
def NI:TypeDesc→Bool
 | .struct _| .array _ _=>true
 | _=>false
def D.isAgg:D→Bool
 | .agg _ _=>true
 | _=>false
def zero(P:Program)(t:TypeId):Option D:=
 match zT P 40 t with
 | some d => match P.info? t with
  |some i=>match i.zero with
   |some v=>bif xU d.flat v.cells.toList&&(match v with| .agg _=>d.isAgg| .tuple _=>false| _=>!d.isAgg)then some d else none
   |none=>none
  |none=>none
 |none=>none
def mG(P:Program)(t:TypeId):Nat:=match P.info? t with|some i=>i.bytes|none=>0
def cX:Operand→Option X
 | .tmp t=>some (.tmp t)
 | .const v=>bif v.oneCell' then some (.const v)else none
 | .global g=>some (.aZ g)
 | .func f=>some (.const (.func (.func f) #[] #[]))
def Vo:List Operand→Option (List X)
 |[]=>some []
 | x :: l => match cX x with
  |some a=>match Vo l with
   |some b=>some (a::b)
   |none=>none
  |none=>none
def KY:Option Operand→Option (Option X)
 |none=>some none
 |some x=>match cX x with
  |some a=>some (some a)
  |none=>none
def nK:List (Nat×Operand)→Option (List (Nat×X))
 |[]=>some []
 | (i, x) :: l => match cX x with
  |some a=>match nK l with
   |some b=>some ((i,a)::b)
   |none=>none
  |none=>none
def Ep(s:Sh):Nat→List Field→Bool
 | _,[]=>true
 |i,f::l=>f.offset==s.ju i&&Ep s (i+1) l
def y5(P:Program)(s:Sh):Nat→List Field→Bool
 | _,[]=>true
 |i,f::l=>(match P.info? f.type,s.sub i with|some a,some e=>a.size==e.size| _,_=>false)&&y5 P s (i+1) l
def Vp:D→List D
 | .agg _ l=>l
 | _=>[]
def o2{α β:Type}(x:Option α)(f:α→Option β):Option β:=match x with|some a=>f a|none=>none
def xd{α:Type}(b:Bool)(x:Option α):Option α:=bif b then x else none
def xf(P:Program)(t:TypeId):Option TypeId:=match P.underlying t with|some (.slice e)=>some e| _=>none
def kj(P:Program)(t:TypeId)(s:Sh):Bool:=match P.underlying t with
 |some d=>NI d==s.isAgg
 |none=>false
def NJ(P:Program)(rec:TypeId→Sh→Bool)(s:Sh):Nat→List Field→Bool
 | _,[]=>true
 |i,f::fs=>f.name != "_" &&f.offset==s.ju i&&(match s.sub i with
  |some e=>(sh P f.type==some e)&&kj P f.type e&&rec f.type e
  |none=>false)&&NJ P rec s (i+1) fs
def A2(P:Program):Nat→TypeId→Sh→Bool
 |0,_,_=>false
 | n + 1, t, s => match P.underlying t with
  |some (.struct fs)=>!P.stoodInHeld t&&s.isAgg&&fs.toList.length==s.count&&NJ P (A2 P n) s 0 fs.toList
  |some (.array m e)=>match s with
   | .ar m' se=>m==m'&&(sh P e==some se)&&kj P e se&&A2 P n e se
   | _=>false
  |some (.int k)=>s== .leaf (.int k)
  |some .bool=>s== .leaf .bool
  |some .string=>s== .leaf .str
  | _=>false
def mq:Sh→Bool
 | .nil=>true
 | .cons (.leaf _) b=>mq b
 | _=>false
def A3(P:Program)(t:TypeId):Bool:=match P.underlying t with
 |some (.int _)|some .bool|some .string=>true
 | _=>false
def rf(P:Program)(t:TypeId)(s:Sh):Bool:=match P.underlying t with
 |some .string=>s== .leaf .str
 |some (.struct fs)=>s.isAgg&&mq s&&A2 P 40 t s&&fs.toList.all fun f=>A3 P f.type
 | _=>false
def B8:Sh→Bool
 | .leaf _=>true
 |s=>s.isAgg&&mq s
def mapT(P:Program)(t:TypeId):Option (TypeId×TypeId):=match P.underlying t with|some (.map a b)=>some (a,b)| _=>none
def KZ(P:Program)(t:TypeId):Option (Sh×Sh):=o2 (mapT P t) fun(kt,et)=>o2 (sh P kt) fun ks=>o2 (sh P et) fun vs=>xd (rf P kt ks&&B8 vs) (some (ks,vs))
def y6:String:=match Extern.BytealgIndexByte.rows with|_::(s,_)::_=>s|_=> ""
def wc(s:String):Bool:=(Extern.BytealgMakeNoZero.typedRows.map (·.1)).contains s
def Qb(P:Program)(c:Call):List Nat:=(List.range P.funcs.size).filter fun f=>match P.funcs[f]? with
 |some fn=>fn.params==c.argTypes&&fn.body.isSome&&fn.name != "runtime.NumGoroutine"
 |none=>false
def Vq (P : Program) (c : Call) : Option mi :=
 match c.callee with
 | .value (.func f) => o2 (P.funcs[f]?) fun fn => bif fn.body.isSome then xd (fn.name != "runtime.NumGoroutine") (o2 (Vo c.args.toList) fun l => some (.call f l)) else
   bif fn.name==y6&&fn.origin== "" then(match c.args.toList with
    |[x,y]=>o2 (cX x) fun x=>o2 (cX y) fun y=>some (.NH x y)
    | _=>none)else
   xd (wc fn.name&&fn.origin== "") (match c.args.toList,fn.resultTypes.toList with
    |[x],[t]=>match P.underlying t with
     |some (.slice e)=>xd (sh P e==some (.leaf uE)) (o2 (cX x) fun x=>some (.mnz x))
     | _=>none
    | _,_=>none)
 | .value (.tmp t)=>o2 (Vo c.args.toList) fun l=>some (.oK (Qb P c) (.tmp t) l)
 | .builtin .len => match c.args.toList, c.argTypes.toList with
  |[x],t::_=>o2 (cX x) fun x=>match P.underlying t with
   |some (.slice _)=>some (.len x)
   |some .string=>some (.xT x)
   |some (.array n _)=>some (.mv (.const (.int .i64 n)))
   | _=>none
  | _,_=>none
 | .builtin .append => match c.args.toList, c.argTypes.toList with
  |[a,b],[t,u]=>o2 (cX a) fun a=>o2 (cX b) fun b=>o2 (xf P t) fun e=>o2 (sh P e) fun s=>o2 (zero P e) fun z=>xd (s.size !=0&&z.fits s) (match P.underlying u with
   |some (.slice e')=>xd (sh P e'==some s) (some (.append s (mG P e) a b))
   |some .string=>xd (s== .leaf uE) (some (.append s (mG P e) a b))
   |some (.int _)=>some (.sJ s (mG P e) z a b)
   | _=>none)
  | _,_=>none
 | .builtin .copy => match c.args.toList, c.argTypes.toList with
  |[a,b],[t,u]=>o2 (cX a) fun a=>o2 (cX b) fun b=>o2 (xf P t) fun e=>o2 (sh P e) fun s=>xd (s.size !=0) (match P.underlying u with
   |some (.slice e')=>xd (sh P e'==some s) (some (.copy s a b))
   |some .string=>xd (s== .leaf uE) (some (.copy s a b))
   | _=>none)
  | _,_=>none
 | .builtin .clear=>match c.args.toList,c.argTypes.toList with
  |[a],[t]=>o2 (cX a) fun a=>o2 (xf P t) fun e=>o2 (sh P e) fun s=>o2 (zero P e) fun z=>xd (s.size !=0&&z.fits s) (some (.clr s z a))
  | _,_=>none
 | .builtin .min=>o2 (Vo c.args.toList) fun l=>some (.uK false l)
 | .builtin .max=>o2 (Vo c.args.toList) fun l=>some (.uK true l)
 | _=>none
def cOp0(P:Program)(o:Op):Option mi:=
 match o with
 | .move x| .assign x=>o2 (cX x) fun x=>some (.mv x)
 | .pick c a b=>o2 (cX c) fun c=>o2 (cX a) fun a=>o2 (cX b) fun b=>some (.pick c a b)
 | .alloc t=>o2 (sh P t) fun s=>o2 (zero P t) fun z=>xd (z.fits s) (some (.alloc s z))
 | .box t x=>o2 (sh P t) fun s=>o2 (cX x) fun x=>some (.box s x)
 | .build t parts=>o2 (sh P t) fun s=>o2 (zero P t) fun z=>o2 (nK parts.toList) fun ps=>match P.underlying t with
  |some (.struct fs)=>xd (z.fits s&&z.isAgg&&Ep s 0 fs.toList&&y5 P s 0 fs.toList&&fs.toList.length==s.count) (some (.build s (Vp z) ps))
  |some (.array n e)=>o2 (sh P e) fun se=>xd (z.fits s&&z.isAgg&&s== .ar n se) (some (.build s (Vp z) ps))
  | _=>none
 | .buildSlice t n parts=>o2 (xf P t) fun e=>o2 (sh P e) fun s=>o2 (zero P e) fun z=>o2 (nK parts.toList) fun ps=>xd (z.fits s&&s.size !=0&&Nat.ble (n*s.size) 16777216) (some (.ib s n z ps))
 | .load t x=>o2 (sh P t) fun s=>o2 (cX x) fun x=>xd (kj P t s) (some (.load s x))
 | .store t a v=>o2 (sh P t) fun s=>o2 (cX a) fun a=>o2 (cX v) fun v=>some (.store s a v)
 | .nilCheck x=>o2 (cX x) fun x=>some (.pW x)
 | .binOp op t x y _ => o2 (cX x) fun x => o2 (cX y) fun y => match P.underlying t with
  |some (.int _)|some .string=>some (.bin op x y)
  |some .bool=>match op with
   | .eql=>some (.beq false x y)
   | .neq=>some (.beq true x y)
   | _=>none
  |some (.struct _)|some (.array _ _)=>o2 (sh P t) fun s=>xd (A2 P 40 t s&&!(P.eqGuardType P.depth t)) (match op with
   | .eql=>some (.ZT s false x y)
   | .neq=>some (.ZT s true x y)
   | _=>none)
  |some (.pointer _)=>match op with
   | .eql=>some (.yU false x y)
   | .neq=>some (.yU true x y)
   | _=>none
  |some (.slice _)=>match op with
   | .eql=>some (.KU false x y)
   | .neq=>some (.KU true x y)
   | _=>none
  | _=>none
 | .unOp op _ x=>o2 (cX x) fun x=>some (.un op x)
 | .convert src dst x => o2 (cX x) fun x => match P.underlying src, P.underlying dst with
  |some (.int _),some (.int k)=>some (.conv k x)
  |some .string,some .string=>some (.En x)
  |some .string,some (.slice e)=>match P.underlying e with
   |some (.int .u8)=>some (.s2b x)
   | _=>none
  |some (.slice e),some .string=>match P.underlying e with
   |some (.int .u8)=>some (.Vi x)
   | _=>none
  |some (.slice _),some (.slice e)=>xd (src==dst) (o2 (sh P e) fun s=>xd (s== .leaf uE) (match P.underlying e with
   |some (.int .u8)=>some (.NG s x)
   | _=>none))
  | _,_=>none
 | .makeSlice t l c=>o2 (xf P t) fun e=>o2 (sh P e) fun s=>o2 (zero P e) fun z=>o2 (cX l) fun l=>o2 (cX c) fun c=>xd (z.fits s&&s.size !=0) (some (.mks s (mG P e) z l c))
 | .makeFunc (.func f) first cap=>xd first.isEmpty (match cap.toList with
  |[x]=>o2 (cX x) fun x=>some (.mkf f x)
  | _=>none)
 | .makeMap t none=>o2 (KZ P t) fun(ks,vs)=>some (.ZU ks vs)
 | .mapUpdate t m k v=>o2 (KZ P t) fun(ks,vs)=>o2 (cX m) fun m=>o2 (cX k) fun k=>o2 (cX v) fun v=>some (.oL ks vs m k v)
 | .lookup t m k ok=>o2 (mapT P t) fun(_,et)=>o2 (KZ P t) fun(ks,vs)=>o2 (zero P et) fun z=>o2 (cX m) fun m=>o2 (cX k) fun k=>xd (z.fits vs) (some (.KV ks vs ok z m k))
 | .fieldAddr t x i => o2 (sh P t) fun s => o2 (cX x) fun x => match P.underlying t with
  |some (.struct fs)=>match fs[i]?,s.sub i with
   |some f,some e=>xd (f.offset==s.ju i&&(match P.info? f.type with|some a=>a.size==e.size|none=>false)&&e.size !=0) (some (.eN s x i))
   | _,_=>none
  | _=>none
 | .field t x i => o2 (sh P t) fun s => o2 (cX x) fun x => match P.underlying t with
  |some (.struct fs)=>match fs[i]?,s.sub i with
   |some f,some e=>xd (f.offset==s.ju i&&sh P f.type==some e&&kj P f.type e) (some (.field s x i))
   | _,_=>none
  | _=>none
 | .indexAddr t x i=>o2 (cX x) fun x=>o2 (cX i) fun i=>match P.underlying t with
  |some (.array n e)=>o2 (sh P e) fun s=>some (.uJ n s x i)
  |some (.slice e)=>o2 (sh P e) fun s=>some (.lG s x i)
  | _=>none
 | .index t x i=>o2 (cX x) fun x=>o2 (cX i) fun i=>match P.underlying t with
  |some (.array n e)=>o2 (sh P e) fun s=>xd (kj P e s) (some (.index n s x i))
  |some .string=>some (.sI x i)
  | _=>none
 | .slice t x lo hi mx=>o2 (cX x) fun x=>o2 (KY lo) fun lo=>o2 (KY hi) fun hi=>o2 (KY mx) fun mx=>match P.underlying t with
  |some (.array n e)=>o2 (sh P e) fun s=>xd (mx.isNone||hi.isSome) (some (.xR n s x lo hi mx))
  |some (.slice e)=>o2 (sh P e) fun s=>xd (mx.isNone||hi.isSome) (some (.slice s x lo hi mx))
  |some .string=>xd mx.isNone (some (.xS x lo hi))
  | _=>none
 | .extract x i=>o2 (cX x) fun x=>some (.ext x i)
 | .call c=>Vq P c
 | .sliceToArrayPointer t x=>match P.underlying t with
  |some (.array n e)=>o2 (sh P e) fun s=>o2 (cX x) fun x=>some (.s2a n s x)
  | _=>none
 | _=>none
def ZV(P:Program)(o:Op):Option mi:=
 match cOp0 P o with
 |some a=>some a
 |none=>some .fail
def kn(ops:List Oper)(g:Option (Nat×Bool)):Option (Option (Nat×Bool)):=
 match g with
 |none=>some none
 | some (j, want) => match ops[j]? with
  |some o=>match o.dst with
   |some t=>some (some (t,want))
   |none=>none
  |none=>none
def NK(n:Nat):Option Nat→Bool
 |none=>true
 |some t=>Nat.blt t n
def uN(P:Program)(n:Nat)(all:List Oper):List Oper→Option (List aT)
 |[]=>some []
 |o::l=>xd (NK n o.dst) (o2 (ZV P o.op) fun a=>o2 (kn all o.guard) fun g=>o2 (uN P n all l) fun r=>some (⟨o.dst,a,g⟩::r))
def ko:mi→Bool
 | .store _ _ _=>false
 | .append _ _ _ _=>false
 | .sJ _ _ _ _ _=>false
 | .copy _ _ _=>false
 | .oK _ _ _=>false
 | .KU _ _ _=>false
 | .mnz _=>false
 | .clr _ _ _=>false
 | .mkf _ _=>false
 | .NH _ _=>false
 | .oL _ _ _ _ _=>false
 | _=>true
def mi.xs:mi→List X
 | .mv x| .un _ x| .conv _ x| .En x| .box _ x| .load _ x| .pW x| .eN _ x _| .field _ x _| .ext x _| .len x| .xT x| .Vi x| .s2b x=>[x]
 | .pick c a b=>[c,a,b]
 | .bin _ x y| .ZT _ _ x y| .beq _ x y| .store _ x y| .uJ _ _ x y| .lG _ x y| .index _ _ x y| .sI x y| .append _ _ x y| .sJ _ _ _ x y| .copy _ x y=>[x,y]
 | .alloc _ _=>[]
 | .build _ _ ps| .ib _ _ _ ps=>ps.map (·.2)
 | .xR _ _ x lo hi mx| .slice _ x lo hi mx=>x::(lo.toList++hi.toList++mx.toList)
 | .xS x lo hi=>x::(lo.toList++hi.toList)
 | .mks _ _ _ l c=>[l,c]
 | .uK _ l=>l
 | .call _ l=>l
 | .oK _ x l=>x::l
 | .fail=>[]
 | .yU _ x y| .KU _ x y=>[x,y]
 | .s2a _ _ x| .NG _ x=>[x]
 | .mnz x| .mkf _ x| .clr _ _ x=>[x]
 | .NH x y=>[x,y]
 | .ZU _ _=>[]
 | .oL _ _ m x v=>[m,x,v]
 | .KV _ _ _ _ m x=>[m,x]
def fJ:Op→Bool
 | .store _ _ _=>false
 | .mapUpdate _ _ _ _=>false
 | .call c=>match c.callee with
  | .builtin .append=>false
  | .builtin .copy=>false
  | .builtin .clear=>false
  | _=>true
 | _=>true
def uF(ops:List Oper)(i j:Nat):Bool:=
 match ops[i]? with
 |some o=>o.after.toList.any fun e=>Region.binds .any e&&e.on==j
 |none=>false
def uO:List X→List Nat
 |[]=>[]
 | .tmp t::l=>t::uO l
 | _::l=>uO l
def nf(o:aT):List Nat:=uO o.op.xs++(match o.guard with|some (t,_)=>[t]|none=>[])
def bF(al:List aT)(j:Nat):Option Nat:=match al[j]? with|some o=>o.dst|none=>none
def dOK(ops:List Oper)(al:List aT)(m:Nat):Bool:=
 Nat.ble m ops.length&&
 (List.range ops.length).all (fun i=>match ops[i]? with
  |some o=>o.after.toList.all fun e=>!Region.binds .any e||Nat.blt e.on i
  |none=>true)&&
 (List.range m).all (fun i=>match al[i]?,ops[i]? with
  |some x,some o=>ko x.op&&fJ o.op&&
   (List.range m).all (fun j=>j==i||x.dst.isNone||bF al j !=x.dst)&&
   (nf x).all fun t=>(List.range m).all fun j=>bF al j !=some t||uF ops i j
  | _,_=>false)&&
 (List.range ops.length).all (fun i=>Nat.blt i m||(List.range i).all fun j=>uF ops i j||(List.range i).any fun k=>Nat.blt j k&&uF ops k j)
def NL(ops:List Oper)(al:List aT):Bool:=(List.range (ops.length+1)).any fun m=>dOK ops al m
def G6(ops:List Oper):Nat→Nat→Nat→Bool
 |0,_,_=>false
 |n+1,i,j=>uF ops i j||(List.range i).any fun k=>uF ops i k&&G6 ops n k j
def dly(ops:List Oper)(m i:Nat):List Nat:=(List.range m).filter fun j=>!G6 ops 2 i j
def RX (ops : List Oper) (al : List aT) (m : Nat) : Bool :=
 Nat.ble m ops.length&&
 (List.range ops.length).all (fun i=>match ops[i]? with
  |some o=>o.after.toList.all fun e=>!Region.binds .any e||Nat.blt e.on i
  |none=>true)&&
 (List.range m).all (fun i=>match al[i]?,ops[i]? with
  |some x,some o=>ko x.op&&fJ o.op&&
   (List.range m).all (fun j=>j==i||x.dst.isNone||bF al j !=x.dst)&&
   (nf x).all fun t=>(List.range m).all fun j=>bF al j !=some t||uF ops i j
  | _,_=>false)&&
 (List.range ops.length).all (fun i=>Nat.blt i m||(match al[i]? with
  | some x => (List.range i).all fun j => G6 ops 2 i j || (Nat.blt j m && (match al[j]? with
   |some y=>y.guard.isNone&&(match y.dst with
    |some t=>x.dst !=some t&&!(nf x).contains t
    |none=>false)
   |none=>false))
  |none=>false))
def Vr:List Oper→List aT→Nat
 |o::ops,x::al=>bif ko x.op&&fJ o.op then Vr ops al+1 else 0
 | _,_=>0
def mQ(ops:List Oper)(al:List aT):Nat:=((List.range (Vr ops al+1)).reverse.find? fun m=>RX ops al m).getD 0
def B9(ops:List Oper)(al:List aT)(m:Nat):Nat→Nat→List (aT×List aT)
 | _,0=>[]
 |k,n+1=>match al[k]? with
  |some x=>(x,(dly ops m k).filterMap fun j=>al[j]?)::B9 ops al m (k+1) n
  |none=>[]
def drawC(ops:List Oper)(al:List aT)(m:Nat):aB:= .draw (al.take m) ((dly ops m m).filterMap fun j=>al[j]?) (B9 ops al m m (ops.length-m))
def Vs(al:List aT):Bool:=al.any fun x=>match x.op with| .call _ _=>true| _=>false
def IZ(ops:List Oper)(al:List aT):Option Nat:=(List.range (ops.length+1)).find? fun m=>dOK ops al m
def Er(ops:List Oper)(al:List aT):aB:=match IZ ops al with
 |some m=>bif Vs (al.drop m)then .Qa (al.take m) (al.drop m)else .region true al
 |none=> .region true al
mutual
def Dh:D→Bool
 | .raw _=>true
 | .agg _ l=>Qc l
 | _=>false
def Qc:List D→Bool
 |[]=>true
 |d::l=>Dh d&&Qc l
end
def A4:mi→Bool
 | .alloc _ z=>Dh z
 | .ib s _ _ _=>s.pure
 | .call _ _=>false
 |o=>ko o
def fOK(ops:List Oper)(al:List aT)(i:Nat):Bool:=match ops[i]?,al[i]? with
 |some o,some x=>A4 x.op&&fJ o.op&&x.guard.isNone&&x.dst.isSome
 | _,_=>false
def okF1(ops:List Oper)(al:List aT)(prev:Option Nat)(F:List Nat)(i:Nat):Bool:=
 fOK ops al i&&!F.contains i&&F.all (fun j=>bF al j !=bF al i)&&(match prev with
  |some c=>G6 ops 2 i c
  |none=>true)&&(match al[i]? with
  |some x=>(nf x).all fun t=>(List.range ops.length).all fun j=>bF al j !=some t||uF ops i j
  |none=>false)
def A5(ops:List Oper)(al:List aT)(prev:Option Nat):List Nat→List Nat→Bool
 | _,[]=>true
 |F,i::l=>okF1 ops al prev F i&&A5 ops al prev (F++[i]) l
def okC(ops:List Oper)(al:List aT)(prev:Option Nat)(F:List Nat)(c:Nat):Bool:=
 !F.contains c&&(match prev with
  |some p=>G6 ops 2 c p
  |none=>true)&&(match al[c]? with
  |some x=>F.all fun f=>G6 ops 2 c f||(match bF al f with
   |some t=>x.dst !=some t&&!(nf x).contains t
   |none=>false)
  |none=>false)
def UR(ops:List Oper)(al:List aT):Option Nat→List Nat→List (Nat×List Nat)→Bool
 | _,_,[]=>true
 |prev,F,(c,fl)::gs=>okC ops al prev F c&&gs.all (fun g=>g.1 !=c)&&!fl.contains c&&A5 ops al (some c) F fl&&UR ops al (some c) (F++fl) gs
def GY(gs:List (Nat×List Nat))(i:Nat):Bool:=gs.any fun g=>g.1==i||g.2.contains i
def dOK3(ops:List Oper)(al:List aT)(f0:List Nat)(gs:List (Nat×List Nat)):Bool:=
 (List.range ops.length).all (fun i=>match ops[i]? with
  |some o=>o.after.toList.all fun e=>!Region.binds .any e||Nat.blt e.on i
  |none=>true)&&
 (List.range ops.length).all (fun i=>f0.contains i||GY gs i)&&A5 ops al none [] f0&&UR ops al none f0 gs
def plan0(ops:List Oper)(al:List aT):List Nat:=(List.range ops.length).foldl (fun F i=>bif fOK ops al i&&(List.range i).all (fun j=>!uF ops i j||F.contains j)then F++[i]else F) []
def Qd(ops:List Oper)(al:List aT):List Nat→Option (Nat×List Nat)→List (Nat×List Nat)
 |[],none=>[]
 |[],some g=>[g]
 |i::l,none=>Qd ops al l (some (i,[]))
 |i::l,some (c,fl)=>bif fOK ops al i&&G6 ops 2 i c then Qd ops al l (some (c,fl++[i]))else(c,fl)::Qd ops al l (some (i,[]))
def RY(al:List aT)(l:List Nat):List aT:=l.filterMap fun j=>al[j]?
def K1(ops:List Oper)(F:List Nat)(c:Nat):List Nat:=F.filter fun j=>!G6 ops 2 c j
def Es(ops:List Oper)(al:List aT):List Nat→List (Nat×List Nat)→List (aT×List aT×List aT)
 | _,[]=>[]
 |F,(c,fl)::gs=>match al[c]? with
  |some x=>(x,RY al fl,RY al (K1 ops F c++fl))::Es ops al (K1 ops F c++fl) gs
  |none=>[]
def drawF(ops:List Oper)(al:List aT)(f0:List Nat)(gs:List (Nat×List Nat)):aB:= .Vj (RY al f0) (RY al f0) (Es ops al f0 gs)
def RZ(ops:List Oper)(al:List aT):List Nat×List (Nat×List Nat):=(plan0 ops al,Qd ops al ((List.range ops.length).filter fun i=>!(plan0 ops al).contains i) none)
def Vt:aB:= .region false [⟨none,.fail,none⟩]
def comp(P:Program)(n:Nat):Code→Option aB
 | .skip=>some .skip
 | .region _ ops draw => match uN P n ops.toList ops.toList with
  |some l=>bif !draw then some (.region false l)else bif P.follows .mixedOrders&&NL ops.toList l then some (Er ops.toList l)else
   bif P.follows .mixedOrders&&RX ops.toList l (mQ ops.toList l)then some (drawC ops.toList l (mQ ops.toList l))else
   bif P.follows .mixedOrders&&dOK3 ops.toList l (RZ ops.toList l).1 (RZ ops.toList l).2 then some (drawF ops.toList l (RZ ops.toList l).1 (RZ ops.toList l).2)else some Vt
  |none=>some Vt
 | .seq a b=>o2 (comp P n a) fun a=>o2 (comp P n b) fun b=>some (.seq a b)
 | .cond c a b=>o2 (cX c) fun c=>o2 (comp P n a) fun a=>o2 (comp P n b) fun b=>some (.cond c a b)
 | .block id a=>o2 (comp P n a) fun a=>some (.block id a)
 | .loop a=>o2 (comp P n a) fun a=>some (.loop a)
 | .exit id=>some (.exit id)
 | .ret=>some .ret
 | _=>some Vt
end Go.Am

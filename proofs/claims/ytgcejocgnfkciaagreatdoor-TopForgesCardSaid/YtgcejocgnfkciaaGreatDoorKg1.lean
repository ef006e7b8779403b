import Derived.Calls
import Derived.Laws.CopyRow
import Derived.Laws.AppendOwn
import Derived.Laws.Rows
import Derived.Laws.Entries
import Derived.Laws.Cells
import Derived.KernelRfl
set_option linter.unusedSimpArgs false
set_option linter.unusedVariables false
namespace Go.Am
set_option linter.defProp false
abbrev aan:=@Bool.and_eq_true
abbrev aao:=@List.length_append
abbrev aap:=@List.getElem?_eq_getElem
abbrev aaq:=@List.take_of_length_le
abbrev aar:=@List.length_drop
abbrev aas:=@eq_true
abbrev aat:=@decide_eq_true_eq
abbrev aau:=@List.length_take
abbrev aav:=@decide_true
abbrev aaw:=@decide_false
abbrev aax:=@eq_false
abbrev aay:=@Eq.trans
abbrev aaz:=@Nat.le_refl
abbrev aaA:=@if_neg
abbrev aaB:=@Int.toNat_natCast
abbrev aaC:=@List.append_assoc
abbrev aaD:=@Int.eq_ofNat_of_zero_le
abbrev aaE:=@List.length_map
abbrev aaF:=@List.eq_nil_of_length_eq_zero
abbrev aaG:=@BitVec.eq_of_toNat_eq
abbrev aaH:=@List.getD_eq_getElem?_getD
abbrev aaI:=@if_pos
abbrev aaJ:=@decide_eq_false
abbrev aaK:=@BitVec.toNat_ofNat
abbrev aaL:=@List.append_nil
abbrev aaM:=@cond_false
abbrev aaN:=@List.getElem?_append_left
abbrev aaO:=@List.getElem?_append_right
abbrev aaP:=@List.length_cons
abbrev aaQ:=@List.mem_append
abbrev aaR:=@List.take_succ_eq_append_getElem
abbrev aaS:=@List.length_replicate
abbrev aaT:=@List.length_nil
abbrev aaU:=@cond_true
abbrev aaV:=@List.take_length
abbrev aaW:=@List.mem_cons
abbrev aaX:=@Array.getElem?_eq_some_iff
abbrev aaY:=@decide_eq_true
abbrev aaZ:=@Nat.lt_or_ge
abbrev aa0:=@List.take_left
abbrev aa1:=@List.mem_of_mem_take
abbrev aa2:=@true_and
abbrev aa3:=@List.mem_iff_getElem
abbrev aa4:=@BitVec.ofInt_natCast
abbrev aa5:=@List.take_append_drop
abbrev aa6:=@List.length_set
abbrev aa7:=@List.all_eq_true
abbrev aa8:=@Bool.not_true
abbrev aa9:=@BitVec.toNat_setWidth
abbrev aba:=@Bool.not_false
abbrev abb:=@Nat.shiftRight_eq_div_pow
abbrev abc:=@Option.bind_some
abbrev abd:=@Nat.le_trans
abbrev abe:=@List.drop_left
abbrev abf:=@List.mem_singleton
abbrev abg:=@Option.some.inj
abbrev abh:=@List.getElem?_eq_none
abbrev abi:=@List.drop_zero
abbrev abj:=@Int.natCast_nonneg
abbrev abk:=@List.getElem?_drop
abbrev abl:=@List.flatten_cons
abbrev abm:=@Classical.byContradiction
abbrev abn:=@List.flatten_nil
abbrev abo:=@Nat.ble_eq
abbrev abp:=@List.nil_append
abbrev abq:=@List.map_cons
abbrev abr:=@List.getElem?_take_of_lt
abbrev abt:=@List.getElem?_take
abbrev abu:=@List.getElem?_map
abbrev abv:=@List.drop_drop
abbrev abw:=@Array.getElem?_eq_getElem
abbrev abx:=@Nat.le_of_ble_eq_true
abbrev aby:=@Nat.mod_eq_of_lt
abbrev abz:=@List.getElem_mem
abbrev abA:=@Bool.true_and
abbrev abB:=@congrArg
abbrev abC:=@List.cons.injEq
abbrev abD:=@List.drop_eq_getElem_cons
abbrev abE:=@Nat.zero_add
abbrev abF:=@Nat.mul_le_mul_right
abbrev abG:=@List.eq_of_mem_replicate
abbrev abH:=@BitVec.toNat_ushiftRight
abbrev abI:=@Bool.or_eq_true
abbrev abJ:=@BitVec.toNat_umod
abbrev abK:=@Int.tmod_eq_emod_of_nonneg
abbrev abL:=@List.take_zero
abbrev abM:=@List.getElem?_cons_zero
abbrev abN:=@List.range_succ
abbrev abO:=@Nat.pow_le_pow_right
abbrev abP:=@List.getElem?_set_ne
abbrev abQ:=@Bool.false_and
abbrev abR:=@Nat.lt_of_lt_of_le
abbrev abS:=@BitVec.le_def
abbrev abT:=@Ne.symm
abbrev abU:=@List.flatten_append
abbrev abV:=@Nat.min_eq_left
abbrev abW:=@if_false
abbrev abX:=@if_true
abbrev abY:=@Option.some.injEq
abbrev abZ:=@List.mem_of_getElem?
abbrev ab0:=@List.take_append_of_le_length
abbrev ab1:=@Int.cast_ofNat_Int
abbrev ab2:=@Nat.add_assoc
abbrev ab3:=@beq_self_eq_true
abbrev ab4:=@BitVec.toNat_add
abbrev ab5:=@Array.length_toList
abbrev ab6:=@List.set_append_right
abbrev ab7:=@decide_eq_false_iff_not
abbrev ab8:=@List.getElem?_cons_succ
abbrev ab9:=@List.replicate_append_replicate
abbrev aca:=@List.mem_of_mem_drop
abbrev acb:=@Array.ext'
abbrev acd:=@List.mem_append_left
abbrev ace:=@Int.fdiv_eq_ediv_of_nonneg
abbrev acf:=@Int.tdiv_eq_ediv_of_nonneg
abbrev acg:=@and_true
abbrev ach:=@Bool.and_self
abbrev aci:=@List.drop_eq_nil_of_le
abbrev acj:=@BitVec.toNat_shiftLeft
abbrev ack:=@forall_const
abbrev acm:=@List.not_mem_nil
abbrev acn:=@List.length_take_le
abbrev aco:=@List.ext_getElem?
abbrev acp:=@Nat.zero_le
abbrev acq:=@Nat.sub_self
abbrev acr:=@List.map_set
abbrev acs:=@beq_iff_eq
abbrev acu:=@List.cons_append
abbrev acv:=@List.any_eq_true
abbrev acw:=@Nat.shiftLeft_eq
abbrev acx:=@Bool.or_eq_false_iff
abbrev acy:=@Bool.false_or
abbrev acz:=@BitVec.lt_def
abbrev acA:=@Array.getElem?_eq_none
abbrev acB:=@Nat.sub_zero
abbrev acC:=@List.map_congr_left
abbrev acE:=@List.map_append
abbrev acF:=@BitVec.toNat_ofInt
abbrev acG:=@Int.natCast_emod
abbrev acH:=@List.ext_getElem
abbrev acI:=@Option.getD_some
abbrev acJ:=@Nat.succ_mul
abbrev acK:=@Bool.and_false
abbrev acL:=@Bool.not_eq_true'
abbrev acM:=@Option.bind_eq_some_iff
abbrev acN:=@Option.map_some
abbrev acO:=@List.take_left'
abbrev acP:=@List.replicate_succ
abbrev acQ:=@Nat.add_zero
abbrev acR:=@List.drop_of_length_le
abbrev acS:=@List.mem_map
abbrev acT:=@Option.map_eq_some_iff
abbrev acU:=@Nat.div_eq_of_lt
abbrev acV:=@List.take_take
abbrev acW:=@List.mem_filterMap
abbrev acX:=@List.length_filter_le
abbrev acY:=@Bool.and_eq_true_iff
abbrev acZ:=@Nat.div_lt_of_lt_mul
abbrev ac0:=@Classical.em
abbrev ac1:=@of_decide_eq_true
abbrev ac2:=@List.length_range
abbrev ac3:=@not_true_eq_false
abbrev ac4:=@List.set_set
abbrev ac5:=@Nat.mod_lt
abbrev ac6:=@Option.isSome_iff_exists
abbrev ac7:=@List.any_cons
abbrev ac8:=@Array.getElem?_push
abbrev ac9:=@List.filter_cons
abbrev ada:=@BitVec.toNat_sub
abbrev adb:=@Nat.min_eq_right
abbrev ade:=@Nat.and_two_pow_sub_one_eq_mod
abbrev adf:=@List.drop_append_of_le_length
abbrev adg:=@Bool.false_eq_true
abbrev adh:=@Nat.mul_comm
abbrev adi:=@List.map_inj_right
abbrev adj:=@List.foldl_cons
abbrev adk:=@Int.natCast_mul
abbrev adl:=@List.drop_left'
abbrev adm:=@Array.getElem?_toList
abbrev adn:=@List.getElem?_set
abbrev ado:=@List.size_toArray
abbrev adp:=@Int.emod_eq_of_lt
abbrev adq:=@List.mem_range
abbrev ads:=@Nat.add_comm
abbrev adt:=@Int.natCast_ediv
abbrev adu:=@BitVec.toNat_mul
abbrev adv:=@List.map_nil
abbrev adw:=@Int.natCast_zero
abbrev adx:=@Nat.le_of_eq
abbrev ady:=@List.getElem_map
abbrev adz:=@List.mem_or_eq_of_mem_set
abbrev adA:=@List.getElem?_eq_some_iff
abbrev adB:=@List.getElem?_range
abbrev adC:=@List.take_add
abbrev adD:=@Bool.and_true
abbrev adE:=@BitVec.toNat_or
abbrev adF:=@Nat.div_le_self
abbrev adG:=@Nat.two_pow_pos
abbrev adH:=@List.mem_cons_self
abbrev adI:=@BitVec.ofNat_toNat
abbrev adJ:=@BitVec.setWidth_eq
abbrev adK:=@Nat.add_mul
abbrev adL:=@Nat.add_sub_cancel_left
abbrev adM:=@List.mem_singleton_self
abbrev adN:=@List.getElem?_replicate
abbrev adO:=@Nat.lt_trichotomy
abbrev adP:=@List.length_eq_one_iff
abbrev adQ:=@Nat.le_total
abbrev adR:=@BitVec.toNat_udiv
abbrev adS:=@Bool.true_or
abbrev adT:=@List.foldl_nil
abbrev adU:=@or_false
abbrev adV:=@Bool.eq_false_iff
abbrev adW:=@Array.getElem?_modify
abbrev adX:=@List.mem_append_right
abbrev adY:=@List.getElem?_zipWith
abbrev adZ:=@List.take_append
abbrev ad0:=@Nat.blt_eq
abbrev ad1:=@BitVec.toNat_and
abbrev ad2:=@forall_eq_or_imp
abbrev ad3:=@List.getElem?_append
abbrev ad4:=@List.range_eq_range'
abbrev ad5:=@List.append_inj
abbrev ad6:=@Int.natCast_one
abbrev ad7:=@List.dropLast_concat_getLast
abbrev ad8:=@exists_eq_left'
abbrev ad9:=@Bool.or_eq_true_iff
abbrev aea:=@List.flatMap_append
abbrev aeb:=@List.drop_replicate
abbrev aec:=@List.toList_toArray
abbrev aed:=@List.take_replicate
abbrev aee:=@Array.getD_eq_getD_getElem?
abbrev aef:=@eq_self
abbrev aeg:=@List.drop_length_add_append
abbrev aeh:=@Nat.pow_succ
abbrev aei:=@of_decide_eq_false
abbrev aej:=@Array.mapM_eq_mapM_toList
abbrev aek:=@not_false_eq_true
abbrev ael:=@Array.toList_push
abbrev aem:=@Int.mul_emod_left
abbrev aen:=@List.foldl_append
abbrev aeo:=@List.getElem_drop
abbrev aep:=@or_true
abbrev aeq:=@List.flatMap_cons
abbrev aer:=@false_implies
abbrev aes:=@List.append_cancel_left
abbrev aet:=@List.range'_succ
abbrev aeu:=@decide_eq_decide
abbrev aev:=@Nat.mul_mod_left
abbrev aew:=@and_self
abbrev aex:=@List.drop_append
abbrev aey:=@Nat.le_of_lt
abbrev aez:=@Int.not_lt
abbrev aeA:=@true_implies
abbrev aeB:=@implies_true
abbrev aeC:=@Int.natCast_pow
abbrev aeD:=@List.drop_take
abbrev aeE:=@Nat.pow_add
abbrev aeF:=@Int.ofNat_tdiv
abbrev aeG:=@true_or
abbrev aeH:=@Nat.mul_assoc
inductive Sc where
 |int (k:IntKind)
 |bool
 |str
 deriving DecidableEq,Repr,Inhabited
def oD:Value->Sc->Bool
 | .int k _,.int k'=>k==k'
 | .bool _,.bool=>true
 | .string _,.str=>true
 | _,_=>false
abbrev tU:Sc:= .int .u8
inductive Sh where
 |leaf (k:Sc)
 |ref
 |nil
 |cons (a b:Sh)
 |ar (n:Nat) (s:Sh)
 deriving DecidableEq,Repr,Inhabited
abbrev L8:Sh:= .leaf (.int .u8)
abbrev cJ:Sh:= .leaf (.int .u32)
abbrev L64:Sh:= .leaf (.int .u64)
abbrev LI:Sh:= .leaf (.int .i64)
abbrev LB:Sh:= .leaf .bool
abbrev LS:Sh:= .leaf .str
inductive D where
 |raw (v:Value)
 |ptr (s:Sh) (r:Nat) (p:List Nat)
 |sl (s:Sh) (r:Nat) (p:List Nat) (off len:Nat) (ex:Bool)
 |nX (n:Nat) (s:Sh) (r:Nat) (p:List Nat) (off:Nat)
 |cI (s:Sh) (l:List D) (ex:Bool)
 |cd (d:D)
 |agg (s:Sh) (l:List D)
 |cA (l:List D)
 |mp (r:Nat)
 |om (s:Sh) (l:List D)
 |Fi (f:Nat) (s:Sh) (r:Nat) (p:List Nat)
 deriving Inhabited
mutual
def D.flat:D->List D
 | .agg _ l=>aA l
 | .raw v=>[.raw v]
 | .ptr s r p=>[.ptr s r p]
 | .sl s r p o n e=>[.sl s r p o n e]
 | .nX n s r p o=>[.nX n s r p o]
 | .cI s l e=>[.cI s l e]
 | .cd d=>[.cd d]
 | .cA l=>[.cA l]
 | .mp r=>[.mp r]
 | .om s l=>[.om s l]
 | .Fi f s r p=>[.Fi f s r p]
def aA:List D->List D
 |[]=>[]
 |d::l=>d.flat++aA l
end
def D.eZ:D->Bool
 | .agg _ _| .cA _=>false
 | .raw v=>v.oneCell'
 | _=>true
def Sh.size:Sh->Nat
 | .leaf _| .ref=>1
 | .nil=>0
 | .cons a b=>a.size+b.size
 | .ar n s=>n*s.size
def Sh.isAgg:Sh->Bool
 | .nil=>true
 | .cons _ b=>b.isAgg
 | .ar _ _=>true
 | _=>false
def Sh.count:Sh->Nat
 | .cons _ b=>b.count+1
 | .ar n _=>n
 | _=>0
def Sh.sub:Sh->Nat->Option Sh
 | .cons a _,0=>some a
 | .cons _ b,i+1=>b.sub i
 | .ar n s,i=>if i<n then some s else none
 | _,_=>none
def Sh.lH:Sh->Nat->Nat
 | .cons _ _,0=>0
 | .cons a b,i+1=>a.size+b.lH i
 | .ar _ s,i=>i*s.size
 | _,_=>0
def Sh.at:Sh->List Nat->Option Sh
 |s,[]=>some s
 |s,i::p=>match s.sub i with
  |some e=>e.at p
  |none=>none
def Sh.off:Sh->List Nat->Nat
 | _,[]=>0
 |s,i::p=>s.lH i+(match s.sub i with|some e=>e.off p|none=>0)
inductive aL:Sh->D->Prop where
 |leaf (k:Sc) (v:Value):oD v k=true->aL (.leaf k) (.raw v)
 |ref (d:D):d.eZ=true->aL .ref d
 |agg (s:Sh) (l:List D):s.isAgg=true->l.length=s.count->(∀i e d,s.sub i=some e->l[i]?=some d->aL e d)->aL s (.agg s l)
def D.fits:D->Sh->Bool
 | .raw v,.leaf k=>oD v k
 | .agg s _,t=>s==t
 | .cA _,_=>false
 |d,.ref=>d.eZ
 | _,_=>false
def D.get:D->List Nat->Option D
 |d,[]=>some d
 | .agg _ l,i::p=>match l[i]? with
  |some d=>d.get p
  |none=>none
 | _,_::_=>none
def D.set:D->List Nat->D->Option D
 | _,[],x=>some x
 | .agg s l, i :: p, x => match l[i]? with
  |some d=>match d.set p x with
   |some d'=>some (.agg s (l.set i d'))
   |none=>none
  |none=>none
 | _,_::_,_=>none
structure Row where
 sh:Sh
 els:List D
 deriving Inhabited
def dC(els:List D):List Nat->Option D
 |[]=>none
 |i::p=>match els[i]? with
  |some d=>d.get p
  |none=>none
def mA(els:List D):List Nat->D->Option (List D)
 |[],_=>none
 | i :: p, x => match els[i]? with
  |some d=>match d.set p x with
   |some d'=>some (els.set i d')
   |none=>none
  |none=>none
abbrev Rows:=List (Option Row)
abbrev Env:=List (Nat×D)
def look:Env->Nat->Option D
 |[],_=>none
 |(k,d)::e,t=>bif k==t then some d else look e t
def put(dst:Option Nat)(d:D)(env:Env):Env:=
 match dst with
 |some t=>(t,d)::env
 |none=>env
inductive X where
 |tmp (t:Nat)
 |const (v:Value)
 |aX (g:Nat)
 deriving Inhabited
inductive nY where
 |mv (x:X)
 |pick (c a b:X)
 |bin (op:BinOp) (x y:X)
 |eqa (s:Sh) (neg:Bool) (x y:X)
 |beq (neg:Bool) (x y:X)
 |un (op:UnOp) (x:X)
 |conv (k:IntKind) (x:X)
 |Ld (x:X)
 |alloc (s:Sh) (z:D)
 |box (s:Sh) (x:X)
 |build (s:Sh) (z:List D) (parts:List (Nat×X))
 |iX (s:Sh) (n:Nat) (z:D) (parts:List (Nat×X))
 |load (s:Sh) (x:X)
 |store (s:Sh) (x v:X)
 |pF (x:X)
 |eI (s:Sh) (x:X) (i:Nat)
 |field (s:Sh) (x:X) (i:Nat)
 |wS (n:Nat) (s:Sh) (x i:X)
 |nk (s:Sh) (x i:X)
 |index (n:Nat) (s:Sh) (x i:X)
 |uZ (x i:X)
 |AD (n:Nat) (s:Sh) (x:X) (lo hi mx:Option X)
 |slice (s:Sh) (x:X) (lo hi mx:Option X)
 |D0 (x:X) (lo hi:Option X)
 |mks (s:Sh) (bytes:Nat) (z:D) (len cap:X)
 |ext (x:X) (i:Nat)
 |len (x:X)
 |AE (x:X)
 |append (s:Sh) (bytes:Nat) (a b:X)
 |u5 (s:Sh) (bytes:Nat) (z:D) (a n:X)
 |copy (s:Sh) (a b:X)
 |wU (mx:Bool) (l:List X)
 |WV (x:X)
 |s2b (x:X)
 |call (f:FuncId) (args:List X)
 |qH (fs:List Nat) (x:X) (args:List X)
 |fail
 |wV (neg:Bool) (x y:X)
 |O0 (neg:Bool) (x y:X)
 |s2a (n:Nat) (s:Sh) (x:X)
 |Sb (s:Sh) (x:X)
 |mnz (x:X)
 |clr (s:Sh) (z:D) (x:X)
 |Sd (x y:X)
 |mkf (f:Nat) (x:X)
 |mkm (ks vs:Sh)
 |qI (ks vs:Sh) (m x v:X)
 |Ku (ks vs:Sh) (ok:Bool) (z:D) (m x:X)
 deriving Inhabited
structure aY where
 dst:Option Nat
 op:nY
 guard:Option (Nat×Bool):=none
 deriving Inhabited
inductive aC where
 |skip
 |region (draw:Bool) (ops:List aY)
 |draw (pre dl:List aY) (tail:List (aY×List aY))
 |UP (pre tail:List aY)
 |ZD (pre dl:List aY) (tail:List (aY×List aY×List aY))
 |seq (a b:aC)
 |cond (c:X) (a b:aC)
 |block (id:Nat) (a:aC)
 |loop (a:aC)
 |exit (id:Nat)
 |ret
 deriving Inhabited
inductive fI where
 |normal
 |exit (id:Nat)
 |ret
 deriving DecidableEq,Inhabited
abbrev lI:=List D->Rows->(D->Rows->Prop)->Prop
abbrev Fn:=List D->Rows->Option (D×Rows)
abbrev Gh:=List D->Rows->Option (D×Rows)
structure bf where
 aX:Nat->Option D
 fn:FuncId->Option Fn
 fy:FuncId->Option lI
 UQ:FuncId->Option Gh
def bf.quiet(C:bf):bf:=⟨C.aX,C.fn,λ_=>none,C.UQ⟩
def bn{α:Type}(x:Option α)(k:α->Prop):Prop:=
 match x with
 |some a=>k a
 |none=>False
def MX(q:Gh):lI:=λds rows K=>bn (q ds rows) λr=>K r.1 (rows++r.2)
def bf.O1(C:bf)(f:FuncId):Option lI:=match C.fy f with
 |some A=>some A
 |none=>(C.UQ f).map MX
def ev(C:bf)(env:Env):X->Option D
 | .tmp t=>look env t
 | .const v=>some (.raw v)
 | .aX g=>match C.aX g with
  |some d=>some (.cd d)
  |none=>none
def OQ(C:bf)(env:Env):List X->Option (List D)
 |[]=>some []
 | x :: l => match ev C env x with
  |some d=>match OQ C env l with
   |some ds=>some (d::ds)
   |none=>none
  |none=>none
def Km(C:bf)(env:Env):Option X->Option (Option Int)
 |none=>some none
 |some x=>match ev C env x with
  |some (.raw (.int _ n))=>some (some n)
  | _=>none
def live(rows:Rows)(r:Nat):Option Row:=
 match rows[r]? with
 |some (some row)=>some row
 | _=>none
def elems(rows:Rows):D->Option (List D)
 | .raw (.slice none 0 0)=>some []
 | .cI _ l _=>some l
 | .sl _ r [] off len _=>match live rows r with
  |some row=>some ((row.els.drop off).take len)
  |none=>none
 | .sl _ r (i :: p) off len _ => match live rows r with
  |some row=>match dC row.els (i::p)with
   |some (.agg _ l)=>some ((l.drop off).take len)
   | _=>none
  |none=>none
 | _=>none
def dQ:D->Option Nat
 | .raw (.slice none 0 0)=>some 0
 | .cI _ l _=>some l.length
 | .sl _ _ _ _ len _=>some len
 | _=>none
def cF(op:BinOp)(x y:Value)(k:D->Prop):Prop:=
 match op,x,y with
 | .shl,.int k1 a,.int _ b=>0<=b/\k (.raw (.int k1 (k1.wrap (a*2^(min b.toNat k1.bits)))))
 | .shr,.int k1 a,.int _ b=>0<=b/\k (.raw (.int k1 (a.fdiv (2^(min b.toNat k1.bits)))))
 | .add,.int k1 a,.int k2 b=>k1=k2/\k (.raw (.int k1 (k1.wrap (a+b))))
 | .sub,.int k1 a,.int k2 b=>k1=k2/\k (.raw (.int k1 (k1.wrap (a-b))))
 | .mul,.int k1 a,.int k2 b=>k1=k2/\k (.raw (.int k1 (k1.wrap (a*b))))
 | .quo,.int k1 a,.int k2 b=>k1=k2/\b≠0/\k (.raw (.int k1 (k1.wrap (a.tdiv b))))
 | .rem,.int k1 a,.int k2 b=>k1=k2/\b≠0/\k (.raw (.int k1 (a.tmod b)))
 | .and,.int k1 a,.int k2 b=>k1=k2/\k (.raw (.int k1 (k1.wrap (BitVec.ofInt k1.bits a&&&BitVec.ofInt k1.bits b).toNat)))
 | .or,.int k1 a,.int k2 b=>k1=k2/\k (.raw (.int k1 (k1.wrap (BitVec.ofInt k1.bits a|||BitVec.ofInt k1.bits b).toNat)))
 | .xor,.int k1 a,.int k2 b=>k1=k2/\k (.raw (.int k1 (k1.wrap (BitVec.ofInt k1.bits a^^^BitVec.ofInt k1.bits b).toNat)))
 | .andNot,.int k1 a,.int k2 b=>k1=k2/\k (.raw (.int k1 (k1.wrap (BitVec.ofInt k1.bits a&&&~~~BitVec.ofInt k1.bits b).toNat)))
 | .eql,.int k1 a,.int k2 b=>k1=k2/\k (.raw (.bool (decide (a=b))))
 | .neq,.int k1 a,.int k2 b=>k1=k2/\k (.raw (.bool (!decide (a=b))))
 | .lss,.int k1 a,.int k2 b=>k1=k2/\k (.raw (.bool (decide (a<b))))
 | .leq,.int k1 a,.int k2 b=>k1=k2/\k (.raw (.bool (decide (a<=b))))
 | .gtr,.int k1 a,.int k2 b=>k1=k2/\k (.raw (.bool (decide (b<a))))
 | .geq,.int k1 a,.int k2 b=>k1=k2/\k (.raw (.bool (decide (b<=a))))
 | .add,.string a,.string b=>((a.size+b.size:Nat):Int)<=IntKind.i64.max/\k (.raw (.string (a++b)))
 | .eql,.string a,.string b=>k (.raw (.bool (a.toList==b.toList)))
 | .neq,.string a,.string b=>k (.raw (.bool (!(a.toList==b.toList))))
 | _,_,_=>False
def jF:D->D->Option Bool
 | .raw (.int k a),.raw (.int k' b)=>if k=k' then some (decide (a=b))else none
 | .raw (.bool a),.raw (.bool b)=>some (a==b)
 | .raw (.string a),.raw (.string b)=>some (a.toList==b.toList)
 | _,_=>none
def aUn(op:UnOp)(x:Value)(k:D->Prop):Prop:=
 match op,x with
 | .neg,.int k1 n=>k (.raw (.int k1 (k1.wrap (0-n))))
 | .xor,.int k1 n=>k (.raw (.int k1 (k1.wrap (BitVec.ofInt k1.bits (if k1.signed then-1 else k1.max)^^^BitVec.ofInt k1.bits n).toNat)))
 | .not,.bool b=>k (.raw (.bool !b))
 | _,_=>False
def oZ(C:bf)(env:Env)(sub:Nat->Option Sh):List (Nat×X)->List D->Option (List D)
 |[],z=>some z
 | (i, x) :: r, z => match ev C env x with
  |some d=>match sub i with
   |some e=>bif d.fits e then oZ C env sub r (z.set i d)else none
   |none=>none
  |none=>none
def Sh.pure:Sh->Bool
 | .leaf _=>true
 | .ref=>false
 | .nil=>true
 | .cons a b=>a.pure&&b.pure
 | .ar _ s=>s.pure
mutual
def y6:D->D->Option Bool
 | .raw a,y=>jF (.raw a) y
 | .agg _ l,.agg _ l'=>yz l l'
 | _,_=>none
def yz:List D->List D->Option Bool
 |[],[]=>some true
 | a :: l, b :: l' => match y6 a b with
  |some t=>match yz l l' with
   |some u=>some (t&&u)
   |none=>none
  |none=>none
 | _,_=>none
end
def dU{α β:Type}(f:α->Option β):List α->Option (List β)
 |[]=>some []
 | x :: l => match f x with
  |some y=>match dU f l with
   |some ys=>some (y::ys)
   |none=>none
  |none=>none
mutual
/-- does it bear an address of a row? -/
def aR:D->Bool
 | .raw _=>false
 | .ptr _ _ _=>true
 | .sl _ _ _ _ _ _=>true
 | .nX _ _ _ _ _=>true
 | .cI s l _=>bif s.pure then false else aW l
 | .cd d=>aR d
 | .agg s l=>bif s.pure then false else aW l
 | .cA l=>aW l
 | .mp _=>true
 | .om _ _=>false
 | .Fi _ _ _ _=>true
def aW:List D->Bool
 |[]=>false
 |d::l=>aR d||aW l
end
def view (rows : Rows) : Nat -> D -> Option D
 |0,_=>none
 | _+1,.raw v=>some (.raw v)
 | _+1,.om s l=>some (.om s l)
 | _+1,.cd d=>bif aR d then none else some (.cd d)
 | _+1,.mp r=>match live rows r with
  |some row=>some (.om row.sh row.els)
  |none=>none
 |n+1,.cI s l e=>bif s.pure then some (.cI s l e)else match dU (view rows n) l with
  |some l'=>some (.cI s l' e)
  |none=>none
 |n+1,.agg s l=>bif s.pure then some (.agg s l)else match dU (view rows n) l with
  |some l'=>some (.agg s l')
  |none=>none
 | n + 1, .ptr s r p => match live rows r with
  | some row => match dC row.els p with
   |some d=>bif s.pure then some (.cd d)else match view rows n d with
    |some d'=>some (.cd d')
    |none=>none
   |none=>none
  |none=>none
 | n + 1, .sl s r p off len e => match elems rows (.sl s r p off len e) with
  |some l=>bif !(l.length==len)then none else bif s.pure then some (.cI s l e)else match dU (view rows n) l with
   |some l'=>some (.cI s l' e)
   |none=>none
  |none=>none
 | _+1,_=>none
mutual
def shift(n:Nat):D->D
 | .raw v=> .raw v
 | .ptr s r p=> .ptr s (r+n) p
 | .sl s r p o l e=> .sl s (r+n) p o l e
 | .nX m s r p o=> .nX m s (r+n) p o
 | .cI s l e=>bif s.pure then .cI s l e else .cI s (bB n l) e
 | .cd d=> .cd (shift n d)
 | .agg s l=>bif s.pure then .agg s l else .agg s (bB n l)
 | .cA l=> .cA (bB n l)
 | .mp r=> .mp (r+n)
 | .om s l=> .om s l
 | .Fi f s r p=> .Fi f s (r+n) p
def bB(n:Nat):List D->List D
 |[]=>[]
 |d::l=>shift n d::bB n l
end
def ab(n:Nat):Rows->Rows
 |[]=>[]
 |some ⟨s,els⟩::l=>some ⟨s,bif s.pure then els else bB n els⟩::ab n l
 |none::l=>none::ab n l
mutual
/-- does it bear no immutable list? -/
def cj:D->Bool
 | .raw _=>true
 | .ptr _ _ _=>true
 | .sl _ _ _ _ _ _=>true
 | .nX _ _ _ _ _=>true
 | .cI _ _ _=>false
 | .cd _=>false
 | .agg s l=>bif s.pure then true else jG l
 | .cA l=>jG l
 | .mp _=>true
 | .om _ _=>false
 | .Fi _ _ _ _=>true
def jG:List D->Bool
 |[]=>true
 |d::l=>cj d&&jG l
end
def be:Rows->Bool
 |[]=>true
 |some ⟨s,_⟩::l=>s.pure&&be l
 |none::l=>be l
def kill(rows:Rows):D->Rows
 | .sl _ r _ _ _ _=>rows.set r none
 | _=>rows
def owned:D->Bool
 | .sl _ _ [] 0 _ _=>true
 | _=>false
def exact:D->Bool
 | .sl _ _ _ _ _ e=>e
 | .cI _ _ e=>e
 | _=>false
def isNil:D->Bool
 | .raw (.slice none 0 0)=>true
 | _=>false
def most:Nat:=1099511627776
def fa(s:Sh):D->Bool
 | .raw (.slice none 0 0)=>true
 | .cI t _ _=>s==t
 | .sl t _ _ _ _ _=>s==t
 | _=>false
def wW(rows:Rows)(s:Sh)(bytes:Nat)(a:D)(news:List D)(k:D->Rows->Prop):Prop:=
 bn (elems rows a) λold=>bn (dQ a) λn=>fa s a=true/\old.length=n/\(n+news.length)*bytes<=most/\n+news.length<=most/\
  bif isNil a||owned a then
   k (.sl s rows.length [] 0 (n+news.length) false) (kill rows a++[some ⟨s,old++news⟩])
  else exact a=true/\(news.length=0->k a rows)/\
   (news.length≠0->k (.sl s rows.length [] 0 (n+news.length) false) (rows++[some ⟨s,old++news⟩]))
def bh{α:Type}(l:List α)(off:Nat)(xs:List α):List α:=l.take off++xs++l.drop (off+xs.length)
def o5(rows:Rows)(s:Sh)(a:D)(src:List D)(k:D->Rows->Prop):Prop:=
 match a with
 | .raw (.slice none 0 0)=>k (.raw (.int .i64 0)) rows
 | .sl t r [] off len _ => t = s /\ bn (live rows r) λrow => off + len <= row.els.length /\
   k (.raw (.int .i64 (min src.length len:Nat))) (rows.set r (some ⟨row.sh,bh row.els off (src.take (min src.length len))⟩))
 | .sl t r (i :: p) off len _ => t = s /\ bn (live rows r) λrow => bn (dC row.els (i :: p)) fun
  | .agg u l=>off+len<=l.length/\bn (mA row.els (i::p) (.agg u (bh l off (src.take (min src.length len))))) λels=>
   k (.raw (.int .i64 (min src.length len:Nat))) (rows.set r (some ⟨row.sh,els⟩))
  | _=>False
 | _=>False
def ofBytes(b:ByteArray):List D:=b.data.toList.map λx=> .raw (.int .u8 x.toNat)
def toByte:D->Option UInt8
 | .raw (.int .u8 n)=>some (UInt8.ofNat n.toNat)
 | _=>none
def sH(rows:Rows)(s:Sh):D->Option (List D)
 | .raw (.string b)=>bif s== .leaf tU then some (ofBytes b)else none
 |d=>bif fa s d then elems rows d else none
def oE(mx:Bool)(k:IntKind):Int->List D->Option Int
 |n,[]=>some n
 |n,.raw (.int k' m)::l=>bif k==k' then oE mx k (bif mx then max n m else min n m) l else none
 | _,_=>none
def MY(f:Nat):List Nat->Bool
 |[]=>false
 |x::l=>bif x==f then true else MY f l
def By(mx:Bool):List D->Option (IntKind×Int)
 | .raw (.int k n)::l=>match oE mx k n l with
  |some m=>some (k,m)
  |none=>none
 | _=>none
def nt(l h m:Int)(n:Nat)(k:Nat->Nat->Nat->Prop):Prop:=
 0<=l/\l<=h/\h<=m/\m<=(n:Int)/\k l.toNat h.toNat m.toNat
def qJ(c:Option Int)(h c' len:Nat)(e:Bool):Bool:=
 match c with
 |some _=>h==c'
 |none=>e&&h==len
def WW(c:Int)(b:ByteArray):Int:=match(List.range b.size).find? λi=>b[i]! ==c.toNat.toUInt8 with
 |some i=>i
 |none=>-1
def Bz:D->Value
 | .raw v=>v
 | _=>undef
def kv:D->Value
 | .raw v=>v
 | .agg _ l=> .agg ((aA l).map Bz).toArray
 | _=>undef
def dV(vs:Sh)(v:Value):D:=match vs with
 | .leaf _=> .raw v
 | _=> .agg vs (v.cells.toList.map .raw)
abbrev qK(ks vs:Sh):Sh:= .cons ks (.cons vs .nil)
def Fj:D->Option (D×Value)
 | .agg _ [k,e]=>some (k,kv e)
 | _=>none
def wX(k:D):List D->Option (Option Value)
 |[]=>some none
 | d :: l => match Fj d with
  |some (k',v)=>match y6 k k' with
   |some true=>some (some v)
   |some false=>wX k l
   |none=>none
  |none=>none
def D4(rows:Rows)(s:Sh):D->Option (List D)
 | .mp r=>match live rows r with
  |some row=>bif row.sh==s then some row.els else none
  |none=>none
 | .om t l=>bif t==s then some l else none
 | _=>none
def BA(C:bf)(rows:Rows)(f:FuncId)(ds:List D)(k:D->Rows->Prop):Prop:=
 match C.fn f with
 | some A => (aW ds = true -> bn (dU (view rows 9) ds) λds' => bn (A ds' []) λr => (cj r.1 && be r.2) = true /\ k (shift rows.length r.1) (rows ++ ab rows.length r.2)) /\
   (aW ds=false->bn (A ds []) λr=>k (shift rows.length r.1) (rows++ab rows.length r.2))
 |none=>bn (C.O1 f) λA=>A ds rows k
def dW (C : bf) (env : Env) (rows : Rows) (o : nY) (k : D -> Rows -> Prop) : Prop :=
 match o with
 | .mv x=>bn (ev C env x) λd=>k d rows
 | .pick c a b=>bn (ev C env c) fun
  | .raw (.bool t)=>bn (bif t then ev C env a else ev C env b) λd=>k d rows
  | _=>False
 | .bin op x y => bn (ev C env x) fun
  | .raw a=>bn (ev C env y) fun
   | .raw b=>cF op a b λd=>k d rows
   | _=>False
  | _=>False
 | .eqa s neg x y => bn (ev C env x) fun
  | .agg s1 l=>bn (ev C env y) fun
   | .agg s2 l'=>s1=s/\s2=s/\bn (yz l l') λb=>k (.raw (.bool (bif neg then !b else b))) rows
   | _=>False
  | _=>False
 | .beq neg x y => bn (ev C env x) fun
  | .raw (.bool a)=>bn (ev C env y) fun
   | .raw (.bool b)=>k (.raw (.bool (bif neg then !(a==b)else a==b))) rows
   | _=>False
  | _=>False
 | .un op x=>bn (ev C env x) fun
  | .raw a=>aUn op a λd=>k d rows
  | _=>False
 | .conv kd x=>bn (ev C env x) fun
  | .raw (.int _ n)=>k (.raw (.int kd (kd.wrap n))) rows
  | _=>False
 | .Ld x=>bn (ev C env x) fun
  | .raw (.string b)=>k (.raw (.string b)) rows
  | _=>False
 | .alloc s z=>k (.ptr s rows.length [0]) (rows++[some ⟨s,[z]⟩])
 | .box s x=>bn (ev C env x) λd=>d.fits s=true/\k (.ptr s rows.length [0]) (rows++[some ⟨s,[d]⟩])
 | .build s z parts=>bn (oZ C env s.sub parts z) λl=>k (.agg s l) rows
 | .iX s n z parts => bn (oZ C env (Sh.ar n s).sub parts (List.replicate n z)) λl =>
   k (.sl s rows.length [] 0 n true) (rows++[some ⟨s,l⟩])
 | .load s x=>bn (ev C env x) fun
  | .ptr s' r p=>s'=s/\bn (live rows r) λrow=>bn (dC row.els p) λd=>k d rows
  | .cd d=>d.fits s=true/\k d rows
  | .nX m t r p off=>s= .ar m t/\bn (elems rows (.sl t r p off m false)) λl=>l.length=m/\k (.agg s l) rows
  | _=>False
 | .store s x v => bn (ev C env x) fun
  | .ptr s' r p => bn (ev C env v) λd => d.fits s = true /\ s' = s /\ bn (live rows r) λrow => bn (mA row.els p d) λels =>
    k (.cA []) (rows.set r (some ⟨row.sh,els⟩))
  | _=>False
 | .pF x=>bn (ev C env x) fun
  | .ptr s r p=>k (.ptr s r p) rows
  | .cd d=>k (.cd d) rows
  | _=>False
 | .eI s x i=>bn (ev C env x) fun
  | .ptr s' r p=>s'=s/\bn (s.sub i) λe=>k (.ptr e r (p++[i])) rows
  | .cd (.agg s' l)=>s'=s/\bn (l[i]?) λd=>k (.cd d) rows
  | _=>False
 | .field s x i=>bn (ev C env x) fun
  | .agg s' l=>s'=s/\bn (l[i]?) λd=>k d rows
  | _=>False
 | .wS m s x i => bn (ev C env x) λdx => bn (ev C env i) fun
  | .raw (.int _ n)=>match dx with
   | .ptr t r p=>t= .ar m s/\0<=n/\n<(m:Int)/\k (.ptr s r (p++[n.toNat])) rows
   | .cd (.agg t l)=>t= .ar m s/\0<=n/\n<(m:Int)/\bn (l[n.toNat]?) λd=>k (.cd d) rows
   | _=>False
  | _=>False
 | .nk s x i => bn (ev C env x) λdx => bn (ev C env i) fun
  | .raw (.int _ n)=>match dx with
   | .sl t r p off len _=>t=s/\0<=n/\n<(len:Int)/\k (.ptr s r (p++[off+n.toNat])) rows
   | .cI t l _=>t=s/\0<=n/\n<(l.length:Int)/\bn (l[n.toNat]?) λd=>k (.cd d) rows
   | _=>False
  | _=>False
 | .index m s x i => bn (ev C env x) fun
  | .agg t l=>bn (ev C env i) fun
   | .raw (.int _ n)=>t= .ar m s/\0<=n/\n<(m:Int)/\bn (l[n.toNat]?) λd=>k d rows
   | _=>False
  | _=>False
 | .uZ x i => bn (ev C env x) fun
  | .raw (.string b)=>bn (ev C env i) fun
   | .raw (.int _ n)=>0<=n/\bn (b.data.toList[n.toNat]?) λc=>k (.raw (.int .u8 c.toNat)) rows
   | _=>False
  | _=>False
 | .AD m s x lo hi mx => bn (ev C env x) λdx => bn (Km C env lo) λl => bn (Km C env hi) λh => bn (Km C env mx) λc =>
   nt (l.getD 0) (h.getD m) (c.getD m) m λl h c=>match dx with
    | .ptr t r p=>t= .ar m s/\k (.sl s r p l (h-l) (h==c)) rows
    | .cd (.agg t els)=>t= .ar m s/\k (.cI s ((els.drop l).take (h-l)) (h==c)) rows
    | _=>False
 | .slice s x lo hi mx => bn (ev C env x) λdx => bn (Km C env lo) λl => bn (Km C env hi) λh => bn (Km C env mx) λc =>
   bn (dQ dx) λn=>nt (l.getD 0) (h.getD n) (c.getD (h.getD n)) n λl h' c'=>match dx with
    | .raw (.slice none 0 0)=>k (.raw (.slice none 0 0)) rows
    | .sl t r p off len e=>t=s/\k (.sl s r p (off+l) (h'-l) (qJ c h' c' len e)) rows
    | .cI t els e=>t=s/\k (.cI s ((els.drop l).take (h'-l)) (qJ c h' c' els.length e)) rows
    | _=>False
 | .D0 x lo hi=>bn (ev C env x) fun
  | .raw (.string b)=>bn (Km C env lo) λl=>bn (Km C env hi) λh=>nt (l.getD 0) (h.getD b.size) b.size b.size λl h _=>k (.raw (.string (b.extract l h))) rows
  | _=>False
 | .mks s bytes z len cap => bn (ev C env len) fun
  | .raw (.int _ l) => bn (ev C env cap) fun
   | .raw (.int _ c) => 0 <= l /\ l <= c /\ c * bytes <= (most : Int) /\ c <= (most : Int) /\
     k (.sl s rows.length [] 0 l.toNat (decide (l=c))) (rows++[some ⟨s,List.replicate l.toNat z⟩])
   | _=>False
  | _=>False
 | .ext x i=>bn (ev C env x) fun
  | .cA l=>bn (l[i]?) λd=>k d rows
  | _=>False
 | .len x=>bn (ev C env x) λd=>bn (dQ d) λn=>k (.raw (.int .i64 n)) rows
 | .AE x=>bn (ev C env x) fun
  | .raw (.string b)=>k (.raw (.int .i64 b.size)) rows
  | _=>False
 | .append s bytes a b=>bn (ev C env a) λda=>bn (ev C env b) λdb=>bn (sH rows s db) λnews=>(∀k,dQ db=some k->news.length=k)/\wW rows s bytes da news k
 | .u5 s bytes z a n=>bn (ev C env a) λda=>bn (ev C env n) fun
  | .raw (.int _ m)=>0<=m/\wW rows s bytes da (List.replicate m.toNat z) k
  | _=>False
 | .copy s a b=>bn (ev C env a) λda=>bn (ev C env b) λdb=>bn (sH rows s db) λsrc=>(∀k,dQ db=some k->src.length=k)/\o5 rows s da src k
 | .wU mx l=>bn (OQ C env l) λds=>bn (By mx ds) λ(kd,n)=>k (.raw (.int kd n)) rows
 | .WV x=>bn (ev C env x) λd=>fa (.leaf tU) d=true/\bn (elems rows d) λl=>bn (dQ d) λn=>l.length=n/\bn (dU toByte l) λbs=>k (.raw (.string ⟨bs.toArray⟩)) rows
 | .s2b x=>bn (ev C env x) fun
  | .raw (.string b)=>k (.cI (.leaf tU) (ofBytes b) false) rows
  | _=>False
 | .call f args=>bn (OQ C env args) λds=>BA C rows f ds k
 | .qH fs x args=>bn (ev C env x) fun
  | .raw (.func (.func f) c1 c2)=>c1=#[]/\c2=#[]/\MY f fs=true/\bn (OQ C env args) λds=>BA C rows f ds k
  | .Fi f s r p=>MY f fs=true/\bn (OQ C env args) λds=>BA C rows f (ds++[.ptr s r p]) k
  | _=>False
 | .mkf f x=>bn (ev C env x) fun
  | .ptr s r p=>k (.Fi f s r p) rows
  | _=>False
 | .clr s z x=>bn (ev C env x) λd=>bn (dQ d) λn=>o5 rows s d (List.replicate n z) λ_ rows=>k (.cA []) rows
 | .Sd x y => bn (ev C env x) fun
  | .raw (.string b)=>bn (ev C env y) fun
   | .raw (.int .u8 c)=>k (.raw (.int .i64 (WW c b))) rows
   | _=>False
  | _=>False
 | .fail=>False
 | .wV neg x y => bn (ev C env x) λdx => bn (ev C env y) fun
  | .raw (.pointer none)=>match dx with
   | .raw (.pointer none)=>k (.raw (.bool (!neg))) rows
   | .ptr _ _ _| .cd _=>k (.raw (.bool neg)) rows
   | _=>False
  | _=>False
 | .O0 neg x y => bn (ev C env x) λdx => bn (ev C env y) fun
  | .raw (.slice none 0 0)=>match dx with
   | .raw (.slice none 0 0)=>k (.raw (.bool (!neg))) rows
   | .cI _ l _=>(l.length=0->k (.raw (.bool (!neg))) rows)/\k (.raw (.bool neg)) rows
   | .sl _ _ _ _ len _=>(len=0->k (.raw (.bool (!neg))) rows)/\k (.raw (.bool neg)) rows
   | _=>False
  | _=>False
 | .s2a n s x=>bn (ev C env x) fun
  | .sl t r p off len _=>t=s/\n<=len/\0<n/\k (.nX n s r p off) rows
  | .cI t l _=>t=s/\n<=l.length/\0<n/\k (.cd (.agg (.ar n s) (l.take n))) rows
  | _=>False
 | .Sb s x=>bn (ev C env x) fun
  | .sl t r [] off len ex=>t=s/\0<len/\bn (live rows r) λrow=>off+len<=row.els.length/\k (.sl s r [] off len ex) rows
  | _=>False
 | .mnz x=>bn (ev C env x) fun
  | .raw (.int kd n)=>kd= .i64/\0<=n/\n<=(most:Int)/\∀l:List (BitVec 8),l.length=n.toNat->k (.sl L8 rows.length [] 0 n.toNat false) (rows++[some ⟨L8,l.map λb=> .raw (.int .u8 (b.toNat:Int))⟩])
  | _=>False
 | .mkm ks vs=>k (.mp rows.length) (rows++[some ⟨qK ks vs,[]⟩])
 | .qI ks vs m x v=>bn (ev C env m) fun
  | .mp r => bn (ev C env x) λkd => bn (ev C env v) λvd => kd.fits ks = true /\ vd.fits vs = true /\ bn (live rows r) λrow => row.sh = qK ks vs /\
     k (.cA []) (rows.set r (some ⟨row.sh,.agg (qK ks vs) [kd,vd]::row.els⟩))
  | _=>False
 | .Ku ks vs ok z m x => bn (ev C env m) λdm => bn (ev C env x) λkd => kd.fits ks = true /\ bn (D4 rows (qK ks vs) dm) λels => bn (wX kd els) λo =>
   k (match o with
    |some v=>bif ok then .cA [dV vs v,.raw (.bool true)]else dV vs v
    |none=>bif ok then .cA [z,.raw (.bool false)]else z) rows
def ec(C:bf):List aY->Env->Rows->(Env->Rows->Prop)->Prop
 |[],env,rows,k=>k env rows
 |⟨dst,o,none⟩::os,env,rows,k=>dW C env rows o λd rows=>ec C os (put dst d env) rows k
 |⟨dst,o,some (g,want)⟩::os,env,rows,k=>bn (look env g) fun
  | .raw (.bool t)=>(t=want->dW C env rows o λd rows=>ec C os (put dst d env) rows k)/\(t=!want->ec C os (put dst (.cA []) env) rows k)
  | .cA []=>ec C os (put dst (.cA []) env) rows k
  | _=>False
def BB(env:Env)(rows:Rows)(dst:Option Nat):D->Rows->Prop:=λd r=>(match dst with
 |some t=>look env t=some d
 |none=>False)/\r=rows
def tX(C:bf)(env:Env)(rows:Rows):List aY->Prop
 |[]=>True
 |y::l=>dW C env rows y.op (BB env rows y.dst)/\tX C env rows l
def wY(C:bf):List (aY×List aY)->Env->Rows->(Env->Rows->Prop)->Prop
 |[],env,rows,K=>K env rows
 |(x,dl)::l,env,rows,K=>ec C [x] env rows λenv rows=>tX C env rows dl/\wY C l env rows K
def ZE(s:Sh)(els:List D)(rows:Rows):D->Prop
 | .ptr s' r p=>s'=s/\p=[0]/\live rows r=some ⟨s,els⟩
 | _=>False
def isSl(s:Sh)(n:Nat)(els:List D)(rows:Rows):D->Prop
 | .sl s' r p off len ex=>s'=s/\p=[]/\off=0/\len=n/\ex=true/\live rows r=some ⟨s,els⟩
 | _=>False
def mB(C:bf)(env:Env)(rows:Rows)(o:nY)(t:Nat):Prop:=match o with
 | .alloc s z=>bn (look env t) (ZE s [z] rows)
 | .iX s n z parts=>bn (oZ C env (Sh.ar n s).sub parts (List.replicate n z)) λl=>bn (look env t) (isSl s n l rows)
 |o=>dW C env rows o (BB env rows (some t))
def qL(C:bf)(env:Env)(rows:Rows):List aY->Prop
 |[]=>True
 |y::l=>(match y.dst with
  |some t=>mB C env rows y.op t
  |none=>False)/\qL C env rows l
def zv(C:bf):List (aY×List aY×List aY)->Env->Rows->(Env->Rows->Prop)->Prop
 |[],env,rows,K=>K env rows
 |(x,fl,dl)::l,env,rows,K=>ec C [x] env rows λenv rows=>ec C.quiet fl env rows λenv rows=>qL C.quiet env rows dl/\zv C l env rows K
def ku(body:(fI->Env->Rows->Prop)->Env->Rows->Prop)(Q:fI->Env->Rows->Prop):Nat->Env->Rows->Prop
 |0,_,_=>False
 |n+1,env,rows=>body (λe env rows=>match e with| .normal=>ku body Q n env rows|e=>Q e env rows) env rows
def aw(C:bf):aC->(fI->Env->Rows->Prop)->Env->Rows->Prop
 | .skip,Q,env,rows=>Q .normal env rows
 | .region dr ops,Q,env,rows=>ec (bif dr then C.quiet else C) ops env rows (Q .normal)
 | .draw pre dl tail,Q,env,rows=>ec C.quiet pre env rows λenv rows=>tX C.quiet env rows dl/\wY C.quiet tail env rows (Q .normal)
 | .UP pre tail,Q,env,rows=>ec C.quiet pre env rows λenv rows=>ec C tail env rows (Q .normal)
 | .ZD pre dl tail,Q,env,rows=>ec C.quiet pre env rows λenv rows=>qL C.quiet env rows dl/\zv C tail env rows (Q .normal)
 | .seq a b,Q,env,rows=>aw C a (λe env rows=>match e with| .normal=>aw C b Q env rows|e=>Q e env rows) env rows
 | .cond c a b,Q,env,rows=>bn (ev C env c) fun
  | .raw (.bool t)=>(t=true->aw C a Q env rows)/\(t=false->aw C b Q env rows)
  | _=>False
 | .block id a,Q,env,rows=>aw C a (λe env rows=>match e with| .exit i=>(i=id->Q .normal env rows)/\(i≠id->Q (.exit i) env rows)|e=>Q e env rows) env rows
 | .loop a,Q,env,rows=>∃n,ku (aw C a) Q n env rows
 | .exit id,Q,env,rows=>Q (.exit id) env rows
 | .ret,Q,env,rows=>Q .ret env rows
end Go.Am
namespace Go.Am
def shL(f:TypeId->Option Sh):List Field->Option Sh
 |[]=>some .nil
 | x :: l => match f x.type with
  |some a=>match shL f l with
   |some b=>some (.cons a b)
   |none=>none
  |none=>none
def shT(P:Program):Nat->TypeId->Option Sh
 |0,_=>none
 | n + 1, t => match P.underlying t with
  |some (.struct fs)=>shL (shT P n) fs.toList
  |some (.array m e)=>match shT P n e with
   |some s=>some (.ar m s)
   |none=>none
  |some .bool=>some (.leaf .bool)
  |some (.int k)=>some (.leaf (.int k))
  |some .string=>some (.leaf .str)
  |some (.pointer _)|some (.slice _)|some (.map _ _)|some (.func _ _ _)|some (.interface _)=>some .ref
  | _=>none
def sh(P:Program)(t:TypeId):Option Sh:=
 match shT P 40 t with
 |some s=>match P.info? t with
  |some i=>bif i.size==s.size then some s else none
  |none=>none
 |none=>none
def zL(f:TypeId->Option D):List Field->Option (List D)
 |[]=>some []
 | x :: l => match f x.type with
  |some a=>match zL f l with
   |some b=>some (a::b)
   |none=>none
  |none=>none
def zT (P : Program) : Nat -> TypeId -> Option D
 |0,_=>none
 | n + 1, t => match P.underlying t with
  | some (.struct fs) => match shT P (n + 1) t with
   |some s=>match zL (zT P n) fs.toList with
    |some l=>some (.agg s l)
    |none=>none
   |none=>none
  | some (.array m e) => match shT P (n + 1) t with
   |some s=>match zT P n e with
    |some d=>some (.agg s (List.replicate m d))
    |none=>none
   |none=>none
  |some .bool=>some (.raw (.bool false))
  |some (.int k)=>some (.raw (.int k 0))
  |some .string=>some (.raw (.string .empty))
  |some (.pointer _)=>some (.raw (.pointer none))
  |some (.slice _)=>some (.raw (.slice none 0 0))
  |some (.map _ _)=>some (.raw (.map none))
  |some (.func _ _ _)=>some (.raw .nilFunc)
  |some (.interface _)=>some (.raw .nilIface)
  | _=>none
def ZF:Value->Value->Bool
 | .bool a,.bool b=>a==b
 | .int k a,.int k' b=>k==k'&&a==b
 | .string a,.string b=>a.data.toList==b.data.toList
 | .pointer none,.pointer none=>true
 | .slice none 0 0,.slice none 0 0=>true
 | .map none,.map none=>true
 | .nilFunc,.nilFunc=>true
 | .nilIface,.nilIface=>true
 | _,_=>false
def AF:List D->List Value->Bool
 |[],[]=>true
 | .raw v::l,u::r=>ZF v u&&AF l r
 | _,_=>false
def Se:TypeDesc->Bool
 | .struct _| .array _ _=>true
 | _=>false
def D.isAgg:D->Bool
 | .agg _ _=>true
 | _=>false
def zero(P:Program)(t:TypeId):Option D:=
 match zT P 40 t with
 | some d => match P.info? t with
  |some i=>match i.zero with
   |some v=>bif AF d.flat v.cells.toList&&(match v with| .agg _=>d.isAgg| .tuple _=>false| _=>!d.isAgg)then some d else none
   |none=>none
  |none=>none
 |none=>none
def oF(P:Program)(t:TypeId):Nat:=match P.info? t with|some i=>i.bytes|none=>0
def cX:Operand->Option X
 | .tmp t=>some (.tmp t)
 | .const v=>bif v.oneCell' then some (.const v)else none
 | .global g=>some (.aX g)
 | .func f=>some (.const (.func (.func f) #[] #[]))
def ZG:List Operand->Option (List X)
 |[]=>some []
 | x :: l => match cX x with
  |some a=>match ZG l with
   |some b=>some (a::b)
   |none=>none
  |none=>none
def O2:Option Operand->Option (Option X)
 |none=>some none
 |some x=>match cX x with
  |some a=>some (some a)
  |none=>none
def pG:List (Nat×Operand)->Option (List (Nat×X))
 |[]=>some []
 | (i, x) :: l => match cX x with
  |some a=>match pG l with
   |some b=>some ((i,a)::b)
   |none=>none
  |none=>none
def Hp(s:Sh):Nat->List Field->Bool
 | _,[]=>true
 |i,f::l=>f.offset==s.lH i&&Hp s (i+1) l
def BC(P:Program)(s:Sh):Nat->List Field->Bool
 | _,[]=>true
 |i,f::l=>(match P.info? f.type,s.sub i with|some a,some e=>a.size==e.size| _,_=>false)&&BC P s (i+1) l
def ZH:D->List D
 | .agg _ l=>l
 | _=>[]
def o2{α β:Type}(x:Option α)(f:α->Option β):Option β:=match x with|some a=>f a|none=>none
def zw{α:Type}(b:Bool)(x:Option α):Option α:=bif b then x else none
def zy(P:Program)(t:TypeId):Option TypeId:=match P.underlying t with|some (.slice e)=>some e| _=>none
def mC(P:Program)(t:TypeId)(s:Sh):Bool:=match P.underlying t with
 |some d=>Se d==s.isAgg
 |none=>false
def Sf(P:Program)(rec:TypeId->Sh->Bool)(s:Sh):Nat->List Field->Bool
 | _,[]=>true
 |i,f::fs=>f.name != "_" &&f.offset==s.lH i&&(match s.sub i with
  |some e=>(sh P f.type==some e)&&mC P f.type e&&rec f.type e
  |none=>false)&&Sf P rec s (i+1) fs
def D5(P:Program):Nat->TypeId->Sh->Bool
 |0,_,_=>false
 | n + 1, t, s => match P.underlying t with
  |some (.struct fs)=>!P.stoodInHeld t&&s.isAgg&&fs.toList.length==s.count&&Sf P (D5 P n) s 0 fs.toList
  |some (.array m e)=>match s with
   | .ar m' se=>m==m'&&(sh P e==some se)&&mC P e se&&D5 P n e se
   | _=>false
  |some (.int k)=>s== .leaf (.int k)
  |some .bool=>s== .leaf .bool
  |some .string=>s== .leaf .str
  | _=>false
def od:Sh->Bool
 | .nil=>true
 | .cons (.leaf _) b=>od b
 | _=>false
def D6(P:Program)(t:TypeId):Bool:=match P.underlying t with
 |some (.int _)|some .bool|some .string=>true
 | _=>false
def tY(P:Program)(t:TypeId)(s:Sh):Bool:=match P.underlying t with
 |some .string=>s== .leaf .str
 |some (.struct fs)=>s.isAgg&&od s&&D5 P 40 t s&&fs.toList.all λf=>D6 P f.type
 | _=>false
def Fk:Sh->Bool
 | .leaf _=>true
 |s=>s.isAgg&&od s
def mapT(P:Program)(t:TypeId):Option (TypeId×TypeId):=match P.underlying t with|some (.map a b)=>some (a,b)| _=>none
def O3(P:Program)(t:TypeId):Option (Sh×Sh):=o2 (mapT P t) λ(kt,et)=>o2 (sh P kt) λks=>o2 (sh P et) λvs=>zw (tY P kt ks&&Fk vs) (some (ks,vs))
def BD:String:=match Extern.BytealgIndexByte.rows with|_::(s,_)::_=>s|_=> ""
def yA(s:String):Bool:=(Extern.BytealgMakeNoZero.typedRows.map (·.1)).contains s
def UR(P:Program)(c:Call):List Nat:=(List.range P.funcs.size).filter λf=>match P.funcs[f]? with
 |some fn=>fn.params==c.argTypes&&fn.body.isSome&&fn.name != "runtime.NumGoroutine"
 |none=>false
def ZI (P : Program) (c : Call) : Option nY :=
 match c.callee with
 | .value (.func f) => o2 (P.funcs[f]?) λfn => bif fn.body.isSome then zw (fn.name != "runtime.NumGoroutine") (o2 (ZG c.args.toList) λl => some (.call f l)) else
   bif fn.name==BD&&fn.origin== "" then(match c.args.toList with
    |[x,y]=>o2 (cX x) λx=>o2 (cX y) λy=>some (.Sd x y)
    | _=>none)else
   zw (yA fn.name&&fn.origin== "") (match c.args.toList,fn.resultTypes.toList with
    |[x],[t]=>match P.underlying t with
     |some (.slice e)=>zw (sh P e==some (.leaf tU)) (o2 (cX x) λx=>some (.mnz x))
     | _=>none
    | _,_=>none)
 | .value (.tmp t)=>o2 (ZG c.args.toList) λl=>some (.qH (UR P c) (.tmp t) l)
 | .builtin .len => match c.args.toList, c.argTypes.toList with
  |[x],t::_=>o2 (cX x) λx=>match P.underlying t with
   |some (.slice _)=>some (.len x)
   |some .string=>some (.AE x)
   |some (.array n _)=>some (.mv (.const (.int .i64 n)))
   | _=>none
  | _,_=>none
 | .builtin .append => match c.args.toList, c.argTypes.toList with
  |[a,b],[t,u]=>o2 (cX a) λa=>o2 (cX b) λb=>o2 (zy P t) λe=>o2 (sh P e) λs=>o2 (zero P e) λz=>zw (s.size !=0&&z.fits s) (match P.underlying u with
   |some (.slice e')=>zw (sh P e'==some s) (some (.append s (oF P e) a b))
   |some .string=>zw (s== .leaf tU) (some (.append s (oF P e) a b))
   |some (.int _)=>some (.u5 s (oF P e) z a b)
   | _=>none)
  | _,_=>none
 | .builtin .copy => match c.args.toList, c.argTypes.toList with
  |[a,b],[t,u]=>o2 (cX a) λa=>o2 (cX b) λb=>o2 (zy P t) λe=>o2 (sh P e) λs=>zw (s.size !=0) (match P.underlying u with
   |some (.slice e')=>zw (sh P e'==some s) (some (.copy s a b))
   |some .string=>zw (s== .leaf tU) (some (.copy s a b))
   | _=>none)
  | _,_=>none
 | .builtin .clear=>match c.args.toList,c.argTypes.toList with
  |[a],[t]=>o2 (cX a) λa=>o2 (zy P t) λe=>o2 (sh P e) λs=>o2 (zero P e) λz=>zw (s.size !=0&&z.fits s) (some (.clr s z a))
  | _,_=>none
 | .builtin .min=>o2 (ZG c.args.toList) λl=>some (.wU false l)
 | .builtin .max=>o2 (ZG c.args.toList) λl=>some (.wU true l)
 | _=>none
def cOp0(P:Program)(o:Op):Option nY:=
 match o with
 | .move x| .assign x=>o2 (cX x) λx=>some (.mv x)
 | .pick c a b=>o2 (cX c) λc=>o2 (cX a) λa=>o2 (cX b) λb=>some (.pick c a b)
 | .alloc t=>o2 (sh P t) λs=>o2 (zero P t) λz=>zw (z.fits s) (some (.alloc s z))
 | .box t x=>o2 (sh P t) λs=>o2 (cX x) λx=>some (.box s x)
 | .build t parts=>o2 (sh P t) λs=>o2 (zero P t) λz=>o2 (pG parts.toList) λps=>match P.underlying t with
  |some (.struct fs)=>zw (z.fits s&&z.isAgg&&Hp s 0 fs.toList&&BC P s 0 fs.toList&&fs.toList.length==s.count) (some (.build s (ZH z) ps))
  |some (.array n e)=>o2 (sh P e) λse=>zw (z.fits s&&z.isAgg&&s== .ar n se) (some (.build s (ZH z) ps))
  | _=>none
 | .buildSlice t n parts=>o2 (zy P t) λe=>o2 (sh P e) λs=>o2 (zero P e) λz=>o2 (pG parts.toList) λps=>zw (z.fits s&&s.size !=0&&Nat.ble (n*s.size) 16777216) (some (.iX s n z ps))
 | .load t x=>o2 (sh P t) λs=>o2 (cX x) λx=>zw (mC P t s) (some (.load s x))
 | .store t a v=>o2 (sh P t) λs=>o2 (cX a) λa=>o2 (cX v) λv=>some (.store s a v)
 | .nilCheck x=>o2 (cX x) λx=>some (.pF x)
 | .binOp op t x y _ => o2 (cX x) λx => o2 (cX y) λy => match P.underlying t with
  |some (.int _)|some .string=>some (.bin op x y)
  |some .bool=>match op with
   | .eql=>some (.beq false x y)
   | .neq=>some (.beq true x y)
   | _=>none
  |some (.struct _)|some (.array _ _)=>o2 (sh P t) λs=>zw (D5 P 40 t s&&!(P.eqGuardType P.depth t)) (match op with
   | .eql=>some (.eqa s false x y)
   | .neq=>some (.eqa s true x y)
   | _=>none)
  |some (.pointer _)=>match op with
   | .eql=>some (.wV false x y)
   | .neq=>some (.wV true x y)
   | _=>none
  |some (.slice _)=>match op with
   | .eql=>some (.O0 false x y)
   | .neq=>some (.O0 true x y)
   | _=>none
  | _=>none
 | .unOp op _ x=>o2 (cX x) λx=>some (.un op x)
 | .convert src dst x => o2 (cX x) λx => match P.underlying src, P.underlying dst with
  |some (.int _),some (.int k)=>some (.conv k x)
  |some .string,some .string=>some (.Ld x)
  |some .string,some (.slice e)=>match P.underlying e with
   |some (.int .u8)=>some (.s2b x)
   | _=>none
  |some (.slice e),some .string=>match P.underlying e with
   |some (.int .u8)=>some (.WV x)
   | _=>none
  |some (.slice _),some (.slice e)=>zw (src==dst) (o2 (sh P e) λs=>zw (s== .leaf tU) (match P.underlying e with
   |some (.int .u8)=>some (.Sb s x)
   | _=>none))
  | _,_=>none
 | .makeSlice t l c=>o2 (zy P t) λe=>o2 (sh P e) λs=>o2 (zero P e) λz=>o2 (cX l) λl=>o2 (cX c) λc=>zw (z.fits s&&s.size !=0) (some (.mks s (oF P e) z l c))
 | .makeFunc (.func f) first cap=>zw first.isEmpty (match cap.toList with
  |[x]=>o2 (cX x) λx=>some (.mkf f x)
  | _=>none)
 | .makeMap t none=>o2 (O3 P t) λ(ks,vs)=>some (.mkm ks vs)
 | .mapUpdate t m k v=>o2 (O3 P t) λ(ks,vs)=>o2 (cX m) λm=>o2 (cX k) λk=>o2 (cX v) λv=>some (.qI ks vs m k v)
 | .lookup t m k ok=>o2 (mapT P t) λ(_,et)=>o2 (O3 P t) λ(ks,vs)=>o2 (zero P et) λz=>o2 (cX m) λm=>o2 (cX k) λk=>zw (z.fits vs) (some (.Ku ks vs ok z m k))
 | .fieldAddr t x i => o2 (sh P t) λs => o2 (cX x) λx => match P.underlying t with
  |some (.struct fs)=>match fs[i]?,s.sub i with
   |some f,some e=>zw (f.offset==s.lH i&&(match P.info? f.type with|some a=>a.size==e.size|none=>false)&&e.size !=0) (some (.eI s x i))
   | _,_=>none
  | _=>none
 | .field t x i => o2 (sh P t) λs => o2 (cX x) λx => match P.underlying t with
  |some (.struct fs)=>match fs[i]?,s.sub i with
   |some f,some e=>zw (f.offset==s.lH i&&sh P f.type==some e&&mC P f.type e) (some (.field s x i))
   | _,_=>none
  | _=>none
 | .indexAddr t x i=>o2 (cX x) λx=>o2 (cX i) λi=>match P.underlying t with
  |some (.array n e)=>o2 (sh P e) λs=>some (.wS n s x i)
  |some (.slice e)=>o2 (sh P e) λs=>some (.nk s x i)
  | _=>none
 | .index t x i=>o2 (cX x) λx=>o2 (cX i) λi=>match P.underlying t with
  |some (.array n e)=>o2 (sh P e) λs=>zw (mC P e s) (some (.index n s x i))
  |some .string=>some (.uZ x i)
  | _=>none
 | .slice t x lo hi mx=>o2 (cX x) λx=>o2 (O2 lo) λlo=>o2 (O2 hi) λhi=>o2 (O2 mx) λmx=>match P.underlying t with
  |some (.array n e)=>o2 (sh P e) λs=>zw (mx.isNone||hi.isSome) (some (.AD n s x lo hi mx))
  |some (.slice e)=>o2 (sh P e) λs=>zw (mx.isNone||hi.isSome) (some (.slice s x lo hi mx))
  |some .string=>zw mx.isNone (some (.D0 x lo hi))
  | _=>none
 | .extract x i=>o2 (cX x) λx=>some (.ext x i)
 | .call c=>ZI P c
 | .sliceToArrayPointer t x=>match P.underlying t with
  |some (.array n e)=>o2 (sh P e) λs=>o2 (cX x) λx=>some (.s2a n s x)
  | _=>none
 | _=>none
def cOp(P:Program)(o:Op):Option nY:=
 match cOp0 P o with
 |some a=>some a
 |none=>some .fail
def mD(ops:List Oper)(g:Option (Nat×Bool)):Option (Option (Nat×Bool)):=
 match g with
 |none=>some none
 | some (j, want) => match ops[j]? with
  |some o=>match o.dst with
   |some t=>some (some (t,want))
   |none=>none
  |none=>none
def Si(n:Nat):Option Nat->Bool
 |none=>true
 |some t=>Nat.blt t n
def wZ(P:Program)(n:Nat)(all:List Oper):List Oper->Option (List aY)
 |[]=>some []
 |o::l=>zw (Si n o.dst) (o2 (cOp P o.op) λa=>o2 (mD all o.guard) λg=>o2 (wZ P n all l) λr=>some (⟨o.dst,a,g⟩::r))
def mE:nY->Bool
 | .store _ _ _=>false
 | .append _ _ _ _=>false
 | .u5 _ _ _ _ _=>false
 | .copy _ _ _=>false
 | .qH _ _ _=>false
 | .O0 _ _ _=>false
 | .mnz _=>false
 | .clr _ _ _=>false
 | .mkf _ _=>false
 | .Sd _ _=>false
 | .qI _ _ _ _ _=>false
 | _=>true
def nY.xs:nY->List X
 | .mv x| .un _ x| .conv _ x| .Ld x| .box _ x| .load _ x| .pF x| .eI _ x _| .field _ x _| .ext x _| .len x| .AE x| .WV x| .s2b x=>[x]
 | .pick c a b=>[c,a,b]
 | .bin _ x y| .eqa _ _ x y| .beq _ x y| .store _ x y| .wS _ _ x y| .nk _ x y| .index _ _ x y| .uZ x y| .append _ _ x y| .u5 _ _ _ x y| .copy _ x y=>[x,y]
 | .alloc _ _=>[]
 | .build _ _ ps| .iX _ _ _ ps=>ps.map (·.2)
 | .AD _ _ x lo hi mx| .slice _ x lo hi mx=>x::(lo.toList++hi.toList++mx.toList)
 | .D0 x lo hi=>x::(lo.toList++hi.toList)
 | .mks _ _ _ l c=>[l,c]
 | .wU _ l=>l
 | .call _ l=>l
 | .qH _ x l=>x::l
 | .fail=>[]
 | .wV _ x y| .O0 _ x y=>[x,y]
 | .s2a _ _ x| .Sb _ x=>[x]
 | .mnz x| .mkf _ x| .clr _ _ x=>[x]
 | .Sd x y=>[x,y]
 | .mkm _ _=>[]
 | .qI _ _ m x v=>[m,x,v]
 | .Ku _ _ _ _ m x=>[m,x]
def gG:Op->Bool
 | .store _ _ _=>false
 | .mapUpdate _ _ _ _=>false
 | .call c=>match c.callee with
  | .builtin .append=>false
  | .builtin .copy=>false
  | .builtin .clear=>false
  | _=>true
 | _=>true
def wP(ops:List Oper)(i j:Nat):Bool:=
 match ops[i]? with
 |some o=>o.after.toList.any λe=>Region.binds .any e&&e.on==j
 |none=>false
def w5:List X->List Nat
 |[]=>[]
 | .tmp t::l=>t::w5 l
 | _::l=>w5 l
def o6(o:aY):List Nat:=w5 o.op.xs++(match o.guard with|some (t,_)=>[t]|none=>[])
def bF(al:List aY)(j:Nat):Option Nat:=match al[j]? with|some o=>o.dst|none=>none
def dOK(ops:List Oper)(al:List aY)(m:Nat):Bool:=
 Nat.ble m ops.length&&
 (List.range ops.length).all (λi=>match ops[i]? with
  |some o=>o.after.toList.all λe=>!Region.binds .any e||Nat.blt e.on i
  |none=>true)&&
 (List.range m).all (λi=>match al[i]?,ops[i]? with
  |some x,some o=>mE x.op&&gG o.op&&
   (List.range m).all (λj=>j==i||x.dst.isNone||bF al j !=x.dst)&&
   (o6 x).all λt=>(List.range m).all λj=>bF al j !=some t||wP ops i j
  | _,_=>false)&&
 (List.range ops.length).all (λi=>Nat.blt i m||(List.range i).all λj=>wP ops i j||(List.range i).any λk=>Nat.blt j k&&wP ops k j)
def Sj(ops:List Oper)(al:List aY):Bool:=(List.range (ops.length+1)).any λm=>dOK ops al m
def Kv(ops:List Oper):Nat->Nat->Nat->Bool
 |0,_,_=>false
 |n+1,i,j=>wP ops i j||(List.range i).any λk=>wP ops i k&&Kv ops n k j
def dly(ops:List Oper)(m i:Nat):List Nat:=(List.range m).filter λj=>!Kv ops 2 i j
def WX (ops : List Oper) (al : List aY) (m : Nat) : Bool :=
 Nat.ble m ops.length&&
 (List.range ops.length).all (λi=>match ops[i]? with
  |some o=>o.after.toList.all λe=>!Region.binds .any e||Nat.blt e.on i
  |none=>true)&&
 (List.range m).all (λi=>match al[i]?,ops[i]? with
  |some x,some o=>mE x.op&&gG o.op&&
   (List.range m).all (λj=>j==i||x.dst.isNone||bF al j !=x.dst)&&
   (o6 x).all λt=>(List.range m).all λj=>bF al j !=some t||wP ops i j
  | _,_=>false)&&
 (List.range ops.length).all (λi=>Nat.blt i m||(match al[i]? with
  | some x => (List.range i).all λj => Kv ops 2 i j || (Nat.blt j m && (match al[j]? with
   |some y=>y.guard.isNone&&(match y.dst with
    |some t=>x.dst !=some t&&!(o6 x).contains t
    |none=>false)
   |none=>false))
  |none=>false))
def ZJ:List Oper->List aY->Nat
 |o::ops,x::al=>bif mE x.op&&gG o.op then ZJ ops al+1 else 0
 | _,_=>0
def mQ(ops:List Oper)(al:List aY):Nat:=((List.range (ZJ ops al+1)).reverse.find? λm=>WX ops al m).getD 0
def Fl(ops:List Oper)(al:List aY)(m:Nat):Nat->Nat->List (aY×List aY)
 | _,0=>[]
 |k,n+1=>match al[k]? with
  |some x=>(x,(dly ops m k).filterMap λj=>al[j]?)::Fl ops al m (k+1) n
  |none=>[]
def drawC(ops:List Oper)(al:List aY)(m:Nat):aC:= .draw (al.take m) ((dly ops m m).filterMap λj=>al[j]?) (Fl ops al m m (ops.length-m))
def ZK(al:List aY):Bool:=al.any λx=>match x.op with| .call _ _=>true| _=>false
def MZ(ops:List Oper)(al:List aY):Option Nat:=(List.range (ops.length+1)).find? λm=>dOK ops al m
def Hq(ops:List Oper)(al:List aY):aC:=match MZ ops al with
 |some m=>bif ZK (al.drop m)then .UP (al.take m) (al.drop m)else .region true al
 |none=> .region true al
mutual
def Gi:D->Bool
 | .raw _=>true
 | .agg _ l=>US l
 | _=>false
def US:List D->Bool
 |[]=>true
 |d::l=>Gi d&&US l
end
def D7:nY->Bool
 | .alloc _ z=>Gi z
 | .iX s _ _ _=>s.pure
 | .call _ _=>false
 |o=>mE o
def fOK(ops:List Oper)(al:List aY)(i:Nat):Bool:=match ops[i]?,al[i]? with
 |some o,some x=>D7 x.op&&gG o.op&&x.guard.isNone&&x.dst.isSome
 | _,_=>false
def okF1(ops:List Oper)(al:List aY)(prev:Option Nat)(F:List Nat)(i:Nat):Bool:=
 fOK ops al i&&!F.contains i&&F.all (λj=>bF al j !=bF al i)&&(match prev with
  |some c=>Kv ops 2 i c
  |none=>true)&&(match al[i]? with
  |some x=>(o6 x).all λt=>(List.range ops.length).all λj=>bF al j !=some t||wP ops i j
  |none=>false)
def D8(ops:List Oper)(al:List aY)(prev:Option Nat):List Nat->List Nat->Bool
 | _,[]=>true
 |F,i::l=>okF1 ops al prev F i&&D8 ops al prev (F++[i]) l
def okC(ops:List Oper)(al:List aY)(prev:Option Nat)(F:List Nat)(c:Nat):Bool:=
 !F.contains c&&(match prev with
  |some p=>Kv ops 2 c p
  |none=>true)&&(match al[c]? with
  |some x=>F.all λf=>Kv ops 2 c f||(match bF al f with
   |some t=>x.dst !=some t&&!(o6 x).contains t
   |none=>false)
  |none=>false)
def Zf(ops:List Oper)(al:List aY):Option Nat->List Nat->List (Nat×List Nat)->Bool
 | _,_,[]=>true
 |prev,F,(c,fl)::gs=>okC ops al prev F c&&gs.all (λg=>g.1 !=c)&&!fl.contains c&&D8 ops al (some c) F fl&&Zf ops al (some c) (F++fl) gs
def Kn(gs:List (Nat×List Nat))(i:Nat):Bool:=gs.any λg=>g.1==i||g.2.contains i
def dOK3(ops:List Oper)(al:List aY)(f0:List Nat)(gs:List (Nat×List Nat)):Bool:=
 (List.range ops.length).all (λi=>match ops[i]? with
  |some o=>o.after.toList.all λe=>!Region.binds .any e||Nat.blt e.on i
  |none=>true)&&
 (List.range ops.length).all (λi=>f0.contains i||Kn gs i)&&D8 ops al none [] f0&&Zf ops al none f0 gs
def plan0(ops:List Oper)(al:List aY):List Nat:=(List.range ops.length).foldl (λF i=>bif fOK ops al i&&(List.range i).all (λj=>!wP ops i j||F.contains j)then F++[i]else F) []
def UT(ops:List Oper)(al:List aY):List Nat->Option (Nat×List Nat)->List (Nat×List Nat)
 |[],none=>[]
 |[],some g=>[g]
 |i::l,none=>UT ops al l (some (i,[]))
 |i::l,some (c,fl)=>bif fOK ops al i&&Kv ops 2 i c then UT ops al l (some (c,fl++[i]))else(c,fl)::UT ops al l (some (i,[]))
def WY(al:List aY)(l:List Nat):List aY:=l.filterMap λj=>al[j]?
def O4(ops:List Oper)(F:List Nat)(c:Nat):List Nat:=F.filter λj=>!Kv ops 2 c j
def Hr(ops:List Oper)(al:List aY):List Nat->List (Nat×List Nat)->List (aY×List aY×List aY)
 | _,[]=>[]
 |F,(c,fl)::gs=>match al[c]? with
  |some x=>(x,WY al fl,WY al (O4 ops F c++fl))::Hr ops al (O4 ops F c++fl) gs
  |none=>[]
def drawF(ops:List Oper)(al:List aY)(f0:List Nat)(gs:List (Nat×List Nat)):aC:= .ZD (WY al f0) (WY al f0) (Hr ops al f0 gs)
def WZ(ops:List Oper)(al:List aY):List Nat×List (Nat×List Nat):=(plan0 ops al,UT ops al ((List.range ops.length).filter λi=>!(plan0 ops al).contains i) none)
def ZL:aC:= .region false [⟨none,.fail,none⟩]
def comp(P:Program)(n:Nat):Code->Option aC
 | .skip=>some .skip
 | .region _ ops draw => match wZ P n ops.toList ops.toList with
  |some l=>bif !draw then some (.region false l)else bif P.follows .mixedOrders&&Sj ops.toList l then some (Hq ops.toList l)else
   bif P.follows .mixedOrders&&WX ops.toList l (mQ ops.toList l)then some (drawC ops.toList l (mQ ops.toList l))else
   bif P.follows .mixedOrders&&dOK3 ops.toList l (WZ ops.toList l).1 (WZ ops.toList l).2 then some (drawF ops.toList l (WZ ops.toList l).1 (WZ ops.toList l).2)else some ZL
  |none=>some ZL
 | .seq a b=>o2 (comp P n a) λa=>o2 (comp P n b) λb=>some (.seq a b)
 | .cond c a b=>o2 (cX c) λc=>o2 (comp P n a) λa=>o2 (comp P n b) λb=>some (.cond c a b)
 | .block id a=>o2 (comp P n a) λa=>some (.block id a)
 | .loop a=>o2 (comp P n a) λa=>some (.loop a)
 | .exit id=>some (.exit id)
 | .ret=>some .ret
 | _=>some ZL
end Go.Am
namespace Go.Am
structure bd {α β:Type} (R:α->β->Prop) (l:List α) (m:List β):Prop where
 len:l.length=m.length
 at_:∀(i:Nat) (a:α) (b:β),l[i]?=some a->m[i]?=some b->R a b
theorem bd.nil{α β:Type}{R:α->β->Prop}:bd R [] []:=⟨rfl,by simp⟩
theorem bd.mono{α β:Type}{R S:α->β->Prop}{l:List α}{m:List β}(h:bd R l m)(hs:∀a b,R a b->S a b):bd S l m:=
 ⟨h.len,λi a b ha hb=>hs _ _ (h.at_ i a b ha hb)⟩
theorem bd.append{α β:Type}{R:α->β->Prop}{l l':List α}{m m':List β}(h:bd R l m)(h':bd R l' m'):bd R (l++l') (m++m'):=by
 refine⟨by simp[h.len,h'.len],λi a b ha hb=>?_⟩
 rw[ad3]at ha hb
 have hl:=h.len
 by_cases hi:i<l.length
 ·rw[aaI hi]at ha
  rw[aaI (by omega)]at hb
  exact h.at_ i a b ha hb
 ·rw[aaA hi]at ha
  rw[aaA (by omega)]at hb
  exact h'.at_ (i-l.length) a b ha (by rw[hl];exact hb)
theorem bd.take{α β:Type}{R:α->β->Prop}{l:List α}{m:List β}(h:bd R l m)(n:Nat):bd R (l.take n) (m.take n):=by
 refine⟨by simp[h.len],λi a b ha hb=>?_⟩
 rw[abt]at ha hb
 split at ha
 ·rename_i hi
  rw[aaI hi]at hb
  exact h.at_ i a b ha hb
 ·cases ha
theorem bd.drop{α β:Type}{R:α->β->Prop}{l:List α}{m:List β}(h:bd R l m)(n:Nat):bd R (l.drop n) (m.drop n):=by
 refine⟨by simp[h.len],λi a b ha hb=>?_⟩
 rw[abk]at ha hb
 exact h.at_ _ a b ha hb
theorem bd.left{α β:Type}{R:α->β->Prop}{l l':List α}{m m':List β}(h:bd R (l++l') (m++m'))(hl:l.length=m.length):bd R l m:=by
 have:=h.take l.length
 rwa [aa0,hl,aa0]at this
theorem bd.right{α β:Type}{R:α->β->Prop}{l l':List α}{m m':List β}(h:bd R (l++l') (m++m'))(hl:l.length=m.length):bd R l' m':=by
 have:=h.drop l.length
 rwa [abe,hl,abe]at this
theorem bd.single{α β:Type}{R:α->β->Prop}{a:α}{b:β}(h:R a b):bd R [a] [b]:=by
 refine⟨rfl,λi x y hx hy=>?_⟩
 cases i with
 |zero=>simp at hx hy;subst hx;subst hy;exact h
 |succ i=>simp at hx
theorem bd.cons{α β:Type}{R:α->β->Prop}{a:α}{b:β}{l:List α}{m:List β}(h:R a b)(h':bd R l m):bd R (a::l) (b::m):=
 (bd.single h).append h'
theorem bd.head{α β:Type}{R:α->β->Prop}{a:α}{b:β}{l:List α}{m:List β}(h:bd R (a::l) (b::m)):R a b:=h.at_ 0 a b rfl rfl
theorem bd.tail{α β:Type}{R:α->β->Prop}{a:α}{b:β}{l:List α}{m:List β}(h:bd R (a::l) (b::m)):bd R l m:=
 bd.right (l:=[a]) (m:=[b]) h rfl
theorem bd.some{α β:Type}{R:α->β->Prop}{l:List α}{m:List β}(h:bd R l m){i:Nat}{a:α}(ha:l[i]?=some a):∃b,m[i]?=some b/\R a b:=by
 have hi:i<l.length:=by
  rcases aaZ i l.length with h'|h'
  ·exact h'
  ·simp[abh h']at ha
 have hm:i<m.length:=by have:=h.len;omega
 exact⟨m[i],aap hm,h.at_ i a _ ha (aap hm)⟩
theorem eh(l m:List D):aA (l++m)=aA l++aA m:=by
 induction l with
 |nil=>simp[aA]
 |cons d l ih=>simp[aA,ih]
theorem fW{l:List D}{i:Nat}{d:D}(h:l[i]?=some d):aA l=aA (l.take i)++(d.flat++aA (l.drop (i+1))):=by
 have hi:i<l.length:=by
  rcases aaZ i l.length with h'|h'
  ·exact h'
  ·simp[abh h']at h
 have hd:l[i]=d:=by rw[aap hi]at h;exact abg h
 have AG:l=l.take i++d::l.drop (i+1):=by
  rw[<-hd,<-abD hi,aa5]
 calc aA l=aA (l.take i++d::l.drop (i+1)):=by rw[<-AG]
  _=_:=by rw[eh];simp[aA]
theorem D9{l:List D}{i:Nat}{d:D}(h:i<l.length):aA (l.set i d)=aA (l.take i)++(d.flat++aA (l.drop (i+1))):=by
 have h1:(l.set i d)[i]?=some d:=by simp[h]
 rw[fW h1]
 congr 2
 ·rw[List.take_set_of_le (aaz _)]
 ·rw[List.drop_set_of_lt (by omega)]
theorem M0:∀(s:Sh) (l:List D),s.isAgg=true->l.length=s.count->(∀i e d,s.sub i=some e->l[i]?=some d->d.flat.length=e.size)->
  (aA l).length=s.size/\∀i,i<=l.length->(aA (l.take i)).length=s.lH i\/(i=l.length)
 | .nil,l,_,hl,_=>by
  simp[Sh.count]at hl
  subst hl
  simp[aA,Sh.size]
 | .cons a b,[],_,hl,_=>by simp[Sh.count]at hl
 | .cons a b, x :: l, ha, hl, h => by
  have hb:=M0 b l (by simpa[Sh.isAgg]using ha) (by simpa[Sh.count]using hl) (λi e d hs hd=>h (i+1) e d (by simpa[Sh.sub]using hs) (by simpa using hd))
  have h0:=h 0 a x rfl rfl
  refine⟨by simp[aA,Sh.size,h0,hb.1],λi hi=>?_⟩
  cases i with
  |zero=>left;simp[aA,Sh.lH]
  |succ i=>
   rcases hb.2 i (by simpa using hi)with h1|h1
   ·left;simp[aA,Sh.lH,h0,h1]
   ·right;simp[h1]
 | .ar n s, l, _, hl, h => by
  have nV:l.length=n:=hl
  have key:∀(m:List D) (k:Nat),(∀d,d∈m->d.flat.length=s.size)->(aA m).length=m.length*s.size:=by
   intro m k hm
   induction m with
   |nil=>simp[aA]
   |cons d m ih=>
    have h1:=hm d (by simp)
    have h2:=ih (λe he=>hm e (by simp[he]))
    simp[aA,h1,h2,acJ,ads]
  have bQ:∀d,d∈l->d.flat.length=s.size:=by
   intro d hd
   obtain⟨i,hi,rfl⟩:=aa3.1 hd
   exact h i s _ (by simp[Sh.sub];omega) (aap hi)
  refine⟨by rw[key l 0 bQ,nV];rfl,λi hi=> .inl ?_⟩
  rw[key (l.take i) 0 (λd hd=>bQ d (aa1 hd)),aau,abV hi]
  rfl
 | .leaf _,_,h,_,_=>by simp[Sh.isAgg]at h
 | .ref,_,h,_,_=>by simp[Sh.isAgg]at h
theorem Hs{v:Value}{k:Sc}(h:oD v k=true):v.oneCell'=true:=by
 cases v<;>cases k<;>simp_all[oD,Value.oneCell']
theorem cz{d:D}(h:d.eZ=true):d.flat=[d]:=by
 cases d<;>simp_all[D.eZ,D.flat]
theorem aL.len{s:Sh}{d:D}(h:aL s d):d.flat.length=s.size:=by
 induction h with
 |leaf k v hv=>simp[D.flat,Sh.size]
 |ref d hd=>simp[cz hd,Sh.size]
 |agg s l ha hl fJ ih=>simpa[D.flat]using(M0 s l ha hl ih).1
theorem aL.jN{s:Sh}{d:D}(h:aL s d)(ha:s.isAgg=true):∃l,d= .agg s l/\l.length=s.count/\∀i e d,s.sub i=some e->l[i]?=some d->aL e d:=by
 cases h with
 |leaf k v hv=>simp[Sh.isAgg]at ha
 |ref d hd=>simp[Sh.isAgg]at ha
 |agg s l _ hl fJ=>exact⟨l,rfl,hl,fJ⟩
theorem aL.qM{s:Sh}{d:D}(h:aL s d)(ha:s.isAgg=false):d.eZ=true:=by
 cases h with
 |leaf k v hv=>simp[D.eZ];exact Hs hv
 |ref d hd=>exact hd
 |agg s l h _ _=>simp[h]at ha
theorem Le:∀{s:Sh} {i:Nat} {e:Sh},s.sub i=some e->s.isAgg=true\/s.isAgg=false->i<s.count
 | .cons a b,0,e,h,_=>by simp[Sh.count]
 | .cons a b,i+1,e,h,_=>by
  have:=Le (s:=b) (i:=i) (e:=e) (by simpa[Sh.sub]using h) (by cases b.isAgg<;>simp)
  simp[Sh.count];omega
 | .ar n s,i,e,h,_=>by
  simp only[Sh.sub]at h
  split at h
  ·simpa[Sh.count]
  ·cases h
 | .leaf _,_,_,h,_=>by simp[Sh.sub]at h
 | .ref,_,_,h,_=>by simp[Sh.sub]at h
 | .nil,_,_,h,_=>by simp[Sh.sub]at h
theorem sub_lt{s:Sh}{i:Nat}{e:Sh}(h:s.sub i=some e):i<s.count:=Le h (by cases s.isAgg<;>simp)
theorem mL:∀{s:Sh} {i:Nat},i<s.count->∃e,s.sub i=some e
 | .cons a b,0,_=>⟨a,rfl⟩
 | .cons a b,i+1,h=>by
  obtain⟨e,he⟩:=mL (s:=b) (i:=i) (by simp[Sh.count]at h;omega)
  exact⟨e,by simpa[Sh.sub]using he⟩
 | .ar n s,i,h=>⟨s,by simp[Sh.sub];simpa[Sh.count]using h⟩
 | .leaf _,_,h=>by simp[Sh.count]at h
 | .ref,_,h=>by simp[Sh.count]at h
 | .nil,_,h=>by simp[Sh.count]at h
theorem aL.part{s:Sh}{l:List D}(h:aL s (.agg s l))(ha:s.isAgg=true){i:Nat}{e:Sh}(hs:s.sub i=some e):
  ∃d,l[i]?=some d/\aL e d/\(aA (l.take i)).length=s.lH i:=by
 obtain⟨l',nV,hlen,fJ⟩:=h.jN ha
 cases nV
 have hi:i<l.length:=by rw[hlen];exact sub_lt hs
 refine⟨l[i],aap hi,fJ i e _ hs (aap hi),?_⟩
 rcases(M0 s l ha hlen (λi e d h1 h2=>(fJ i e d h1 h2).len)).2 i (by omega)with h1|h1
 ·exact h1
 ·omega
theorem aL.UU{s:Sh}{l:List D}(h:aL s (.agg s l))(ha:s.isAgg=true){i:Nat}{e:Sh}{d:D}(hs:s.sub i=some e)(hd:aL e d):aL s (.agg s (l.set i d)):=by
 obtain⟨l',nV,hlen,fJ⟩:=h.jN ha
 cases nV
 refine .agg s _ ha (by simp[hlen]) λj e' d' hj j9=>?_
 rw[adn]at j9
 split at j9
 ·rename_i W0
  subst W0
  split at j9
  ·cases j9
   rw[hs]at hj
   cases hj
   exact hd
  ·cases j9
 ·exact fJ j e' d' hj j9
theorem O5{s:Sh}{i:Nat}{p:List Nat}{e:Sh}{d:D}(hd:aL s d)(h:s.at (i::p)=some e):∃u l,s.sub i=some u/\u.at p=some e/\s.isAgg=true/\d= .agg s l:=by
 simp only[Sh.at]at h
 cases hs:s.sub i with
 |none=>simp[hs]at h
 | some u =>
  simp only[hs]at h
  have ha:s.isAgg=true:=by
   cases hd with
   |leaf k v hv=>simp[Sh.sub]at hs
   |ref d hd=>simp[Sh.sub]at hs
   |agg s l h _ _=>exact h
  obtain⟨l,rfl,_⟩:=hd.jN ha
  exact⟨u,l,rfl,h,ha,rfl⟩
theorem O6:∀(p:List Nat) {s e:Sh} {d:D},aL s d->s.at p=some e->
  ∃d' pre post,d.get p=some d'/\aL e d'/\d.flat=pre++(d'.flat++post)/\pre.length=s.off p
 |[],s,e,d,h,he=>by
  simp[Sh.at]at he
  subst he
  exact⟨d,[],[],by simp[D.get],h,by simp,by simp[Sh.off]⟩
 | i :: p, s, e, d, h, he => by
  obtain⟨u,l,hs,hu,ha,rfl⟩:=O5 h he
  obtain⟨x,hx,Sk,oG⟩:=h.part ha hs
  obtain⟨d',pre,post,hg,j9,hf,hp⟩:=O6 p Sk hu
  refine⟨d',aA (l.take i)++pre,post++aA (l.drop (i+1)),by simp[D.get,hx,hg],j9,?_,?_⟩
  ·simp only[D.flat]
   rw[fW hx,hf]
   simp
  ·simp[Sh.off,hs,oG,hp]
theorem O7:∀(p:List Nat) {s e:Sh} {d x:D},aL s d->s.at p=some e->aL e x->
  ∃d' o pre post,d.set p x=some d'/\aL s d'/\d.flat=pre++(o++post)/\d'.flat=pre++(x.flat++post)/\pre.length=s.off p/\o.length=x.flat.length
 |[],s,e,d,x,h,he,hx=>by
  simp[Sh.at]at he
  subst he
  exact⟨x,d.flat,[],[],by simp[D.set],hx,by simp,by simp,by simp[Sh.off],by rw[h.len,hx.len]⟩
 | i :: p, s, e, d, x, h, he, hx => by
  obtain⟨u,l,hs,hu,ha,rfl⟩:=O5 h he
  obtain⟨y,hy,hys,oG⟩:=h.part ha hs
  obtain⟨d',o,pre,post,hg,j9,hf,hf',hp,ho⟩:=O7 p hys hu hx
  have hi:i<l.length:=by
   rcases aaZ i l.length with h'|h'
   ·exact h'
   ·simp[abh h']at hy
  refine⟨.agg s (l.set i d'),o,aA (l.take i)++pre,post++aA (l.drop (i+1)),by simp[D.set,hy,hg],h.UU ha hs j9,?_,?_,?_,ho⟩
  ·simp only[D.flat]
   rw[fW hy,hf]
   simp
  ·simp only[D.flat]
   rw[D9 hi,hf']
   simp
  ·simp[Sh.off,hs,oG,hp]
theorem yB:∀(p:List Nat) {s e:Sh} (i:Nat),s.at p=some e->s.at (p++[i])=e.sub i
 |[],s,e,i,h=>by
  simp[Sh.at]at h
  subst h
  simp only[abp,Sh.at]
  cases s.sub i<;>rfl
 |j::p,s,e,i,h=>by
  simp only[Sh.at,acu]at h⊢
  cases hs:s.sub j with
  |none=>simp[hs]at h
  |some u=>simp only[hs]at h⊢;exact yB p i h
theorem O8:∀(p:List Nat) {s e:Sh} (i:Nat),s.at p=some e->s.off (p++[i])=s.off p+e.lH i
 |[],s,e,i,h=>by
  simp[Sh.at]at h
  subst h
  simp only[abp,Sh.off]
  cases s.sub i<;>simp[Sh.off]
 | j :: p, s, e, i, h => by
  simp only[Sh.at,Sh.off,acu]at h⊢
  cases hs:s.sub j with
  |none=>simp[hs]at h
  |some u=>
   simp only[hs]at h⊢
   rw[O8 p i h]
   omega
theorem bj{s:Sh}:∀{l:List D},(∀d∈l,aL s d)->(aA l).length=l.length*s.size
 |[],_=>by simp[aA]
 |d::l,h=>by
  have h1:=(h d (by simp)).len
  have h2:=bj (l:=l) (λe he=>h e (by simp[he]))
  simp[aA,h1,h2,acJ,ads]
theorem bN{α:Type}{l:List α}{i:Nat}{d:α}(h:l[i]?=some d):d∈l:=abZ h
theorem dA{α:Type}{l:List α}{i:Nat}{d:α}(h:l[i]?=some d):i<l.length:=by
 rcases aaZ i l.length with h'|h'
 ·exact h'
 ·simp[abh h']at h
theorem w7{s e:Sh}{els:List D}{i:Nat}{p:List Nat}{d:D}(h:∀d∈els,aL s d)(he:s.at p=some e)(hg:dC els (i::p)=some d):
  aL e d/\i<els.length/\∃pre post,aA els=pre++(d.flat++post)/\pre.length=i*s.size+s.off p:=by
 simp only[dC]at hg
 cases hx:els[i]? with
 |none=>simp[hx]at hg
 |some x=>
  simp only[hx]at hg
  obtain⟨d',pre,post,h1,h2,h3,h4⟩:=O6 p (h x (bN hx)) he
  rw[hg]at h1
  cases h1
  refine⟨h2,dA hx,aA (els.take i)++pre,post++aA (els.drop (i+1)),?_,?_⟩
  ·rw[fW hx,h3];simp
  ·rw[aao,h4,bj (λd hd=>h d (aa1 hd)),aau,abV (aey (dA hx))]
theorem Fm{s e:Sh}{els els':List D}{i:Nat}{p:List Nat}{x:D}(h:∀d∈els,aL s d)(he:s.at p=some e)(hx:aL e x)(hg:mA els (i::p) x=some els'):
  (∀d∈els',aL s d)/\els'.length=els.length/\i<els.length/\∃pre o post,aA els=pre++(o++post)/\aA els'=pre++(x.flat++post)/\pre.length=i*s.size+s.off p/\o.length=x.flat.length:=by
 simp only[mA]at hg
 cases hy:els[i]? with
 |none=>simp[hy]at hg
 | some y =>
  simp only[hy]at hg
  obtain⟨d',o,pre,post,h1,h2,h3,h4,h5,h6⟩:=O7 p (h y (bN hy)) he hx
  simp only[h1]at hg
  cases hg
  have hi:=dA hy
  refine⟨λd hd=>?_,by simp,hi,aA (els.take i)++pre,o,post++aA (els.drop (i+1)),?_,?_,?_,h6⟩
  ·rcases adz hd with h'|h'
   ·exact h d h'
   ·exact h'▸h2
  ·rw[fW hy,h3];simp
  ·rw[D9 hi,h4];simp
  ·rw[aao,h5,bj (λd hd=>h d (aa1 hd)),aau,abV (aey hi)]
end Go.Am
namespace Go.Am
structure Loc where
 b:Nat
 sh:Sh
 room:Nat
 mp:Bool
def Loc.at(L:Loc):List Nat->Option Sh
 |[]=>none
 |i::p=>bif L.mp then none else L.sh.at p
theorem Loc.Ht{L:Loc}{p:List Nat}{s:Sh}(h:L.at p=some s):L.mp=false:=by
 cases p with
 |nil=>simp[Loc.at]at h
 |cons i p=>cases hm:L.mp<;>simp[Loc.at,hm]at h⊢
theorem Loc.yC{L:Loc}{i:Nat}{p:List Nat}(h:L.mp=false):L.at (i::p)=L.sh.at p:=by simp[Loc.at,h]
def Loc.off(L:Loc):List Nat->Nat
 |[]=>0
 |i::p=>i*L.sh.size+L.sh.off p
abbrev Pl:=Nat->Option Loc
def firstM:List D->Value->Value->Prop
 |[],_,_=>False
 |d::l,k,v=>match Fj d with
  |some (k',v')=>(kv k'=k/\v'=v)\/(kv k'≠k/\firstM l k v)
  |none=>False
structure qN (s:Sh) (l:List D) (es:Array MapEntry):Prop where
 pure:s.pure=true
 key:∀e∈es.toList,∃kd ks,s.sub 0=some ks/\aL ks kd/\e.key=kv kd
 kx:es.toList.Pairwise (λa b=>a.key≠b.key)
 at_:∀k v,(∃e∈es.toList,e.key=k/\e.val=v)↔firstM l k v
inductive LR (ρ:Pl) (w:World) (T:Nat->Prop):D->Value->Prop where
 |raw (v:Value):v.oneCell'=true->LR ρ w T (.raw v) v
 |ptr (s:Sh) (r:Nat) (p:List Nat) (L:Loc):ρ r=some L->L.at p=some s->LR ρ w T (.ptr s r p) (.pointer (some ⟨L.b,L.off p,none⟩))
 | sl (s : Sh) (r : Nat) (p : List Nat) (off len : Nat) (ex : Bool) (L : Loc) (cap : Nat) : ρ r = some L -> len <= cap -> (ex = true -> cap = len) ->
   ((p=[]/\s=L.sh/\L.mp=false/\(off+cap)*s.size<=L.room)\/∃n,L.at p=some (.ar n s)/\off+cap<=n)->
   LR ρ w T (.sl s r p off len ex) (.slice (some ⟨L.b,L.off p+off*s.size,none⟩) len cap)
 |Bw (s:Sh) (r:Nat) (p:List Nat) (off:Nat) (ex:Bool) (a:Option Addr):LR ρ w T (.sl s r p off 0 ex) (.slice a 0 0)
 | nX (n : Nat) (s : Sh) (r : Nat) (p : List Nat) (off : Nat) (L : Loc) : ρ r = some L -> ((p = [] /\ s = L.sh /\ L.mp = false /\ (off + n) * s.size <= L.room) \/ ∃ m, L.at p = some (.ar m s) /\ off + n <= m) ->
   LR ρ w T (.nX n s r p off) (.pointer (some ⟨L.b,L.off p+off*s.size,none⟩))
 |qj (s:Sh) (ex:Bool) (a:Option Addr) (cap:Nat):(ex=true->cap=0)->(a=none->cap=0)->LR ρ w T (.cI s [] ex) (.slice a 0 cap)
 | cI (s : Sh) (l : List D) (ex : Bool) (b o cap : Nat) (f : Nat -> Value) : (∀ d ∈ l, aL s d) -> T b ->
   (∀i d,(aA l)[i]?=some d->w.cell? ⟨b,o+i,none⟩=some (f i))->(∀i d,(aA l)[i]?=some d->LR ρ w T d (f i))->
   l.length<=cap->(ex=true->cap=l.length)->LR ρ w T (.cI s l ex) (.slice (some ⟨b,o,none⟩) l.length cap)
 | cd (s : Sh) (d : D) (b o : Nat) (f : Nat -> Value) : aL s d -> T b ->
   (∀i x,d.flat[i]?=some x->w.cell? ⟨b,o+i,none⟩=some (f i))->(∀i x,d.flat[i]?=some x->LR ρ w T x (f i))->
   LR ρ w T (.cd d) (.pointer (some ⟨b,o,none⟩))
 |mp (r:Nat) (L:Loc):ρ r=some L->L.mp=true->LR ρ w T (.mp r) (.map (some L.b))
 |Fi (f:Nat) (s:Sh) (r:Nat) (p:List Nat) (L:Loc):ρ r=some L->L.at p=some s->LR ρ w T (.Fi f s r p) (.func (.func f) #[] #[.pointer (some ⟨L.b,L.off p,none⟩)])
 |om (s:Sh) (l:List D) (b:Nat) (es:Array MapEntry) (clock:Nat):(∀d∈l,aL s d)->T b->w.heap[b]?=some (.map es clock)->qN s l es->LR ρ w T (.om s l) (.map (some b))
theorem LR.Hu{s:Sh}{p:List Nat}{c n:Nat}{L:Loc}(h:(p=[]/\s=L.sh/\L.mp=false/\c<=L.room)\/∃n',L.at p=some (.ar n' s)/\n<=n'):L.mp=false:=by
 rcases h with⟨_,_,h,_⟩|⟨_,h,_⟩
 ·exact h
 ·exact Loc.Ht h
theorem LR.mono{ρ ρ':Pl}{w w':World}{T T':Nat->Prop}{d:D}{v:Value}(h:LR ρ w T d v)(hρ:∀r L,ρ r=some L->ρ' r=some L)
  (hw:∀b,T b->w'.heap[b]?=w.heap[b]?)(hT:∀b,T b->T' b):LR ρ' w' T' d v:=by
 induction h with
 |raw v hv=>exact .raw v hv
 |ptr s r p L hL hp=>exact .ptr s r p L (hρ _ _ hL) hp
 |sl s r p off len ex L cap hL h1 h2 h3=>exact .sl s r p off len ex L cap (hρ _ _ hL) h1 h2 h3
 |Bw s r p off ex a=>exact .Bw s r p off ex a
 |nX n s r p off L hL h1=>exact .nX n s r p off L (hρ _ _ hL) h1
 |qj s ex a cap h1 h2=>exact .qj s ex a cap h1 h2
 |cI s l ex b o cap f h1 hb h2 _ h4 h5 ih=>exact .cI s l ex b o cap f h1 (hT b hb) (λi d hd=>(World.cell?_of_block (a:=⟨b,o+i,none⟩) (hw b hb)).trans (h2 i d hd)) ih h4 h5
 |cd s d b o f h1 hb h2 _ ih=>exact .cd s d b o f h1 (hT b hb) (λi x hx=>(World.cell?_of_block (a:=⟨b,o+i,none⟩) (hw b hb)).trans (h2 i x hx)) ih
 |mp r L h1 h2=>exact .mp r L (hρ _ _ h1) h2
 |Fi f s r p L hL hp=>exact .Fi f s r p L (hρ _ _ hL) hp
 |om s l b es clock h1 hb h2 h3=>exact .om s l b es clock h1 (hT b hb) ((hw b hb).trans h2) h3
theorem LR.one{ρ:Pl}{w:World}{T:Nat->Prop}{d:D}{v:Value}(h:LR ρ w T d v):v.oneCell'=true:=by
 cases h<;>first|assumption|rfl
theorem LR.leaf{ρ:Pl}{w:World}{T:Nat->Prop}{d:D}{v:Value}(h:LR ρ w T d v):d.eZ=true:=by
 cases h<;>first|rfl|(simpa[D.eZ])
def sj(ρ:Pl)(w:World)(T:Nat->Prop)(d:D)(v:Value):Prop:=
 match d with
 | .agg s l=>∃cs:Array Value,v= .agg cs/\aL s (.agg s l)/\bd (LR ρ w T) (aA l) cs.toList
 |d=>LR ρ w T d v
def VR(ρ:Pl)(w:World)(T:Nat->Prop)(d:D)(v:Value):Prop:=
 match d with
 | .cA l=>∃vs:Array Value,v= .tuple vs/\bd (sj ρ w T) l vs.toList
 |d=>sj ρ w T d v
theorem sj.mono{ρ ρ':Pl}{w w':World}{T T':Nat->Prop}{d:D}{v:Value}(h:sj ρ w T d v)(hρ:∀r L,ρ r=some L->ρ' r=some L)
  (hw:∀b,T b->w'.heap[b]?=w.heap[b]?)(hT:∀b,T b->T' b):sj ρ' w' T' d v:=by
 cases d with
 |agg s l=>
  obtain⟨cs,rfl,h1,h2⟩:=h
  exact⟨cs,rfl,h1,h2.mono λa b h=>h.mono hρ hw hT⟩
 | _=>exact LR.mono h hρ hw hT
theorem VR.mono{ρ ρ':Pl}{w w':World}{T T':Nat->Prop}{d:D}{v:Value}(h:VR ρ w T d v)(hρ:∀r L,ρ r=some L->ρ' r=some L)
  (hw:∀b,T b->w'.heap[b]?=w.heap[b]?)(hT:∀b,T b->T' b):VR ρ' w' T' d v:=by
 cases d with
 |cA l=>
  obtain⟨vs,rfl,h1⟩:=h
  exact⟨vs,rfl,h1.mono λa b h=>sj.mono h hρ hw hT⟩
 |agg s l=>exact sj.mono (d:= .agg s l) h hρ hw hT
 | _=>exact LR.mono h hρ hw hT
theorem yD{v:Value}(h:v.oneCell'=true):v.cells=#[v]:=by cases v<;>simp_all[Value.oneCell',Value.cells]
theorem VR.cells{ρ:Pl}{w:World}{T:Nat->Prop}{d:D}{v:Value}{s:Sh}(h:VR ρ w T d v)(hf:d.fits s=true):
  aL s d/\bd (LR ρ w T) d.flat v.cells.toList/\(s.isAgg=true->∃cs,v= .agg cs)/\(s.isAgg=false->v.oneCell'=true):=by
 cases d with
 |agg t l=>
  simp[D.fits]at hf
  subst hf
  obtain⟨cs,rfl,h1,h2⟩:=h
  refine⟨h1,by simpa[D.flat,Value.cells]using h2,λ_=>⟨cs,rfl⟩,λha=>?_⟩
  have:=h1.qM ha
  simp[D.eZ]at this
 |cA l=>cases s<;>simp[D.fits]at hf
 |raw x=>
  have h':LR ρ w T (.raw x) v:=h
  have h1:=h'.one
  have hl:=h'.leaf
  cases s<;>simp[D.fits]at hf
  ·exact⟨.leaf _ x hf,by rw[yD h1,cz hl];exact bd.single h',by simp[Sh.isAgg],λ_=>h1⟩
  ·exact⟨.ref _ hl,by rw[yD h1,cz hl];exact bd.single h',by simp[Sh.isAgg],λ_=>h1⟩
 | _=>
  have h':LR ρ w T _ v:=h
  have h1:=h'.one
  have hl:=h'.leaf
  cases s<;>simp[D.fits]at hf
  exact⟨.ref _ hl,by rw[yD h1,cz hl];exact bd.single h',by simp[Sh.isAgg],λ_=>h1⟩
theorem sj.O9{ρ:Pl}{w:World}{T:Nat->Prop}{d:D}{s:Sh}{cs:Array Value}(h:aL s d)(ha:s.isAgg=true)(hc:bd (LR ρ w T) d.flat cs.toList):sj ρ w T d (.agg cs):=by
 obtain⟨l,rfl,_⟩:=h.jN ha
 exact⟨cs,rfl,h,by simpa[D.flat]using hc⟩
theorem sj.bH{ρ:Pl}{w:World}{T:Nat->Prop}{d:D}{v:Value}(hc:LR ρ w T d v):sj ρ w T d v:=by
 cases d<;>first|exact hc|cases hc
theorem VR.zz{ρ:Pl}{w:World}{T:Nat->Prop}{d:D}{v:Value}(hc:sj ρ w T d v):VR ρ w T d v:=by
 cases d<;>first|exact hc|(cases hc)
theorem VR.bH{ρ:Pl}{w:World}{T:Nat->Prop}{d:D}{v:Value}(hc:LR ρ w T d v):VR ρ w T d v:=VR.zz (sj.bH hc)
theorem VR.raw{ρ:Pl}{w:World}{T:Nat->Prop}{v:Value}(h:v.oneCell'=true):VR ρ w T (.raw v) v:=VR.bH (.raw v h)
theorem VR.ofRaw{ρ:Pl}{w:World}{T:Nat->Prop}{v x:Value}(h:VR ρ w T (.raw x) v):v=x:=by
 have h':LR ρ w T (.raw x) v:=h
 cases h'
 rfl
theorem VR.BE{ρ:Pl}{w:World}{T:Nat->Prop}{d:D}{v:Value}(h:VR ρ w T d v)(hl:d.eZ=true):LR ρ w T d v:=by
 cases d<;>first|exact h|simp[D.eZ]at hl
def FrOK(n:Nat)(fr:Nat×Nat):Prop:=fr=(0,0)\/n<=fr.1
def o7(w:World)(b:Nat)(cur:Array Value)(t:TypeId):Prop:=∃fr,w.heap[b]?=some (.cells cur t fr)/\FrOK cur.size fr
theorem o7.same{w w':World}{b:Nat}{cur:Array Value}{t:TypeId}(h:o7 w b cur t)(hb:w'.heap[b]?=w.heap[b]?):o7 w' b cur t:=by
 obtain⟨fr,h1,h2⟩:=h
 exact⟨fr,hb.trans h1,h2⟩
theorem o7.ZM{w:World}{b:Nat}{cur qn:Array Value}{t t':TypeId}(h:o7 w b cur t)(h':o7 w b qn t'):cur=qn/\t=t':=by
 obtain⟨fr,h1,_⟩:=h
 obtain⟨fr',h2,_⟩:=h'
 rw[h1]at h2
 cases h2
 exact⟨rfl,rfl⟩
theorem o7.setRow{w:World}{b:Nat}{cur qn:Array Value}{t:TypeId}(h:o7 w b cur t)(hs:qn.size=cur.size):o7 (w.setRow b qn) b qn t:=by
 obtain⟨fr,h1,h2⟩:=h
 exact⟨fr,setRow_heap w b cur qn t fr h1,by rw[hs];exact h2⟩
theorem FrOK.not{w:World}{b o:Nat}{cur:Array Value}{t:TypeId}{fr:Nat×Nat}(h1:w.heap[b]?=some (.cells cur t fr))(h2:FrOK cur.size fr)(ho:o<cur.size):w.frozen? ⟨b,o,none⟩=false:=by
 obtain⟨lo,hi⟩:=fr
 rcases h2 with h2|h2
 ·cases h2
  simp[World.frozen?,h1]
 ·simp only[World.frozen?,h1]
  simp at h2
  simp
  omega
def tC(w w':World)(b:Nat):Prop:=∃cur t fr fr',w.heap[b]?=some (.cells cur t fr)/\w'.heap[b]?=some (.cells cur t fr')/\FrOK cur.size fr'
theorem tC.row{w w':World}{b:Nat}{cur:Array Value}{t:TypeId}(h:tC w w' b)(hr:o7 w b cur t):o7 w' b cur t:=by
 obtain⟨c,t',fr,fr',h1,h2,h3⟩:=h
 obtain⟨fr0,h4,_⟩:=hr
 rw[h1]at h4
 cases h4
 exact⟨fr',h2,h3⟩
structure nu (ρ:Pl) (row:Row) (L:Loc) (w:World) (T:Nat->Prop):Prop where
 sh:L.sh=row.sh
 nZ:¬T L.b
 els:∀d∈row.els,aL row.sh d
 cells:L.mp=false->∃cur t,o7 w L.b cur t/\L.room<=cur.size/\(aA row.els).length<=L.room/\bd (LR ρ w T) (aA row.els) (cur.toList.take (aA row.els).length)
 qO:L.mp=true->∃es clock,w.heap[L.b]?=some (.map es clock)/\qN row.sh row.els es
def QH(ρ:Pl)(rows:Rows)(w w':World):Prop:=∀b,b<w.heap.size->w'.heap[b]?=w.heap[b]?\/(tC w w' b/\∃r row L,live rows r=some row/\ρ r=some L/\L.b=b)
structure jY (ρ:Pl) (rows:Rows) (w:World) (T:Nat->Prop):Prop where
 row:∀r row L,live rows r=some row->ρ r=some L->nu ρ row L w T
 kx:∀r r' row row' L L',live rows r=some row->live rows r'=some row'->ρ r=some L->ρ r'=some L'->r≠r'->L.b≠L'.b
theorem nu.lt{ρ:Pl}{row:Row}{L:Loc}{w:World}{T:Nat->Prop}(h:nu ρ row L w T):L.b<w.heap.size:=by
 cases hm:L.mp with
 |false=>
  obtain⟨cur,t,⟨_,hh,_⟩,_⟩:=h.cells hm
  exact(aaX.1 hh).1
 |true=>
  obtain⟨es,clock,hh,_⟩:=h.qO hm
  exact(aaX.1 hh).1
theorem nu.mono{ρ ρ':Pl}{row:Row}{L:Loc}{w w':World}{T T':Nat->Prop}(h:nu ρ row L w T)(hρ:∀r L,ρ r=some L->ρ' r=some L)
  (hw:∀b,T b->w'.heap[b]?=w.heap[b]?)(hT:∀b,T b->T' b)(hb:w'.heap[L.b]?=w.heap[L.b]?)(hn:¬T' L.b):nu ρ' row L w' T':=by
 refine⟨h.sh,hn,h.els,λhm=>?_,λhm=>?_⟩
 ·obtain⟨cur,t,h1,h2,h3,h4⟩:=h.cells hm
  exact⟨cur,t,h1.same hb,h2,h3,h4.mono λa b h=>h.mono hρ hw hT⟩
 ·obtain⟨es,clock,h1,h2⟩:=h.qO hm
  exact⟨es,clock,hb.trans h1,h2⟩
theorem nu.ZN{ρ ρ':Pl}{row:Row}{L:Loc}{w w':World}{T T':Nat->Prop}(h:nu ρ row L w T)(hρ:∀r L,ρ r=some L->ρ' r=some L)
  (hw:∀b,T b->w'.heap[b]?=w.heap[b]?)(hT:∀b,T b->T' b)(hb:w'.heap[L.b]?=w.heap[L.b]?\/tC w w' L.b)(hn:¬T' L.b):nu ρ' row L w' T':=by
 refine⟨h.sh,hn,h.els,λhm=>?_,λhm=>?_⟩
 ·obtain⟨cur,t,h1,h2,h3,h4⟩:=h.cells hm
  refine⟨cur,t,?_,h2,h3,h4.mono λa b h=>h.mono hρ hw hT⟩
  rcases hb with hb|hb
  ·exact h1.same hb
  ·exact hb.row h1
 ·obtain⟨es,clock,h1,h2⟩:=h.qO hm
  rcases hb with hb|⟨cur,t,fr,fr',h3,_⟩
  ·exact⟨es,clock,hb.trans h1,h2⟩
  ·rw[h1]at h3;cases h3
def Hv(ρ:Pl)(w:World)(T:Nat->Prop)(env:Env)(tmps:Array Value):Prop:=∀t d,look env t=some d->VR ρ w T d (tmps.getD t undef)
theorem Hv.mono{ρ ρ':Pl}{w w':World}{T T':Nat->Prop}{env:Env}{tmps:Array Value}(h:Hv ρ w T env tmps)(hρ:∀r L,ρ r=some L->ρ' r=some L)
  (hw:∀b,T b->w'.heap[b]?=w.heap[b]?)(hT:∀b,T b->T' b):Hv ρ' w' T' env tmps:=λt d hd=>(h t d hd).mono hρ hw hT
theorem Hv.put{ρ:Pl}{w:World}{T:Nat->Prop}{env:Env}{a:Act}{dst:Option Nat}{d:D}{v:Value}(h:Hv ρ w T env a.tmps)(hv:VR ρ w T d v)
  (hd:∀t,dst=some t->t<a.tmps.size):Hv ρ w T (Am.put dst d env) (a.put dst v).tmps:=by
 cases dst with
 |none=>exact h
 | some t =>
  intro t' d' hl
  have ht:=hd t rfl
  simp only[Am.put,look]at hl
  simp only[Act.put]
  cases hb:(t==t')with
  |true=>
   have:t=t':=by simpa using hb
   subst this
   simp[hb]at hl
   subst hl
   simpa[Array.getD,ht]using hv
  |false=>
   have hne:t≠t':=by simpa using hb
   simp[hb]at hl
   have:=h t' d' hl
   simpa[Array.getElem?_setIfInBounds,hne]using this
structure Step (ρ:Pl) (T:Nat->Prop) (rows:Rows) (w:World) (ρ':Pl) (T':Nat->Prop) (aa:Rows) (w':World):Prop where
 pl:∀r L,ρ r=some L->ρ' r=some L
 tt:∀b,T b->T' b
 wB:∀b,T' b->T b\/w.heap.size<=b\/∃r row L,live rows r=some row/\ρ r=some L/\L.b=b
 size:w.heap.size<=w'.heap.size
 keep:∀b,b<w.heap.size->(∀r row L,live rows r=some row->ρ r=some L->L.b≠b)->w'.heap[b]?=w.heap[b]?
 fresh:∀r row L,live aa r=some row->ρ' r=some L->(∃r0 qP L0,live rows r0=some qP/\ρ r0=some L0/\L0.b=L.b)\/w.heap.size<=L.b
 os:w'.os=w.os
 tape:w'.tape=w.tape
 output:w'.output=w.output
 len:rows.length<=aa.length
 same:∀r,r<rows.length->ρ' r=ρ r
theorem Step.refl(ρ:Pl)(T:Nat->Prop)(rows:Rows)(w:World):Step ρ T rows w ρ T rows w:=
 ⟨λ_ _ h=>h,λ_ h=>h,λ_ h=> .inl h,aaz _,λ_ _ _=>rfl,λr row L h1 h2=> .inl ⟨r,row,L,h1,h2,rfl⟩,rfl,rfl,rfl,aaz _,λ_ _=>rfl⟩
theorem Step.trans{ρ ρ' ZO:Pl}{T T' Zg:Nat->Prop}{rows aa Hw:Rows}{w w' w'':World}(h:Step ρ T rows w ρ' T' aa w')(h':Step ρ' T' aa w' ZO Zg Hw w''):
  Step ρ T rows w ZO Zg Hw w'':=by
 refine⟨λr L hr=>h'.pl r L (h.pl r L hr),λb hb=>h'.tt b (h.tt b hb),λb hb=>?_,abd h.size h'.size,λb hb hn=>?_,λr row L h1 h2=>?_,
  h'.os.trans h.os,h'.tape.trans h.tape,h'.output.trans h.output,abd h.len h'.len,λr hr=>(h'.same r (abR hr h.len)).trans (h.same r hr)⟩
 ·rcases h'.wB b hb with h1|h1|⟨r,row,L,h1,h2,h3⟩
  ·exact h.wB b h1
  ·exact .inr (.inl (abd h.size h1))
  ·rcases h.fresh r row L h1 h2 with⟨r0,qP,L0,h4,h5,h6⟩|h4
   ·exact .inr (.inr ⟨r0,qP,L0,h4,h5,h6.trans h3⟩)
   ·exact .inr (.inl (by omega))
 ·rw[h'.keep b (abR hb h.size),h.keep b hb hn]
  intro r row L h1 h2 he
  rcases h.fresh r row L h1 h2 with⟨r0,qP,L0,h3,h4,h5⟩|h3
  ·exact hn r0 qP L0 h3 h4 (h5.trans he)
  ·omega
 ·rcases h'.fresh r row L h1 h2 with⟨r0,qP,L0,h3,h4,h5⟩|h3
  ·rcases h.fresh r0 qP L0 h3 h4 with⟨r1,Gj,L1,h6,h7,h8⟩|h6
   ·exact .inl ⟨r1,Gj,L1,h6,h7,h8.trans h5⟩
   ·exact .inr (h5▸h6)
  ·exact .inr (abd h.size h3)
structure eQ (n:Nat) (ρ:Pl) (T:Nat->Prop) (env:Env) (rows:Rows) (a:Act) (w:World):Prop where
 bE:jY ρ rows w T
 env:Hv ρ w T env a.tmps
 size:a.tmps.size=n
 wC:∀b,T b->b<w.heap.size
 wD:∀r,rows.length<=r->ρ r=none
 defers:a.defers=[]
theorem eQ.put{n:Nat}{ρ:Pl}{T:Nat->Prop}{env:Env}{rows:Rows}{a:Act}{w:World}(h:eQ n ρ T env rows a w){dst:Option Nat}{d:D}{v:Value}(hv:VR ρ w T d v)
  (hd:∀t,dst=some t->t<n):eQ n ρ T (Am.put dst d env) rows (a.put dst v) w:=
 ⟨h.bE,h.env.put hv (λt ht=>by rw[h.size];exact hd t ht),by cases dst<;>simp[Act.put,h.size],h.wC,h.wD,by cases dst<;>simp[Act.put,h.defers]⟩
def uX(ρ:Pl)(r:Nat)(L:Loc):Pl:=λr'=>if r'=r then some L else ρ r'
theorem Hx{ρ:Pl}{r:Nat}{L:Loc}(h:ρ r=none):∀r' L',ρ r'=some L'->uX ρ r L r'=some L':=by
 intro r' L' h'
 unfold uX
 split
 ·rename_i e;subst e;simp[h]at h'
 ·exact h'
theorem eQ.build{n:Nat}{ρ ρ':Pl}{T:Nat->Prop}{env:Env}{rows aa:Rows}{a:Act}{w w':World}(h:eQ n ρ T env rows a w)(B:Nat)(r0:Nat)(qP:Row)(L0:Loc)
  (hρ:∀r L,ρ r=some L->ρ' r=some L)(hB:¬T B)(ZP:L0.b=B)(hρ0:ρ' r0=some L0)(hsz:w.heap.size<=w'.heap.size)
  (hw:∀b,b≠B->b<w.heap.size->w'.heap[b]?=w.heap[b]?)(hos:w'.os=w.os)(w8:w'.tape=w.tape)(hout:w'.output=w.output)
  (hrow0:nu ρ' qP L0 w' T)(ZQ:(∃r row L,live rows r=some row/\ρ r=some L/\L.b=B)\/w.heap.size<=B)
  (sI:∀r row,live aa r=some row->(r=r0/\row=qP)\/(r≠r0/\live rows r=some row/\∀L,ρ' r=some L->ρ r=some L/\L.b≠B))
  (mF:∀r,aa.length<=r->ρ' r=none)(hlen:rows.length<=aa.length)(hsame:∀r,r<rows.length->ρ' r=ρ r):eQ n ρ' T env aa a w'/\Step ρ T rows w ρ' T aa w':=by
 have hTw:∀b,T b->w'.heap[b]?=w.heap[b]?:=λb hb=>hw b (λe=>hB (e▸hb)) (h.wC b hb)
 refine⟨⟨⟨?_,?_⟩,h.env.mono hρ hTw (λ_ h=>h),h.size,λb hb=>abR (h.wC b hb) hsz,mF,h.defers⟩,
  ⟨hρ,λ_ h=>h,λ_ h=> .inl h,hsz,?_,?_,hos,w8,hout,hlen,hsame⟩⟩
 ·intro r row L h1 h2
  rcases sI r row h1 with⟨rfl,rfl⟩|⟨hr,h3,h4⟩
  ·rw[hρ0]at h2;cases h2;exact hrow0
  ·obtain⟨h5,h6⟩:=h4 L h2
   have:=h.bE.row r row L h3 h5
   exact this.mono hρ hTw (λ_ h=>h) (hw _ h6 this.lt) this.nZ
 ·intro r r' row row' L L' h1 h2 h3 h4 hne
  rcases sI r row h1 with⟨rfl,rfl⟩|⟨hr,h5,h6⟩
  ·rw[hρ0]at h3;cases h3
   rcases sI r' row' h2 with⟨rfl,rfl⟩|⟨uY,h7,h8⟩
   ·exact absurd rfl hne
   ·rw[ZP];exact λe=>(h8 L' h4).2 e.symm
  ·rcases sI r' row' h2 with⟨rfl,rfl⟩|⟨uY,h7,h8⟩
   ·rw[hρ0]at h4;cases h4
    rw[ZP];exact(h6 L h3).2
   ·exact h.bE.kx r r' row row' L L' h5 h7 (h6 L h3).1 (h8 L' h4).1 hne
 ·intro b hb hn
  refine hw b ?_ hb
  rintro rfl
  rcases ZQ with⟨r,row,L,h1,h2,h3⟩|h1
  ·exact hn r row L h1 h2 h3
  ·omega
 ·intro r row L h1 h2
  rcases sI r row h1 with⟨rfl,rfl⟩|⟨hr,h3,h4⟩
  ·rw[hρ0]at h2;cases h2
   rcases ZQ with⟨r,row,L,h1,h2,h3⟩|h1
   ·exact .inl ⟨r,row,L,h1,h2,by rw[h3,ZP]⟩
   ·exact .inr (by rw[ZP];exact h1)
  ·exact .inl ⟨r,row,L,h3,(h4 L h2).1,rfl⟩
theorem eQ.heap{n:Nat}{ρ:Pl}{T:Nat->Prop}{env:Env}{rows:Rows}{a:Act}{w w':World}(h:eQ n ρ T env rows a w)(hh:w'.heap=w.heap):eQ n ρ T env rows a w':=by
 have hT:∀b,T b->w'.heap[b]?=w.heap[b]?:=λb _=>by rw[hh]
 refine⟨⟨λr row L h1 h2=>?_,h.bE.kx⟩,h.env.mono (λ_ _ h=>h) hT (λ_ h=>h),h.size,λb hb=>by rw[hh];exact h.wC b hb,h.wD,h.defers⟩
 exact(h.bE.row r row L h1 h2).mono (λ_ _ h=>h) hT (λ_ h=>h) (by rw[hh]) (h.bE.row r row L h1 h2).nZ
theorem vR(rows:Rows)(row:Row):live (rows++[some row]) rows.length=some row:=by simp[live]
theorem sJ{rows:Rows}{row row':Row}{r:Nat}(h:live (rows++[some row']) r=some row):(r=rows.length/\row=row')\/(r<rows.length/\live rows r=some row):=by
 unfold live at h⊢
 rcases adO r rows.length with h1|h1|h1
 ·right
  rw[aaN h1]at h
  exact⟨h1,h⟩
 ·left
  subst h1
  simp at h
  exact⟨rfl,h.symm⟩
 ·rw[aaO (by omega)]at h
  have:r-rows.length≠0:=by omega
  obtain⟨k,hk⟩:=Nat.exists_eq_succ_of_ne_zero this
  rw[hk]at h
  simp at h
theorem bb{rows:Rows}{r:Nat}{row:Row}(h:live rows r=some row):r<rows.length:=by
 unfold live at h
 split at h
 ·rename_i hh;exact dA hh
 ·cases h
theorem BF{rows:Rows}{x:Option Row}{r r':Nat}{row:Row}(h:live (rows.set r x) r'=some row):(r'=r/\x=some row)\/(r'≠r/\live rows r'=some row):=by
 unfold live at h⊢
 rw[adn]at h
 by_cases hr:r=r'
 ·subst hr
  left
  simp only[abX]at h
  by_cases hl:r<rows.length
  ·simp only[hl,abX]at h
   cases x with
   |none=>simp at h
   |some y=>simp at h;exact⟨rfl,by rw[h]⟩
  ·simp[hl]at h
 ·right
  simp only[hr,abW]at h
  exact⟨λe=>hr e.symm,h⟩
theorem iS{rows:Rows}{r:Nat}{row row':Row}(h:live rows r=some row):live (rows.set r (some row')) r=some row':=by
 simp[live,bb h]
theorem eQ.push{n:Nat}{ρ:Pl}{T:Nat->Prop}{env:Env}{rows:Rows}{a:Act}{w w':World}(h:eQ n ρ T env rows a w)(row:Row)(cur:Array Value)(t:TypeId)
  (hw':w'.heap=w.heap.push (.cells cur t))(hos:w'.os=w.os)(w8:w'.tape=w.tape)(hout:w'.output=w.output)
  (gP:∀d∈row.els,aL row.sh d)(hlen:(aA row.els).length<=cur.size)(hc:bd (LR ρ w T) (aA row.els) (cur.toList.take (aA row.els).length)):
  eQ n (uX ρ rows.length ⟨w.heap.size,row.sh,cur.size,false⟩) T env (rows++[some row]) a w'/\Step ρ T rows w (uX ρ rows.length ⟨w.heap.size,row.sh,cur.size,false⟩) T (rows++[some row]) w':=by
 have hnT:¬T w.heap.size:=λhT=>Nat.lt_irrefl _ (h.wC _ hT)
 have Hy:=Hx (L:=(⟨w.heap.size,row.sh,cur.size,false⟩:Loc)) (h.wD rows.length (aaz _))
 have hold:∀b,b≠w.heap.size->b<w.heap.size->w'.heap[b]?=w.heap[b]?:=by
  intro b hb _
  rw[hw',ac8,aaA hb]
 refine h.build w.heap.size rows.length row ⟨w.heap.size,row.sh,cur.size,false⟩ Hy hnT rfl (by simp[uX]) (by simp[hw']) hold hos w8 hout ?_ (.inr (aaz _)) ?_ ?_ (by simp) (λr hr=>by unfold uX;rw[aaA (by omega)])
 ·exact⟨rfl,hnT,gP,λ_=>⟨cur,t,⟨(0,0),by simp[hw'],.inl rfl⟩,aaz _,hlen,hc.mono λa b h'=>h'.mono Hy (λb hb=>hold b (λe=>hnT (e▸hb)) (h.wC b hb)) (λ_ h=>h)⟩,λh=>by cases h⟩
 ·intro r row' hl
  rcases sJ hl with⟨rfl,rfl⟩|⟨h1,h2⟩
  ·exact .inl ⟨rfl,rfl⟩
  ·refine .inr ⟨by omega,h2,λL hL=>?_⟩
   have:ρ r=some L:=by
    unfold uX at hL
    rw[aaA (by omega)]at hL
    exact hL
   exact⟨this,λe=>by have:=(h.bE.row r row' L h2 this).lt;omega⟩
 ·intro r hr
  simp at hr
  unfold uX
  rw[aaA (by omega)]
  exact h.wD r (by omega)
theorem eQ.write{n:Nat}{ρ:Pl}{T:Nat->Prop}{env:Env}{rows:Rows}{a:Act}{w:World}(h:eQ n ρ T env rows a w){r:Nat}{row:Row}{L:Loc}(hl:live rows r=some row)(hL:ρ r=some L)
  (els:List D)(cur qn:Array Value)(t:TypeId)(hmp:L.mp=false)(Sm:o7 w L.b cur t)(hsz:qn.size=cur.size)(gP:∀d∈els,aL row.sh d)
  (hlen:(aA els).length<=L.room)(hc:bd (LR ρ w T) (aA els) (qn.toList.take (aA els).length)):
  eQ n ρ T env (rows.set r (some ⟨row.sh,els⟩)) a (w.setRow L.b qn)/\Step ρ T rows w ρ T (rows.set r (some ⟨row.sh,els⟩)) (w.setRow L.b qn):=by
 have hrow:=h.bE.row r row L hl hL
 have hold:∀b,b≠L.b->b<w.heap.size->(w.setRow L.b qn).heap[b]?=w.heap[b]?:=λb hb _=>setRow_other w L.b b qn hb
 obtain⟨cur0,t0,hc0,hroom,_,_⟩:=hrow.cells hmp
 obtain⟨rfl,rfl⟩:=Sm.ZM hc0
 refine h.build L.b r ⟨row.sh,els⟩ L (λ_ _ h=>h) hrow.nZ rfl hL (by simp) hold rfl rfl rfl ?_ (.inl ⟨r,row,L,hl,hL,rfl⟩) ?_ ?_ (by simp) (λ_ _=>rfl)
 ·exact⟨hrow.sh,hrow.nZ,gP,λ_=>⟨qn,t,Sm.setRow hsz,by omega,hlen,
   hc.mono λa b h'=>h'.mono (λ_ _ h=>h) (λb hb=>hold b (λe=>hrow.nZ (e▸hb)) (h.wC b hb)) (λ_ h=>h)⟩,λhm=>by rw[hmp]at hm;cases hm⟩
 ·intro r' row' nV
  rcases BF nV with⟨rfl,he⟩|⟨h1,h2⟩
  ·cases he;exact .inl ⟨rfl,rfl⟩
  ·exact .inr ⟨h1,h2,λL' M1=>⟨M1,h.bE.kx r' r row' row L' L h2 hl M1 hL h1⟩⟩
 ·intro r' uY
  simp at uY
  exact h.wD r' uY
theorem eQ.kill{n:Nat}{ρ:Pl}{T:Nat->Prop}{env:Env}{rows:Rows}{a:Act}{w:World}(h:eQ n ρ T env rows a w)(r:Nat):
  eQ n ρ T env (rows.set r none) a w/\Step ρ T rows w ρ T (rows.set r none) w:=by
 have hk:∀r' row,live (rows.set r none) r'=some row->live rows r'=some row:=by
  intro r' row hl
  rcases BF hl with⟨_,he⟩|⟨_,h2⟩
  ·cases he
  ·exact h2
 refine⟨⟨⟨λr' row L h1 h2=>h.bE.row r' row L (hk _ _ h1) h2,λr1 r2 Gj pH L1 L2 h1 h2=>h.bE.kx r1 r2 Gj pH L1 L2 (hk _ _ h1) (hk _ _ h2)⟩,h.env,h.size,h.wC,λr' uY=>h.wD r' (by simpa using uY),h.defers⟩,?_⟩
 exact⟨λ_ _ h=>h,λ_ h=>h,λ_ h=> .inl h,aaz _,λ_ _ _=>rfl,λr' row L h1 h2=> .inl ⟨r',row,L,hk _ _ h1,h2,rfl⟩,rfl,rfl,rfl,by simp,λ_ _=>rfl⟩
theorem eQ.move{n:Nat}{ρ:Pl}{T:Nat->Prop}{env:Env}{rows:Rows}{a:Act}{w:World}(h:eQ n ρ T env rows a w){r:Nat}{row:Row}{L:Loc}(hl:live rows r=some row)(hL:ρ r=some L)
  (els:List D)(cur qn:Array Value)(t:TypeId)(hmp:L.mp=false)(Sm:o7 w L.b cur t)(hsz:qn.size=cur.size)(gP:∀d∈els,aL row.sh d)
  (hlen:(aA els).length<=L.room)(hc:bd (LR ρ w T) (aA els) (qn.toList.take (aA els).length)):
  eQ n (uX ρ rows.length L) T env (rows.set r none++[some ⟨row.sh,els⟩]) a (w.setRow L.b qn)/\Step ρ T rows w (uX ρ rows.length L) T (rows.set r none++[some ⟨row.sh,els⟩]) (w.setRow L.b qn):=by
 have hrow:=h.bE.row r row L hl hL
 have hold:∀b,b≠L.b->b<w.heap.size->(w.setRow L.b qn).heap[b]?=w.heap[b]?:=λb hb _=>setRow_other w L.b b qn hb
 have Hy:=Hx (L:=L) (h.wD rows.length (aaz _))
 obtain⟨cur0,t0,hc0,hroom,_,_⟩:=hrow.cells hmp
 obtain⟨rfl,rfl⟩:=Sm.ZM hc0
 refine h.build L.b rows.length ⟨row.sh,els⟩ L Hy hrow.nZ rfl (by simp[uX]) (by simp) hold rfl rfl rfl ?_ (.inl ⟨r,row,L,hl,hL,rfl⟩) ?_ ?_ (by simp) (λr hr=>by unfold uX;rw[aaA (by omega)])
 ·exact⟨hrow.sh,hrow.nZ,gP,λ_=>⟨qn,t,Sm.setRow hsz,by omega,hlen,
   hc.mono λa b h'=>h'.mono Hy (λb hb=>hold b (λe=>hrow.nZ (e▸hb)) (h.wC b hb)) (λ_ h=>h)⟩,λhm=>by rw[hmp]at hm;cases hm⟩
 ·intro r' row' nV
  rcases sJ nV with⟨h1,rfl⟩|⟨h1,h2⟩
  ·exact .inl ⟨by simpa using h1,rfl⟩
  ·simp at h1
   rcases BF h2 with⟨_,he⟩|⟨h3,h4⟩
   ·cases he
   ·refine .inr ⟨by omega,h4,λL' M1=>?_⟩
    have hL'':ρ r'=some L':=by
     unfold uX at M1
     rw[aaA (by omega)]at M1
     exact M1
    exact⟨hL'',h.bE.kx r' r row' row L' L h4 hl hL'' hL h3⟩
 ·intro r' uY
  simp at uY
  unfold uX
  rw[aaA (by omega)]
  exact h.wD r' (by omega)
theorem eQ.grow{n:Nat}{ρ:Pl}{T:Nat->Prop}{env:Env}{rows:Rows}{a:Act}{w w':World}(h:eQ n ρ T env rows a w)(o:Obj)
  (hw':w'.heap=w.heap.push o)(hos:w'.os=w.os)(w8:w'.tape=w.tape)(hout:w'.output=w.output):
  eQ n ρ (λb=>T b\/b=w.heap.size) env rows a w'/\Step ρ T rows w ρ (λb=>T b\/b=w.heap.size) rows w':=by
 have hold:∀b,b<w.heap.size->w'.heap[b]?=w.heap[b]?:=by
  intro b hb
  rw[hw',ac8,aaA (by omega)]
 have hT:∀b,T b->w'.heap[b]?=w.heap[b]?:=λb hb=>hold b (h.wC b hb)
 refine⟨⟨⟨λr row L h1 h2=>?_,h.bE.kx⟩,h.env.mono (λ_ _ h=>h) hT (λ_ h=> .inl h),h.size,?_,h.wD,h.defers⟩,
  ⟨λ_ _ h=>h,λ_ h=> .inl h,?_,by simp[hw'],λb hb _=>hold b hb,λr row L h1 h2=> .inl ⟨r,row,L,h1,h2,rfl⟩,hos,w8,hout,aaz _,λ_ _=>rfl⟩⟩
 ·have hr:=h.bE.row r row L h1 h2
  refine hr.mono (λ_ _ h=>h) hT (λ_ h=> .inl h) (hold _ hr.lt) ?_
  rintro(h3|h3)
  ·exact hr.nZ h3
  ·have:=hr.lt;omega
 ·rintro b (h1|h1)
  ·have:=h.wC b h1;simp[hw'];omega
  ·simp[hw'];omega
 ·rintro b (h1|h1)
  ·exact .inl h1
  ·exact .inr (.inl (by omega))
theorem eQ.pushMap{n:Nat}{ρ:Pl}{T:Nat->Prop}{env:Env}{rows:Rows}{a:Act}{w w':World}(h:eQ n ρ T env rows a w)(s:Sh)(hp:s.pure=true)
  (hw':w'.heap=w.heap.push (.map #[] 0))(hos:w'.os=w.os)(w8:w'.tape=w.tape)(hout:w'.output=w.output):
  eQ n (uX ρ rows.length ⟨w.heap.size,s,0,true⟩) T env (rows++[some ⟨s,[]⟩]) a w'/\Step ρ T rows w (uX ρ rows.length ⟨w.heap.size,s,0,true⟩) T (rows++[some ⟨s,[]⟩]) w':=by
 have hnT:¬T w.heap.size:=λhT=>Nat.lt_irrefl _ (h.wC _ hT)
 have Hy:=Hx (L:=(⟨w.heap.size,s,0,true⟩:Loc)) (h.wD rows.length (aaz _))
 have hold:∀b,b≠w.heap.size->b<w.heap.size->w'.heap[b]?=w.heap[b]?:=by
  intro b hb _
  rw[hw',ac8,aaA hb]
 refine h.build w.heap.size rows.length ⟨s,[]⟩ ⟨w.heap.size,s,0,true⟩ Hy hnT rfl (by simp[uX]) (by simp[hw']) hold hos w8 hout ?_ (.inr (aaz _)) ?_ ?_ (by simp) (λr hr=>by unfold uX;rw[aaA (by omega)])
 ·refine⟨rfl,hnT,λ_ hd=>by simp at hd,λhm=>(by cases hm),λ_=>⟨#[],0,by simp[hw'],⟨hp,λe he=>by simp at he,by simp,λk v=>?_⟩⟩⟩
  simp[firstM]
 ·intro r row' hl
  rcases sJ hl with⟨rfl,rfl⟩|⟨h1,h2⟩
  ·exact .inl ⟨rfl,rfl⟩
  ·refine .inr ⟨by omega,h2,λL hL=>?_⟩
   have:ρ r=some L:=by
    unfold uX at hL
    rw[aaA (by omega)]at hL
    exact hL
   exact⟨this,λe=>by have:=(h.bE.row r row' L h2 this).lt;omega⟩
 ·intro r hr
  simp at hr
  unfold uX
  rw[aaA (by omega)]
  exact h.wD r (by omega)
theorem eQ.ZR{n:Nat}{ρ:Pl}{T:Nat->Prop}{env:Env}{rows:Rows}{a:Act}{w w':World}(h:eQ n ρ T env rows a w){r:Nat}{row:Row}{L:Loc}(hl:live rows r=some row)(hL:ρ r=some L)
  (els:List D)(es:Array MapEntry)(clock:Nat)(hmp:L.mp=true)(gP:∀d∈els,aL row.sh d)(hR:qN row.sh els es)
  (hb:w'.heap[L.b]?=some (.map es clock))(hold:∀b,b≠L.b->w'.heap[b]?=w.heap[b]?)(hsz:w'.heap.size=w.heap.size)(hos:w'.os=w.os)(w8:w'.tape=w.tape)(hout:w'.output=w.output):
  eQ n ρ T env (rows.set r (some ⟨row.sh,els⟩)) a w'/\Step ρ T rows w ρ T (rows.set r (some ⟨row.sh,els⟩)) w':=by
 have hrow:=h.bE.row r row L hl hL
 refine h.build L.b r ⟨row.sh,els⟩ L (λ_ _ h=>h) hrow.nZ rfl hL (by omega) (λb hb _=>hold b hb) hos w8 hout ?_ (.inl ⟨r,row,L,hl,hL,rfl⟩) ?_ ?_ (by simp) (λ_ _=>rfl)
 ·exact⟨hrow.sh,hrow.nZ,gP,λhm=>(by rw[hmp]at hm;cases hm),λ_=>⟨es,clock,hb,hR⟩⟩
 ·intro r' row' nV
  rcases BF nV with⟨rfl,he⟩|⟨h1,h2⟩
  ·cases he;exact .inl ⟨rfl,rfl⟩
  ·exact .inr ⟨h1,h2,λL' M1=>⟨M1,h.bE.kx r' r row' row L' L h2 hl M1 hL h1⟩⟩
 ·intro r' uY
  simp at uY
  exact h.wD r' uY
theorem Step.tnew0{ρ ρ':Pl}{T T':Nat->Prop}{aa:Rows}{w w':World}(h:Step ρ T [] w ρ' T' aa w'):∀b,T' b->T b\/w.heap.size<=b:=by
 intro b hb
 rcases h.wB b hb with h1|h1|⟨r,row,L,h1,_⟩
 ·exact .inl h1
 ·exact .inr h1
 ·simp[live]at h1
theorem eQ.mark{n:Nat}{ρ:Pl}{T:Nat->Prop}{env:Env}{rows:Rows}{a:Act}{w w':World}{r:Nat}{row:Row}{L:Loc}(h:eQ n ρ T env rows a w)(hl:live rows r=some row)(hL:ρ r=some L)
  (hsz:w'.heap.size=w.heap.size)(hw:∀b,b≠L.b->w'.heap[b]?=w.heap[b]?)(qo:tC w w' L.b)(hos:w'.os=w.os)(w8:w'.tape=w.tape)(hout:w'.output=w.output):
  eQ n ρ T env rows a w'/\Step ρ T rows w ρ T rows w':=by
 have hr:=h.bE.row r row L hl hL
 have hT:∀b,T b->w'.heap[b]?=w.heap[b]?:=λb hb=>hw b (λe=>hr.nZ (e▸hb))
 refine⟨⟨⟨λr' row' L' h1 h2=>?_,h.bE.kx⟩,h.env.mono (λ_ _ h=>h) hT (λ_ h=>h),h.size,λb hb=>by rw[hsz];exact h.wC b hb,h.wD,h.defers⟩,
  ⟨λ_ _ h=>h,λ_ h=>h,λ_ h=> .inl h,by omega,λb hb hn=>hw b (λe=>hn r row L hl hL e.symm),λr' row' L' h1 h2=> .inl ⟨r',row',L',h1,h2,rfl⟩,hos,w8,hout,aaz _,λ_ _=>rfl⟩⟩
 have uY:=h.bE.row r' row' L' h1 h2
 refine uY.ZN (λ_ _ h=>h) hT (λ_ h=>h) ?_ uY.nZ
 by_cases e:L'.b=L.b
 ·rw[e];exact .inr qo
 ·exact .inl (hw _ e)
end Go.Am
namespace Go.Am
theorem bd.seg{α β:Type}{R:α->β->Prop}{pre m post:List α}{cur:List β}{N:Nat}(h:bd R (pre++(m++post)) (cur.take N)):
  bd R m ((cur.drop pre.length).take m.length)/\pre.length+m.length<=cur.length:=by
 have hl:=h.len
 simp only[aao,aau]at hl
 have h1:=(h.drop pre.length).take m.length
 rw[abe,aa0]at h1
 refine⟨?_,by omega⟩
 have:((cur.take N).drop pre.length).take m.length=(cur.drop pre.length).take m.length:=by
  rw[aeD,acV,abV (by omega)]
 rwa [this]at h1
theorem nv(b o j:Nat):(⟨b,o,none⟩:Addr).add j=⟨b,o+j,none⟩:=by
 unfold Addr.add
 split
 ·rename_i h;subst h;rfl
 ·rfl
def At(w:World)(b o:Nat)(cs:List Value):Prop:=∀(j:Nat) (x:Value),cs[j]?=some x->w.cell? ⟨b,o+j,none⟩=some x
theorem At.take{w:World}{b o:Nat}{cs:List Value}(h:At w b o cs)(n:Nat):At w b o (cs.take n):=by
 intro j x hx
 rw[abt]at hx
 split at hx
 ·exact h j x hx
 ·cases hx
theorem At.drop{w:World}{b o:Nat}{cs:List Value}(h:At w b o cs)(n:Nat):At w b (o+n) (cs.drop n):=by
 intro j x hx
 rw[abk]at hx
 rw[ab2]
 exact h _ x hx
theorem Sn{w:World}{b o n:Nat}{cur:Array Value}{t:TypeId}(hg:o7 w b cur t):At w b o ((cur.toList.drop o).take n):=by
 obtain⟨fr,hg,_⟩:=hg
 intro j x hx
 rw[abt]at hx
 split at hx
 ·rw[abk]at hx
  rw[cell_of_row w b (o+j) cur t fr hg]
  simpa using hx
 ·cases hx
variable {C:bf} {P:Program} {n:Nat} {ρ:Pl} {T:Nat->Prop} {env:Env} {rows:Rows} {a:Act} {w:World}
theorem jY.M2(h:jY ρ rows w T){s:Sh}{r:Nat}{p:List Nat}{v:Value}{row:Row}{d:D}(hv:LR ρ w T (.ptr s r p) v)(hl:live rows r=some row)(hg:dC row.els p=some d):
  ∃b o cs,v= .pointer (some ⟨b,o,none⟩)/\aL s d/\bd (LR ρ w T) d.flat cs/\At w b o cs:=by
 cases hv with
 | ptr _ _ _ L hL hp =>
  have hr:=h.row r row L hl hL
  obtain⟨cur,t,h1,h2,h3,h4⟩:=hr.cells (Loc.Ht hp)
  cases p with
  |nil=>simp[Loc.at]at hp
  |cons i p=>
   rw[Loc.yC (Loc.Ht hp),hr.sh]at hp
   obtain⟨h5,h6,pre,post,h7,h8⟩:=w7 hr.els hp hg
   rw[h7]at h4
   have h9:=h4.seg
   refine⟨L.b,L.off (i::p),_,rfl,h5,h9.1,?_⟩
   have he:L.off (i::p)=pre.length:=by simp[Loc.off,hr.sh,h8]
   rw[he]
   exact Sn h1
theorem BG{d:D}{ls:List D}{b o:Nat}{f:Nat->Value}(h1:∀i d,ls[i]?=some d->w.cell? ⟨b,o+i,none⟩=some (f i))(h2:∀i d,ls[i]?=some d->LR ρ w T d (f i)):
  bd (LR ρ w T) ls ((List.range ls.length).map f)/\At w b o ((List.range ls.length).map f):=by
 refine⟨⟨by simp,λi x y hx hy=>?_⟩,λj x hx=>?_⟩
 ·simp only[abu]at hy
  rw[adB (dA hx)]at hy
  simp at hy
  subst hy
  exact h2 i x hx
 ·have hj:=dA hx
  simp at hj
  simp only[abu,adB hj]at hx
  simp at hx
  subst hx
  exact h1 j _ (aap hj)
theorem LR.BH{d:D}{v:Value}(hv:LR ρ w T (.cd d) v):∃b o cs s,v= .pointer (some ⟨b,o,none⟩)/\aL s d/\T b/\bd (LR ρ w T) d.flat cs/\At w b o cs:=by
 cases hv with
 |cd s d b o f h1 hb h2 h3=>exact⟨b,o,_,s,rfl,h1,hb,(BG (d:=d) h2 h3).1,(BG (d:=d) h2 h3).2⟩
theorem LR.AH{d:D}{b o:Nat}{cs:List Value}{s:Sh}(h1:aL s d)(hb:T b)(h2:bd (LR ρ w T) d.flat cs)(h3:At w b o cs):LR ρ w T (.cd d) (.pointer (some ⟨b,o,none⟩)):=by
 refine .cd s d b o (λi=>cs.getD i undef) h1 hb (λi x hx=>?_) (λi x hx=>?_)
 ·obtain⟨y,hy,_⟩:=h2.some hx
  rw[h3 i y hy]
  simp[List.getD,hy]
 ·obtain⟨y,hy,hr⟩:=h2.some hx
  simpa[List.getD,hy]using hr
theorem LR.Pa{l:List D}{b o cap:Nat}{cs:List Value}{s:Sh}{ex:Bool}(h1:∀d∈l,aL s d)(hb:T b)(h2:bd (LR ρ w T) (aA l) cs)(h3:At w b o cs)
  (h4:l.length<=cap)(h5:ex=true->cap=l.length):LR ρ w T (.cI s l ex) (.slice (some ⟨b,o,none⟩) l.length cap):=by
 refine .cI s l ex b o cap (λi=>cs.getD i undef) h1 hb (λi x hx=>?_) (λi x hx=>?_) h4 h5
 ·obtain⟨y,hy,_⟩:=h2.some hx
  rw[h3 i y hy]
  simp[List.getD,hy]
 ·obtain⟨y,hy,hr⟩:=h2.some hx
  simpa[List.getD,hy]using hr
def So(ρ:Pl)(T:Nat->Prop)(rows:Rows)(b:Nat):Prop:=T b\/∃r row L,live rows r=some row/\ρ r=some L/\L.b=b
structure Lf (rows:Rows) (ρ:Pl) (w:World) (T:Nat->Prop) (s:Sh) (l:List D) (v:Value) (k:Nat) (ad:Option Addr) (cap:Nat) (cs:List Value):Prop where
 hv:v= .slice ad k cap
 els:∀d∈l,aL s d
 len:l.length=k
 hcap:k<=cap
 hcs:bd (LR ρ w T) (aA l) cs
 at_:∀(j:Nat) (x:Value),cs[j]?=some x->∃b o,ad=some ⟨b,o,none⟩/\w.cell? ⟨b,o+j,none⟩=some x
 nil:ad=none->cap=0
 adr:k≠0->∃b o,ad=some ⟨b,o,none⟩/\So ρ T rows b
theorem u6{s:Sh}{l:List D}{off len:Nat}(h:∀d∈l,aL s d)(hl:off+len<=l.length):
  ∃pre post,aA l=pre++(aA ((l.drop off).take len)++post)/\pre.length=off*s.size:=by
 refine⟨aA (l.take off),aA ((l.drop off).drop len),?_,?_⟩
 ·rw[<-eh,aa5,<-eh,aa5]
 ·rw[bj (λd hd=>h d (aa1 hd)),aau,abV (by omega)]
theorem jY.holds(h:jY ρ rows w T){s:Sh}{d:D}{v:Value}{l:List D}{k:Nat}(hv:LR ρ w T d v)(he:elems rows d=some l)(hk:dQ d=some k)(Hz:l.length=k)(hs:fa s d=true):
  ∃ad cap cs,Lf rows ρ w T s l v k ad cap cs:=by
 cases hv with
 | raw v hv =>
  cases v with
  |slice a len cap=>
   cases a<;>cases len<;>cases cap<;>simp[elems,dQ]at he hk
   subst he;subst hk
   exact⟨none,0,[],rfl,by simp,rfl,aaz _,by simpa[aA]using bd.nil,by simp,λ_=>rfl,by simp⟩
  | _=>simp[elems]at he
 |ptr _ _ _ _ _ _=>simp[elems]at he
 |cd _ _ _ _ _ _ _ _ _=>simp[elems]at he
 |nX _ _ _ _ _ _ _ _=>simp[elems]at he
 |Fi=>simp[elems]at he
 |mp=>simp[elems]at he
 |om=>simp[elems]at he
 |Bw t r p off ex ad=>
  simp[dQ]at hk
  subst hk
  have Sp:l=[]:=aaF Hz
  subst Sp
  exact⟨ad,0,[],rfl,by simp,rfl,aaz _,by simpa[aA]using bd.nil,by simp,λ_=>rfl,by simp⟩
 |qj t ex ad cap h1 h2=>
  simp[elems,dQ]at he hk
  subst he;subst hk
  exact⟨ad,cap,[],rfl,by simp,rfl,by omega,by simpa[aA]using bd.nil,by simp,h2,by simp⟩
 |cI t l' ex b o cap f h1 hb h2 h3 h4 h5=>
  simp[elems,dQ]at he hk
  subst he;subst hk
  simp[fa]at hs
  subst hs
  obtain⟨h6,h7⟩:=BG (d:=default) h2 h3
  exact⟨some ⟨b,o,none⟩,cap,_,rfl,h1,rfl,h4,h6,λj x hx=>⟨b,o,rfl,h7 j x hx⟩,by simp,λ_=>⟨b,o,rfl,.inl hb⟩⟩
 | sl t r p off len ex L cap hL h1 h2 h3 =>
  simp[dQ]at hk
  subst hk
  simp[fa]at hs
  subst hs
  cases p with
  | nil =>
   simp only[elems]at he
   cases hl:live rows r with
   |none=>simp[hl]at he
   | some row =>
    simp[hl]at he
    subst he
    have hr:=h.row r row L hl hL
    obtain⟨cur,t',g1,g2,g3,g4⟩:=hr.cells (LR.Hu h3)
    have hsh:s=row.sh:=by
     rcases h3 with⟨_,h3,_⟩|⟨n,h3,_⟩
     ·rw[h3,hr.sh]
     ·simp[Loc.at]at h3
    subst hsh
    have gP:∀d∈(row.els.drop off).take len,aL row.sh d:=λd hd=>hr.els d (aca (aa1 hd))
    by_cases hz:len=0
    ·subst hz
     exact⟨_,cap,[],rfl,gP,Hz,h1,by simpa[aA]using bd.nil,by simp,by simp,by simp⟩
    ·simp only[aau,aar]at Hz
     obtain⟨pre,post,g5,g6⟩:=u6 (off:=off) (len:=len) hr.els (by omega)
     rw[g5]at g4
     have g7:=g4.seg
     refine⟨_,cap,_,rfl,gP,by simp;omega,h1,g7.1,λj x hx=>⟨L.b,_,rfl,?_⟩,by simp,λ_=>⟨L.b,_,rfl,.inr ⟨r,row,L,hl,hL,rfl⟩⟩⟩
     have:=Sn (o:=pre.length) (n:=(aA ((row.els.drop off).take len)).length) g1 j x hx
     simpa[Loc.off,g6]using this
  | cons i p =>
   simp only[elems]at he
   cases hl:live rows r with
   |none=>simp[hl]at he
   | some row =>
    simp only[hl]at he
    have hr:=h.row r row L hl hL
    obtain⟨cur,t',g1,g2,g3,g4⟩:=hr.cells (LR.Hu h3)
    rcases h3 with⟨h3,_⟩|⟨m,h3,h4⟩
    ·simp at h3
    ·rw[Loc.yC (Loc.Ht h3),hr.sh]at h3
     cases hg:dC row.els (i::p)with
     |none=>simp[hg]at he
     | some d =>
      obtain⟨g5,g6,pre,post,g7,g8⟩:=w7 hr.els h3 hg
      obtain⟨l',rfl,nV,fJ⟩:=g5.jN rfl
      simp[hg]at he
      subst he
      have bQ:∀d∈l',aL s d:=by
       intro d hd
       obtain⟨q,hq,rfl⟩:=aa3.1 hd
       exact fJ q s _ (by simp[Sh.sub];simp[Sh.count]at nV;omega) (aap hq)
      have gP:∀d∈(l'.drop off).take len,aL s d:=λd hd=>bQ d (aca (aa1 hd))
      by_cases hz:len=0
      ·subst hz
       exact⟨_,cap,[],rfl,gP,Hz,h1,by simpa[aA]using bd.nil,by simp,by simp,by simp⟩
      ·simp only[aau,aar]at Hz
       obtain⟨Pb,Pc,g9,g10⟩:=u6 (off:=off) (len:=len) bQ (by omega)
       simp only[D.flat]at g7
       rw[g7,g9]at g4
       have e:pre++(Pb++(aA ((l'.drop off).take len)++Pc)++post)=(pre++Pb)++(aA ((l'.drop off).take len)++(Pc++post)):=by simp
       rw[e]at g4
       have g11:=g4.seg
       refine⟨_,cap,_,rfl,gP,by simp;omega,h1,g11.1,λj x hx=>⟨L.b,_,rfl,?_⟩,by simp,λ_=>⟨L.b,_,rfl,.inr ⟨r,row,L,hl,hL,rfl⟩⟩⟩
       have:=Sn (o:=(pre++Pb).length) (n:=(aA ((l'.drop off).take len)).length) g1 j x hx
       simpa[Loc.off,hr.sh,g8,g10]using this
theorem Lf.first{s:Sh}{l:List D}{v:Value}{k cap:Nat}{ad:Option Addr}{cs:List Value}(h:Lf rows ρ w T s l v k ad cap cs){w':World}(hw:w'.heap=w.heap)(m:Nat)(hm:m<=k):
  (Builtin.firstCells s.size m v).run P w'= .ok (cs.take (m*s.size)).toArray w':=by
 have hl:cs.length=k*s.size:=by rw[<-h.hcs.len,bj h.els,h.len]
 have hlt:(cs.take (m*s.size)).length=m*s.size:=by
  rw[aau,hl]
  exact abV (abF _ hm)
 have hcell:∀ad,w'.cell? ad=w.cell? ad:=λad=>World.cell?_of_block (by rw[hw])
 rw[h.hv]
 cases Zh:ad with
 |none=>
  have hk:=h.nil Zh
  have hc0:=h.hcap
  have Fo:m=0:=by omega
  subst Fo
  simp[Builtin.firstCells]
 | some x =>
  refine run_firstCells_some (P:=P) w' s.size m x k cap _ hlt λj u hu=>?_
  rw[abt]at hu
  split at hu
  ·obtain⟨b,o,h1,h2⟩:=h.at_ j u hu
   rw[Zh]at h1
   cases h1
   rw[nv,hcell]
   exact h2
  ·cases hu
theorem Lf.HA{s:Sh}{l:List D}{v:Value}{k cap:Nat}{ad:Option Addr}{cs:List Value}(h:Lf rows ρ w T s l v k ad cap cs):cs.length=k*s.size:=by
 rw[<-h.hcs.len,bj h.els,h.len]
theorem gQ(P:Program)(g o:Nat)(t:TypeId):∀(vs:List Value) (i:Nat) (cur:Array Value) (w:World),o7 w g cur t->o+i+vs.length<=cur.size->(∀v∈vs,v.oneCell'=true)->
  (storeCells ⟨g,o,none⟩ vs i).run P w= .ok () (w.setRow g (cur.toList.take (o+i)++vs++cur.toList.drop (o+i+vs.length)).toArray)
 |[],i,cur,w,hg,_,_=>by
  obtain⟨fr,hg,_⟩:=hg
  simp only[storeCells,aaL,aaT,acQ,aa5,Array.toArray_toList]
  rw[setRow_self w g cur t fr hg]
  rfl
 | v :: rest, i, cur, w, hg, hl, h1 => by
  have hi:o+i<cur.size:=by simp at hl;omega
  obtain⟨fr,Sq,qo⟩:=hg
  have hadd:(⟨g,o,none⟩:Addr).add i=⟨g,o+i,none⟩:=by unfold Addr.add;split<;>simp_all
  have hcell:w.cell? ⟨g,o+i,none⟩=some cur[o+i]:=by simp[World.cell?,Sq,hi]
  have hfro:w.frozen? ⟨g,o+i,none⟩=false:=qo.not Sq hi
  have hst:(store ((⟨g,o,none⟩:Addr).add i) v).run P w= .ok () (w.setRow g (cur.setIfInBounds (o+i) v)):=by
   rw[hadd,run_store P w _ v _ (h1 v (by simp)),hcell]
   simp[hfro,setCell_eq_setRow w g (o+i) cur t fr v Sq]
  have ih:=gQ P g o t rest (i+1) (cur.setIfInBounds (o+i) v) (w.setRow g (cur.setIfInBounds (o+i) v)) (o7.setRow ⟨fr,Sq,qo⟩ (by simp)) (by simp at hl⊢;omega) (λx hx=>h1 x (by simp[hx]))
  simp only[storeCells,Sem.run_bind,hst,Result.andThen_ok,ih,setRow_setRow]
  congr 3
  have e:=list_seg_step cur.toList (o+i) v rest (by simp at hl⊢;omega)
  simpa[Array.toList_setIfInBounds,ab2]using e
end Go.Am
namespace Go.Am
theorem au{α:Type}{x:Option α}{k:α->Prop}(h:bn x k):∃a,x=some a/\k a:=by
 cases x with
 |none=>exact h.elim
 |some a=>exact⟨a,rfl,h⟩
theorem aH{α β:Type}{x:Option α}{f:α->Option β}{y:β}(h:o2 x f=some y):∃a,x=some a/\f a=some y:=by
 cases x with
 |none=>simp[o2]at h
 |some a=>exact⟨a,rfl,h⟩
theorem cK{α:Type}{b:Bool}{x:Option α}{y:α}(h:zw b x=some y):b=true/\x=some y:=by
 cases b with
 |false=>simp[zw]at h
 |true=>exact⟨rfl,h⟩
variable {C:bf} {P:Program} {n:Nat} {ρ:Pl} {T:Nat->Prop} {env:Env} {rows:Rows} {a:Act} {w:World}
def tZ(C:bf)(ρ:Pl)(w:World)(T:Nat->Prop):Prop:=∀g d,C.aX g=some d->LR ρ w T (.cd d) (.pointer (some ⟨g,0,none⟩))
def Runs(P:Program)(o:Oper)(a:Act)(w:World)(v:Value)(w':World):Prop:=
 (execOp a.eval o).run P w= .ok (.value v) w'\/((execOp a.eval o).run P w= .ok .skip w'/\v=undef)
def bO(P:Program)(n:Nat)(o:Oper)(ρ:Pl)(T:Nat->Prop)(env:Env)(rows:Rows)(a:Act)(w:World)(k:D->Rows->Prop):Prop:=
 ∃d aa ρ' T' v w',k d aa/\eQ n ρ' T' env aa a w'/\Step ρ T rows w ρ' T' aa w'/\VR ρ' w' T' d v/\Runs P o a w v w'/\(gG o.op=true->QH ρ rows w w'/\∀b,T' b->T b\/w.heap.size<=b)
theorem bO.here{o:Oper}{k:D->Rows->Prop}(hs:eQ n ρ T env rows a w){d:D}{v:Value}(hk:k d rows)(hv:VR ρ w T d v)(hr:(execOp a.eval o).run P w= .ok (.value v) w):
  bO P n o ρ T env rows a w k:=⟨d,rows,ρ,T,v,w,hk,hs,Step.refl _ _ _ _,hv,.inl hr,λ_=>⟨λ_ _=> .inl rfl,λ_ h=> .inl h⟩⟩
theorem bJ{x:Operand}{y:X}{d:D}(hc:cX x=some y)(he:ev C env y=some d)(hs:eQ n ρ T env rows a w)(hG:tZ C ρ w T):VR ρ w T d (a.eval x):=by
 cases x with
 |tmp t=>
  simp[cX]at hc
  subst hc
  exact hs.env t d he
 | const v =>
  simp only[cX]at hc
  cases hv:v.oneCell' with
  |false=>simp[hv]at hc
  |true=>
   simp[hv]at hc
   subst hc
   simp[ev]at he
   subst he
   exact VR.raw hv
 | global g =>
  simp[cX]at hc
  subst hc
  simp only[ev]at he
  cases hg:C.aX g with
  |none=>simp[hg]at he
  |some d'=>
   simp[hg]at he
   subst he
   exact VR.bH (hG g d' hg)
 |func f=>
  simp[cX]at hc
  subst hc
  simp[ev]at he
  subst he
  exact VR.raw rfl
theorem fb{x:Operand}{y:X}{v:Value}(hc:cX x=some y)(he:ev C env y=some (.raw v))(hs:eQ n ρ T env rows a w)(hG:tZ C ρ w T):a.eval x=v:=
 VR.ofRaw (bJ hc he hs hG)
theorem int_beq(x y:Int):(x==y)=decide (x=y):=rfl
theorem run_equal_bool{t:TypeId}(ht:P.underlying t=some .bool)(x y:Bool)(w:World):(Op.equal t (.bool x) (.bool y)).run P w= .ok (x==y) w:=by
 have e:Op.maxDepth=9999+1:=rfl
 rw[Op.equal,e,Op.equalIn]
 simp only[Sem.run_bind,run_underlying ht,Result.andThen_ok,Sem.run_pure]
section ops
variable (hs:eQ n ρ T env rows a w) (hG:tZ C ρ w T) {o:Oper} {k:D->Rows->Prop}
include hs hG
theorem op_mv{x:Operand}{y:X}(ho:o.op= .move x\/o.op= .assign x)(hc:cX x=some y)(h:dW C env rows (.mv y) k):bO P n o ρ T env rows a w k:=by
 obtain⟨d,he,hk⟩:=au h
 refine .here hs hk (bJ hc he hs hG) ?_
 rcases ho with ho|ho<;>simp[execOp,ho]
theorem op_pick{c x y:Operand}{c' x' y':X}(ho:o.op= .pick c x y)(h1:cX c=some c')(h2:cX x=some x')(h3:cX y=some y')(h:dW C env rows (.pick c' x' y') k):bO P n o ρ T env rows a w k:=by
 obtain⟨d,he,hk⟩:=au h
 split at hk
 ·rename_i t
  have hct:=fb h1 he hs hG
  obtain⟨d,he,M3⟩:=au hk
  cases t with
  |true=>
   simp at he
   refine .here hs M3 (bJ h2 he hs hG) ?_
   simp[execOp,ho,hct,asBool]
  |false=>
   simp at he
   refine .here hs M3 (bJ h3 he hs hG) ?_
   simp[execOp,ho,hct,asBool]
 ·exact hk.elim
theorem ZS {op : BinOp} {t u : TypeId} {x y : Operand} {x' y' : X} (ho : o.op = .binOp op t x y u) (h1 : cX x = some x') (h2 : cX y = some y') (h : dW C env rows (.bin op x' y') k) : bO P n o ρ T env rows a w k := by
  obtain⟨d,he,hk⟩:=au h
  split at hk
  · rename_i av
    obtain⟨d2,w9,hk⟩:=au hk
    split at hk
    · rename_i bv
      have hx:=fb h1 he hs hG
      have hy:=fb h2 w9 hs hG
      unfold cF at hk
      split at hk
      all_goals first
        |exact hk.elim
        | (refine .here hs hk (VR.raw rfl) ?_
           simp[execOp,ho,hx,hy,eqGuard,binOp,Op.stringOp]
           done)
        | (obtain ⟨g1, hk⟩ := hk
           refine .here hs hk (VR.raw rfl) ?_
           subst g1
           simp[execOp,ho,hx,hy,eqGuard,binOp,Op.intArith,Op.intBits,Op.intCmp,bne,int_beq]
           done)
        | (obtain ⟨g1, hk⟩ := hk
           refine .here hs hk (VR.raw rfl) ?_
           simp[execOp,ho,hx,hy,eqGuard,binOp,Op.shift,aez.2 g1]
           done)
        | (obtain ⟨g1, g2, hk⟩ := hk
           refine .here hs hk (VR.raw rfl) ?_
           subst g1
           simp[execOp,ho,hx,hy,eqGuard,binOp,Op.intDiv,g2]
           done)
        | (obtain ⟨g1, hk⟩ := hk
           refine .here hs hk (VR.raw rfl) ?_
           have e:IntKind.i64.max=9223372036854775807:=by decide
           simp only[execOp,ho,hx,hy,eqGuard,binOp,Op.stringOp]
           simp
           omega)
    · exact hk.elim
  · exact hk.elim
theorem ZT{neg:Bool}{op:BinOp}{t u:TypeId}{x y:Operand}{x' y':X}(ho:o.op= .binOp op t x y u)(hop:op=bif neg then .neq else .eql)(ht:P.underlying t=some .bool)(h1:cX x=some x')(h2:cX y=some y')
  (h:dW C env rows (.beq neg x' y') k):bO P n o ρ T env rows a w k:=by
 obtain⟨d,he,hk⟩:=au h
 split at hk
 ·obtain⟨d2,w9,hk⟩:=au hk
  split at hk
  ·have hx:=fb h1 he hs hG
   have hy:=fb h2 w9 hs hG
   refine .here hs hk (VR.raw rfl) ?_
   cases neg<;>simp at hop<;>subst hop<;>simp only[execOp,ho,hx,hy,binOp]<;>simp[eqGuard,run_equal_bool ht]
  ·exact hk.elim
 ·exact hk.elim
theorem op_un{op:UnOp}{t:TypeId}{x:Operand}{x':X}(ho:o.op= .unOp op t x)(h1:cX x=some x')(h:dW C env rows (.un op x') k):bO P n o ρ T env rows a w k:=by
  obtain⟨d,he,hk⟩:=au h
  split at hk
  · have hx := fb h1 he hs hG
    unfold aUn at hk
    split at hk
    all_goals first
      |exact hk.elim
      | (refine .here hs hk (VR.raw rfl) ?_
         simp[execOp,ho,hx,Op.unary,Op.intArith,Op.intBits])
  · exact hk.elim
theorem op_conv{s t:TypeId}{x:Operand}{x':X}{j kd:IntKind}(ho:o.op= .convert s t x)(hsrc:P.underlying s=some (.int j))(ht:P.underlying t=some (.int kd))(h1:cX x=some x')
  (h:dW C env rows (.conv kd x') k):bO P n o ρ T env rows a w k:=by
 obtain⟨d,he,hk⟩:=au h
 split at hk
 ·have hx:=fb h1 he hs hG
  refine .here hs hk (VR.raw rfl) ?_
  simp[execOp,ho,hx,convert,run_underlying hsrc,run_underlying ht,Conv.intToInt]
 ·exact hk.elim
theorem ZU{s t:TypeId}{x:Operand}{x':X}(ho:o.op= .convert s t x)(hsrc:P.underlying s=some .string)(ht:P.underlying t=some .string)(h1:cX x=some x')
  (h:dW C env rows (.Ld x') k):bO P n o ρ T env rows a w k:=by
 obtain⟨d,he,hk⟩:=au h
 split at hk
 ·have hx:=fb h1 he hs hG
  refine .here hs hk (VR.raw rfl) ?_
  simp[execOp,ho,hx,convert,run_underlying hsrc,run_underlying ht]
 ·exact hk.elim
theorem op_nilc{x:Operand}{x':X}(ho:o.op= .nilCheck x)(h1:cX x=some x')(h:dW C env rows (.pF x') k):bO P n o ρ T env rows a w k:=by
 obtain⟨d,he,hk⟩:=au h
 have hv:=bJ h1 he hs hG
 split at hk
 ·have mN:=hv
  have hl:LR ρ w T _ _:=hv
  generalize hx:a.eval x=v at hl mN
  cases hl with
  |ptr _ _ _ L hL hp=>
   refine .here hs hk mN ?_
   simp[execOp,ho,hx]
 ·have mN:=hv
  obtain⟨b,o',cs,s,hx,_⟩:=LR.BH (show LR ρ w T _ _ from hv)
  refine .here hs hk mN ?_
  simp[execOp,ho,hx]
 ·exact hk.elim
theorem op_ext{x:Operand}{x':X}{i:Nat}(ho:o.op= .extract x i)(h1:cX x=some x')(h:dW C env rows (.ext x' i) k):bO P n o ρ T env rows a w k:=by
 obtain⟨d,he,hk⟩:=au h
 have hv:=bJ h1 he hs hG
 split at hk
 ·obtain⟨vs,hx,bQ⟩:=hv
  obtain⟨y,hy,hk⟩:=au hk
  obtain⟨u,hu,hyu⟩:=bQ.some hy
  have hu':vs[i]?=some u:=by simpa using hu
  refine .here hs hk (VR.zz hyu) ?_
  simp[execOp,ho,hx,Instr.extract,hu']
 ·exact hk.elim
end ops
end Go.Am
namespace Go.Am
variable {C:bf} {P:Program} {n:Nat} {ρ:Pl} {T:Nat->Prop} {env:Env} {rows:Rows} {a:Act} {w:World}
theorem yE{t:TypeId}{s:Sh}(h:sh P t=some s):∃i,P.info? t=some i/\i.size=s.size:=by
 unfold sh at h
 split at h
 ·split at h
  ·rename_i i hi
   cases hb:(i.size==_)with
   |false=>rw[hb]at h;simp at h
   |true=>
    rw[hb]at h
    simp at h
    subst h
    exact⟨i,hi,by simpa using hb⟩
  ·cases h
 ·cases h
theorem run_sizeOf{t:TypeId}{s:Sh}(h:sh P t=some s)(w:World):(sizeOf t).run P w= .ok s.size w:=by
 obtain⟨i,hi,hs⟩:=yE h
 simp[sizeOf,typeInfo,hi,hs]
theorem Pe{t:TypeId}{s:Sh}(h:mC P t s=true):∃d,P.underlying t=some d/\Se d=s.isAgg:=by
 unfold mC at h
 split at h
 ·rename_i d hd
  exact⟨d,hd,by simpa using h⟩
 ·cases h
theorem yF{t:TypeId}{s:Sh}(h:mC P t s=true)(w:World):(isAgg t).run P w= .ok s.isAgg w:=by
 obtain⟨d,hd,he⟩:=Pe h
 rw[<-he]
 cases d<;>simp[isAgg,run_underlying hd,Se]
def gX(s:Sh)(cs:List Value):Value:=if s.isAgg then .agg cs.toArray else cs.headD undef
theorem ny{t:TypeId}{s:Sh}(h:sh P t=some s)(hl:mC P t s=true){b o:Nat}{cs:List Value}(Ko:At w b o cs)(hlen:cs.length=s.size)(hone:s.isAgg=false->cs.length=1):
  (loadVar t ⟨b,o,none⟩).run P w= .ok (gX s cs) w:=by
 cases hs:s.isAgg with
 |true=>
  have hc:=run_loadCells_list (P:=P) w ⟨b,o,none⟩ cs (λj v hv=>by rw[nv];exact Ko j v hv)
  rw[hlen]at hc
  simp[loadVar,yF hl,run_sizeOf h,hs,gX,hc]
 | false =>
  have h1:=hone hs
  match cs,h1 with
  |[x],_=>
   have:=Ko 0 x rfl
   simp at this
   simp[loadVar,yF hl,hs,gX,this]
theorem VR.gX{s:Sh}{d:D}{cs:List Value}(h:aL s d)(hc:bd (LR ρ w T) d.flat cs):VR ρ w T d (Am.gX s cs):=by
 unfold Am.gX
 cases hs:s.isAgg with
 |true=>exact VR.zz (sj.O9 h hs (by simpa using hc))
 |false=>
  have hl:=h.qM hs
  rw[cz hl]at hc
  have:=hc.len
  match cs,this with
  |[x],_=>exact VR.bH hc.head
theorem qQ{s:Sh}{d:D}{cs:List Value}(h:aL s d)(hc:bd (LR ρ w T) d.flat cs):s.isAgg=false->cs.length=1:=by
 intro hs
 rw[<-hc.len,cz (h.qM hs)]
 rfl
theorem pI{s t:Sh}{l:List D}(h:aL s (.agg t l)):s=t/\s.isAgg=true:=by
 cases h with
 |ref _ h=>simp[D.eZ]at h
 |agg _ _ h _ _=>exact⟨rfl,h⟩
theorem fits_sh{s t:Sh}{d:D}(h:aL t d)(hf:d.fits s=true):aL s d:=by
 cases d with
 |agg u l=>
  simp[D.fits]at hf
  subst hf
  obtain⟨rfl,_⟩:=pI h
  exact h
 |cA l=>cases s<;>simp[D.fits]at hf
 |raw v=>
  cases s<;>simp[D.fits]at hf
  ·exact .leaf _ v hf
  ·exact .ref _ hf
 | _=>cases s<;>simp[D.fits]at hf;exact .ref _ hf
theorem Loc.yB{L:Loc}{p:List Nat}{s:Sh}(h:L.at p=some s)(i:Nat):L.at (p++[i])=s.sub i/\L.off (p++[i])=L.off p+s.lH i:=by
 cases p with
 |nil=>simp[Loc.at]at h
 |cons j p=>
  have hm:=Loc.Ht h
  rw[Loc.yC hm]at h
  refine⟨by simp only[acu,Loc.yC hm];exact Am.yB p i h,?_⟩
  simp only[acu,Loc.off]
  rw[O8 p i h]
  omega
theorem Lg{s e:Sh}{l:List D}{i:Nat}{d:D}{v:Value}(hv:LR ρ w T (.cd (.agg s l)) v)(fJ:s.sub i=some e)(hd:l[i]?=some d):
  ∃b o',v= .pointer (some ⟨b,o',none⟩)/\LR ρ w T (.cd d) (.pointer (some ⟨b,o'+s.lH i,none⟩)):=by
 obtain⟨b,o',cs,s',hx,g1,hT,g2,g3⟩:=LR.BH hv
 obtain⟨rfl,ha⟩:=pI g1
 obtain⟨d',j9,n9,oG⟩:=g1.part ha fJ
 rw[hd]at j9
 cases j9
 simp only[D.flat]at g2
 rw[fW hd]at g2
 refine⟨b,o',hx,.AH (cs:=(cs.drop (aA (l.take i)).length).take d.flat.length) n9 hT ?_ ?_⟩
 ·have:=(g2.drop (aA (l.take i)).length).take d.flat.length
  rwa [abe,aa0]at this
 ·rw[<-oG]
  exact(g3.drop _).take _
theorem HB{t:TypeId}{s:Sh}{cs:Array Value}{o':Nat}{ms:List Value}(hsh:sh P t=some s)(hl:mC P t s=true)(hlen:ms.length=s.size)(hone:s.isAgg=false->ms.length=1)
  (qR:(cs.toList.drop o').take ms.length=ms):(part t cs o').run P w= .ok (Am.gX s ms) w:=by
 cases hsa:s.isAgg with
 | true =>
  have:cs.extract o' (o'+s.size)=ms.toArray:=by
   apply acb
   rw[Array.toList_extract]
   simp only[List.extract]
   rw[show o'+s.size-o'=ms.length by omega,qR]
  simp[part,yF hl,hsa,run_sizeOf hsh,gX,this]
 | false =>
  have h1:=hone hsa
  match ms,h1 with
  | [x], _ =>
   have hx:cs[o']?=some x:=by
    have:=abB (λl=>l[0]?) qR
    simpa[abt]using this
   simp[part,yF hl,hsa,gX,hx]
theorem ik{o:Oper}{c:Call}{b:Builtin}(ho:o.op= .call c)(hc:c.callee= .builtin b):
  execOp a.eval o=builtin b c.argTypes o.type (c.args.map fun| .const _=>true| _=>false) (c.args.map a.eval):=by
 simp only[execOp,ho,resolve,hc]
 rfl
section ops
variable (hs:eQ n ρ T env rows a w) (hG:tZ C ρ w T) {o:Oper} {k:D->Rows->Prop}
include hs hG
theorem op_load{t:TypeId}{x:Operand}{x':X}{s:Sh}(ho:o.op= .load t x)(hsh:sh P t=some s)(hl:mC P t s=true)(h1:cX x=some x')(h:dW C env rows (.load s x') k):bO P n o ρ T env rows a w k:=by
 obtain⟨d,he,hk⟩:=au h
 have hv:=bJ h1 he hs hG
 split at hk
 ·obtain⟨rfl,hk⟩:=hk
  obtain⟨row,sI,hk⟩:=au hk
  obtain⟨d,hg,hk⟩:=au hk
  obtain⟨b,o',cs,hx,g1,g2,g3⟩:=hs.bE.M2 hv sI hg
  refine .here hs hk (VR.gX g1 g2) ?_
  have hlen:=g2.len
  rw[g1.len]at hlen
  simp[execOp,ho,hx,Instr.loadAt,Instr.sureAddr,ny hsh hl g3 hlen.symm (qQ g1 g2)]
 ·obtain⟨hf,hk⟩:=hk
  obtain⟨b,o',cs,s',hx,g1,_,g2,g3⟩:=LR.BH hv
  have g1':=fits_sh g1 hf
  refine .here hs hk (VR.gX g1' g2) ?_
  have hlen:cs.length=Sh.size s:=by rw[<-g2.len,g1'.len]
  simp[execOp,ho,hx,Instr.loadAt,Instr.sureAddr,ny hsh hl g3 hlen (qQ g1' g2)]
 ·rename_i m t r p off
  obtain⟨rfl,hk⟩:=hk
  obtain⟨l,nV,hk⟩:=au hk
  obtain⟨hlen,hk⟩:=hk
  have mN:LR ρ w T (.nX m t r p off) _:=hv
  generalize hx:a.eval x=v at mN
  cases mN with
  | nX _ _ _ _ _ L hL h2 =>
   have kf:LR ρ w T (.sl t r p off m false) (.slice (some ⟨L.b,L.off p+off*t.size,none⟩) m m):= .sl t r p off m false L m hL (aaz _) (by simp) h2
   obtain⟨ad,cap,cs,hH⟩:=hs.bE.holds (s:=t) kf nV rfl hlen (by simp[fa])
   have Ko:At w L.b (L.off p+off*t.size) cs:=by
    intro j y hy
    obtain⟨b,o',e1,e2⟩:=hH.at_ j y hy
    have e3:=hH.hv
    rw[e1]at e3
    cases e3
    exact e2
   have hsh':aL (.ar m t) (.agg (.ar m t) l):= .agg _ l rfl (by simp[Sh.count,hlen]) (λi e d hi hd=>by
    simp only[Sh.sub]at hi
    split at hi
    ·cases hi;exact hH.els d (bN hd)
    ·cases hi)
   have RN:bd (LR ρ w T) (D.agg (.ar m t) l).flat cs:=by simpa[D.flat]using hH.hcs
   have jZ:cs.length=Sh.size (.ar m t):=by rw[<-RN.len,hsh'.len]
   refine .here hs hk (VR.gX hsh' RN) ?_
   simp[execOp,ho,hx,Instr.loadAt,Instr.sureAddr,ny hsh hl Ko jZ (qQ hsh' RN)]
 ·exact hk.elim
theorem ZV{t:TypeId}{x:Operand}{x':X}{s e:Sh}{i:Nat}{fs:Array Field}{f:Field}{inf:TypeInfo}(ho:o.op= .fieldAddr t x i)(hu:P.underlying t=some (.struct fs))(hf:fs[i]?=some f)
  (he':s.sub i=some e)(oG:f.offset=s.lH i)(hinf:P.info? f.type=some inf)(hsz:inf.size=e.size)(hne:e.size≠0)(h1:cX x=some x')(h:dW C env rows (.eI s x' i) k):bO P n o ρ T env rows a w k:=by
 obtain⟨d,he,hk⟩:=au h
 have hv:=bJ h1 he hs hG
 have pJ:∀b o':Nat,(Instr.fieldAt t (.pointer (some ⟨b,o',none⟩)) i).run P w= .ok (.pointer (some ⟨b,o'+s.lH i,none⟩)) w:=by
  intro b o'
  simp[Instr.fieldAt,run_underlying hu,hf,Instr.sureAddr,fieldPlace,sizeOf,typeInfo,hinf,hsz,hne,oG,nv]
 split at hk
 ·obtain⟨rfl,hk⟩:=hk
  obtain⟨e2,w9,hk⟩:=au hk
  have hl:LR ρ w T _ _:=hv
  generalize hx:a.eval x=v at hl
  cases hl with
  |ptr _ _ _ L hL hp=>
   obtain⟨g1,g2⟩:=L.yB hp i
   refine .here hs hk (VR.bH (.ptr _ _ _ L hL (g1.trans w9))) ?_
   rw[g2]
   simp[execOp,ho,hx,pJ]
 ·obtain⟨rfl,hk⟩:=hk
  obtain⟨d2,tD,hk⟩:=au hk
  obtain⟨b,o',hx,g1⟩:=Lg (show LR ρ w T _ _ from hv) he' tD
  refine .here hs hk (VR.bH g1) ?_
  simp[execOp,ho,hx,pJ]
 ·exact hk.elim
theorem ZW{t:TypeId}{x:Operand}{x':X}{s e:Sh}{i:Nat}{fs:Array Field}{f:Field}(ho:o.op= .field t x i)(hu:P.underlying t=some (.struct fs))(hf:fs[i]?=some f)
  (he':s.sub i=some e)(oG:f.offset=s.lH i)(hsh:sh P f.type=some e)(hl:mC P f.type e=true)(h1:cX x=some x')(h:dW C env rows (.field s x' i) k):bO P n o ρ T env rows a w k:=by
 obtain⟨d,he,hk⟩:=au h
 have hv:=bJ h1 he hs hG
 split at hk
 ·rename_i u l
  obtain⟨rfl,hk⟩:=hk
  obtain⟨d2,tD,hk⟩:=au hk
  obtain⟨cs,hx,g1,g2⟩:=hv
  obtain⟨_,ha⟩:=pI g1
  obtain⟨d',j9,n9,ZX⟩:=g1.part ha he'
  rw[tD]at j9
  cases j9
  rw[fW tD]at g2
  have g3:=(g2.drop (aA (List.take i l)).length).take d2.flat.length
  rw[abe,aa0,ZX]at g3
  refine .here hs hk (VR.gX n9 g3) ?_
  have hlen:=g3.len
  have:=HB (w:=w) (o':=f.offset) (ms:=(cs.toList.drop (Sh.lH u i)).take d2.flat.length) hsh hl (by rw[<-hlen,n9.len]) (qQ n9 g3) (by rw[<-hlen,oG])
  simp[execOp,ho,hx,Instr.field,run_underlying hu,hf,asAgg,this]
 ·exact hk.elim
theorem W2{t e:TypeId}{x i:Operand}{x' i':X}{s:Sh}{m:Nat}(ho:o.op= .indexAddr t x i)(hu:P.underlying t=some (.array m e))(hsh:sh P e=some s)(h1:cX x=some x')(h2:cX i=some i')
  (h:dW C env rows (.wS m s x' i') k):bO P n o ρ T env rows a w k:=by
 obtain⟨d,he,hk⟩:=au h
 obtain⟨d2,w9,hk⟩:=au hk
 have hv:=bJ h1 he hs hG
 split at hk
 ·rename_i kd j
  have hi:=fb h2 w9 hs hG
  have pJ:∀b o':Nat,0<=j->j<(m:Int)->(Instr.indexAt t (.pointer (some ⟨b,o',none⟩)) (.int kd j)).run P w= .ok (.pointer (some ⟨b,o'+j.toNat*s.size,none⟩)) w:=by
   intro b o' g1 g2
   simp[Instr.indexAt,asIntOf,run_underlying hu,Instr.sureAddr,g1,g2,run_sizeOf hsh,nv]
  split at hk
  ·rename_i t' r p
   obtain⟨rfl,g1,g2,hk⟩:=hk
   have hl:LR ρ w T _ _:=hv
   generalize hx:a.eval x=v at hl
   cases hl with
   |ptr _ _ _ L hL hp=>
    obtain⟨g3,g4⟩:=L.yB hp j.toNat
    have g5:(Sh.ar m s).sub j.toNat=some s:=by simp[Sh.sub];omega
    refine .here hs hk (VR.bH (.ptr _ _ _ L hL (g3.trans g5))) ?_
    rw[g4]
    simp only[Sh.lH]
    simp[execOp,ho,hx,hi,pJ _ _ g1 g2]
  ·rename_i t' l
   obtain⟨rfl,g1,g2,hk⟩:=hk
   obtain⟨d3,M4,hk⟩:=au hk
   have g5:(Sh.ar m s).sub j.toNat=some s:=by simp[Sh.sub];omega
   obtain⟨b,o',hx,g6⟩:=Lg (show LR ρ w T _ _ from hv) g5 M4
   refine .here hs hk (VR.bH g6) ?_
   simp only[Sh.lH]
   simp[execOp,ho,hx,hi,pJ _ _ g1 g2]
  ·exact hk.elim
 ·exact hk.elim
theorem W3{t e:TypeId}{x i:Operand}{x' i':X}{s:Sh}(ho:o.op= .indexAddr t x i)(hu:P.underlying t=some (.slice e))(hsh:sh P e=some s)(h1:cX x=some x')(h2:cX i=some i')
  (h:dW C env rows (.nk s x' i') k):bO P n o ρ T env rows a w k:=by
 obtain⟨d,he,hk⟩:=au h
 obtain⟨d2,w9,hk⟩:=au hk
 have hv:=bJ h1 he hs hG
 split at hk
 ·rename_i kd j
  have hi:=fb h2 w9 hs hG
  have pJ:∀b o' len cap:Nat,0<=j->j<(len:Int)->(Instr.indexAt t (.slice (some ⟨b,o',none⟩) len cap) (.int kd j)).run P w= .ok (.pointer (some ⟨b,o'+j.toNat*s.size,none⟩)) w:=by
   intro b o' len cap g1 g2
   simp[Instr.indexAt,asIntOf,run_underlying hu,Instr.sureAddr,g1,g2,run_sizeOf hsh,nv]
  split at hk
  ·rename_i t' r p off len ex hq
   obtain⟨rfl,g1,g2,hk⟩:=hk
   have hl:LR ρ w T _ _:=hv
   generalize hx:a.eval x=v at hl
   cases hl with
   |Bw=>simp at g2;omega
   | sl _ _ _ _ _ _ L cap hL c1 c2 c3 =>
    have key:L.at (p++[off+j.toNat])=some t'/\L.off (p++[off+j.toNat])=L.off p+off*t'.size+j.toNat*t'.size:=by
     rcases c3 with⟨rfl,rfl,hm,_⟩|⟨m,c3,c4⟩
     ·refine⟨by simp[Loc.at,Sh.at,hm],?_⟩
      simp[Loc.off,Sh.off,adK]
     ·obtain⟨g3,g4⟩:=L.yB c3 (off+j.toNat)
      refine⟨g3.trans (by simp[Sh.sub];omega),?_⟩
      rw[g4]
      simp[Sh.lH,adK]
      omega
    refine .here hs hk (VR.bH (.ptr _ _ _ L hL key.1)) ?_
    rw[key.2]
    simp[execOp,ho,hx,hi,pJ _ _ _ _ g1 g2]
  ·rename_i t' l ex hq
   obtain⟨rfl,g1,g2,hk⟩:=hk
   obtain⟨d3,M4,hk⟩:=au hk
   have hl:LR ρ w T _ _:=hv
   generalize hx:a.eval x=v at hl
   cases hl with
   |qj=>simp at g2;omega
   | cI _ _ _ b o' cap f c1 hb c2 c3 c4 c5 =>
    obtain⟨cs,c6,c7⟩:∃cs,bd (LR ρ w T) (aA l) cs/\At w b o' cs:=⟨_,BG (d:=default) c2 c3⟩
    rw[fW M4]at c6
    have c8:=(c6.drop (aA (l.take j.toNat)).length).take d3.flat.length
    rw[abe,aa0]at c8
    have oG:(aA (l.take j.toNat)).length=j.toNat*t'.size:=by
     rw[bj (λd hd=>c1 d (aa1 hd)),aau,abV (aey (dA M4))]
    refine .here hs hk (VR.bH (.AH (c1 _ (bN M4)) hb c8 ((c7.drop _).take _))) ?_
    rw[oG]
    simp[execOp,ho,hx,hi,pJ _ _ _ _ g1 g2]
  ·exact hk.elim
 ·exact hk.elim
theorem ZY{t e:TypeId}{x i:Operand}{x' i':X}{s:Sh}{m:Nat}(ho:o.op= .index t x i)(hu:P.underlying t=some (.array m e))(hsh:sh P e=some s)(hlf:mC P e s=true)(h1:cX x=some x')(h2:cX i=some i')
  (h:dW C env rows (.index m s x' i') k):bO P n o ρ T env rows a w k:=by
 obtain⟨d,he,hk⟩:=au h
 have hv:=bJ h1 he hs hG
 split at hk
 ·rename_i t' l
  obtain⟨d2,w9,hk⟩:=au hk
  split at hk
  ·rename_i kd j
   have hi:=fb h2 w9 hs hG
   obtain⟨rfl,g1,g2,hk⟩:=hk
   obtain⟨d3,M4,hk⟩:=au hk
   obtain⟨cs,hx,q1,q2⟩:=hv
   have g5:(Sh.ar m s).sub j.toNat=some s:=by simp[Sh.sub];omega
   obtain⟨d',j9,n9,ZX⟩:=q1.part rfl g5
   rw[M4]at j9
   cases j9
   rw[fW M4]at q2
   have g3:=(q2.drop (aA (List.take j.toNat l)).length).take d3.flat.length
   rw[abe,aa0,ZX]at g3
   refine .here hs hk (VR.gX n9 g3) ?_
   have hlen:=g3.len
   have:=HB (w:=w) (o':=j.toNat*s.size) (ms:=(cs.toList.drop (Sh.lH (.ar m s) j.toNat)).take d3.flat.length) hsh hlf (by rw[<-hlen,n9.len]) (qQ n9 g3) (by rw[<-hlen];rfl)
   simp[execOp,ho,hx,hi,Instr.index,asIntOf,run_underlying hu,g1,g2,run_sizeOf hsh,this]
  ·exact hk.elim
 ·exact hk.elim
theorem W4{t:TypeId}{x i:Operand}{x' i':X}(ho:o.op= .index t x i)(hu:P.underlying t=some .string)(h1:cX x=some x')(h2:cX i=some i')
  (h:dW C env rows (.uZ x' i') k):bO P n o ρ T env rows a w k:=by
 obtain⟨d,he,hk⟩:=au h
 split at hk
 ·rename_i b
  obtain⟨d2,w9,hk⟩:=au hk
  split at hk
  ·rename_i kd j
   have hx:=fb h1 he hs hG
   have hi:=fb h2 w9 hs hG
   obtain⟨g1,hk⟩:=hk
   obtain⟨c,hc,hk⟩:=au hk
   refine .here hs hk (VR.raw rfl) ?_
   have eX:b[j.toNat]?=some c:=by
    have hlt:=dA hc
    have ZZ:j.toNat<b.size:=by simpa using hlt
    rw[aap hlt]at hc
    simp at hc
    rw[getElem?_pos b j.toNat ZZ]
    simp[<-hc]
    rfl
   simp[execOp,ho,hx,hi,Instr.index,asIntOf,run_underlying hu,g1,eX]
  ·exact hk.elim
 ·exact hk.elim
end ops
end Go.Am

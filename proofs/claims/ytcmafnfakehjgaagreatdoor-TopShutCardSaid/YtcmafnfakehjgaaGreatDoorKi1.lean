import Derived.Calls
import Derived.Laws.CopyRow
import Derived.Laws.AppendOwn
import Derived.Laws.Rows
import Derived.Laws.Entries
import Derived.Laws.Cells
import Derived.KernelRfl
set_option linter.unusedSimpArgs false
set_option linter.unusedVariables false
namespace Go.Am
set_option linter.defProp false
abbrev aan:=@Bool.and_eq_true
abbrev aao:=@List.getElem?_eq_getElem
abbrev aap:=@List.length_append
abbrev aaq:=@decide_eq_true_eq
abbrev aar:=@List.take_of_length_le
abbrev aas:=@eq_true
abbrev aat:=@List.length_drop
abbrev aau:=@List.length_take
abbrev aav:=@Eq.trans
abbrev aaw:=@eq_false
abbrev aax:=@Nat.le_refl
abbrev aay:=@List.getD_eq_getElem?_getD
abbrev aaz:=@Int.toNat_natCast
abbrev aaA:=@List.length_map
abbrev aaB:=@List.append_assoc
abbrev aaC:=@if_neg
abbrev aaD:=@decide_true
abbrev aaE:=@decide_false
abbrev aaF:=@List.eq_nil_of_length_eq_zero
abbrev aaG:=@List.mem_of_getElem?
abbrev aaH:=@Int.eq_ofNat_of_zero_le
abbrev aaI:=@List.mem_cons
abbrev aaJ:=@if_pos
abbrev aaK:=@cond_false
abbrev aaL:=@BitVec.eq_of_toNat_eq
abbrev aaM:=@List.getElem?_append_left
abbrev aaN:=@List.length_replicate
abbrev aaO:=@List.getElem?_append_right
abbrev aaP:=@List.length_cons
abbrev aaQ:=@List.mem_append
abbrev aaR:=@Array.getElem?_eq_some_iff
abbrev aaS:=@List.append_nil
abbrev aaT:=@Nat.lt_or_ge
abbrev aaU:=@cond_true
abbrev aaV:=@List.length_nil
abbrev aaW:=@List.take_left
abbrev aaX:=@List.take_succ_eq_append_getElem
abbrev aaY:=@List.mem_of_mem_take
abbrev aaZ:=@List.nil_append
abbrev aa0:=@List.mem_iff_getElem
abbrev aa1:=@List.not_mem_nil
abbrev aa2:=@BitVec.toNat_ofNat
abbrev aa3:=@Nat.le_trans
abbrev aa4:=@List.all_eq_true
abbrev aa5:=@List.getElem?_drop
abbrev aa6:=@Classical.byContradiction
abbrev aa7:=@decide_eq_false
abbrev aa8:=@List.take_length
abbrev aa9:=@List.drop_left
abbrev aba:=@List.mem_singleton
abbrev abb:=@BitVec.ofInt_natCast
abbrev abc:=@Int.natCast_nonneg
abbrev abd:=@Option.some.inj
abbrev abe:=@List.length_set
abbrev abf:=@true_and
abbrev abg:=@Option.bind_some
abbrev abh:=@Ne.symm
abbrev abi:=@List.getElem?_take
abbrev abj:=@List.take_append_drop
abbrev abk:=@Nat.zero_add
abbrev abl:=@List.getElem?_map
abbrev abm:=@List.map_cons
abbrev abn:=@List.getElem?_take_of_lt
abbrev abo:=@Nat.mod_eq_of_lt
abbrev abp:=@List.drop_eq_getElem_cons
abbrev abq:=@Nat.shiftRight_eq_div_pow
abbrev abr:=@List.drop_drop
abbrev abt:=@List.eq_of_mem_replicate
abbrev abu:=@List.cons_append
abbrev abv:=@List.getElem?_eq_none
abbrev abw:=@Bool.not_true
abbrev abx:=@BitVec.le_def
abbrev aby:=@Int.cast_ofNat_Int
abbrev abz:=@List.drop_zero
abbrev abA:=@decide_eq_true
abbrev abB:=@Nat.mul_le_mul_right
abbrev abC:=@BitVec.toNat_umod
abbrev abD:=@Nat.ble_eq
abbrev abE:=@Nat.le_of_ble_eq_true
abbrev abF:=@BitVec.toNat_setWidth
abbrev abG:=@List.getElem?_cons_zero
abbrev abH:=@Array.getElem?_eq_getElem
abbrev abI:=@Nat.min_eq_left
abbrev abJ:=@List.getElem_mem
abbrev abK:=@Nat.pow_le_pow_right
abbrev abL:=@List.range_succ
abbrev abM:=@Bool.or_eq_true
abbrev abN:=@Int.tmod_eq_emod_of_nonneg
abbrev abO:=@Nat.add_assoc
abbrev abP:=@if_false
abbrev abQ:=@List.mem_of_mem_drop
abbrev abR:=@if_true
abbrev abS:=@List.cons.injEq
abbrev abT:=@Bool.not_false
abbrev abU:=@BitVec.toNat_ushiftRight
abbrev abV:=@Array.length_toList
abbrev abW:=@List.flatten_append
abbrev abX:=@List.ext_getElem?
abbrev abY:=@Option.some.injEq
abbrev abZ:=@List.flatten_cons
abbrev ab0:=@decide_eq_false_iff_not
abbrev ab1:=@List.getElem?_cons_succ
abbrev ab2:=@Nat.lt_of_lt_of_le
abbrev ab3:=@List.mem_cons_of_mem
abbrev ab4:=@List.mem_append_left
abbrev ab5:=@Int.fdiv_eq_ediv_of_nonneg
abbrev ab6:=@Int.tdiv_eq_ediv_of_nonneg
abbrev ab7:=@List.getElem?_set_ne
abbrev ab8:=@Bool.true_and
abbrev ab9:=@List.any_eq_true
abbrev aca:=@Int.natCast_zero
abbrev acb:=@List.flatten_nil
abbrev acd:=@or_false
abbrev ace:=@Array.ext'
abbrev acf:=@List.take_append_of_le_length
abbrev acg:=@List.set_append_right
abbrev ach:=@congrArg
abbrev aci:=@BitVec.lt_def
abbrev acj:=@Nat.sub_self
abbrev ack:=@beq_iff_eq
abbrev acm:=@Nat.zero_le
abbrev acn:=@Bool.false_or
abbrev aco:=@List.take_take
abbrev acp:=@List.drop_eq_nil_of_le
abbrev acq:=@BitVec.toNat_shiftLeft
abbrev acr:=@List.map_set
abbrev acs:=@of_decide_eq_true
abbrev acu:=@Option.map_some
abbrev acv:=@Int.natCast_one
abbrev acw:=@List.replicate_append_replicate
abbrev acx:=@List.length_filter_le
abbrev acy:=@beq_self_eq_true
abbrev acz:=@BitVec.toNat_ofInt
abbrev acA:=@BitVec.toNat_add
abbrev acB:=@Int.natCast_emod
abbrev acC:=@Nat.shiftLeft_eq
abbrev acE:=@Nat.succ_mul
abbrev acF:=@List.take_zero
abbrev acG:=@Bool.or_eq_false_iff
abbrev acH:=@Bool.not_eq_true'
abbrev acI:=@List.length_take_le
abbrev acJ:=@List.drop_of_length_le
abbrev acK:=@Array.getElem?_eq_none
abbrev acL:=@List.mem_map
abbrev acM:=@Bool.and_self
abbrev acN:=@Nat.div_eq_of_lt
abbrev acO:=@List.mem_filterMap
abbrev acP:=@Int.ofNat_zero
abbrev acQ:=@Bool.false_and
abbrev acR:=@List.getElem?_eq_some_iff
abbrev acS:=@List.take_left'
abbrev acT:=@List.getElem?_set
abbrev acU:=@Bool.and_eq_true_iff
abbrev acV:=@Nat.sub_zero
abbrev acW:=@and_true
abbrev acX:=@Nat.div_lt_of_lt_mul
abbrev acY:=@List.length_range
abbrev acZ:=@not_true_eq_false
abbrev ac0:=@Nat.mod_lt
abbrev ac1:=@List.any_cons
abbrev ac2:=@Array.getElem?_push
abbrev ac3:=@List.replicate_succ
abbrev ac4:=@List.map_congr_left
abbrev ac5:=@List.filter_cons
abbrev ac6:=@Nat.min_eq_right
abbrev ac7:=@List.ext_getElem
abbrev ac8:=@List.getElem?_replicate
abbrev ac9:=@forall_eq_or_imp
abbrev ada:=@List.drop_append_of_le_length
abbrev adb:=@Nat.add_zero
abbrev ade:=@Bool.false_eq_true
abbrev adf:=@forall_const
abbrev adg:=@Nat.mul_comm
abbrev adh:=@List.map_inj_right
abbrev adi:=@List.map_append
abbrev adj:=@Int.natCast_mul
abbrev adk:=@Array.getElem?_toList
abbrev adl:=@List.getElem?_zipWith
abbrev adm:=@List.size_toArray
abbrev adn:=@Int.emod_eq_of_lt
abbrev ado:=@Bool.and_false
abbrev adp:=@Prod.ext
abbrev adq:=@List.mem_range
abbrev ads:=@Int.natCast_ediv
abbrev adt:=@Option.getD_some
abbrev adu:=@List.getElem_map
abbrev adv:=@List.set_set
abbrev adw:=@List.mem_or_eq_of_mem_set
abbrev adx:=@List.getElem?_range
abbrev ady:=@Bool.or_eq_true_iff
abbrev adz:=@Bool.and_true
abbrev adA:=@BitVec.toNat_or
abbrev adB:=@Nat.div_le_self
abbrev adC:=@List.drop_left'
abbrev adD:=@BitVec.ofNat_toNat
abbrev adE:=@BitVec.setWidth_eq
abbrev adF:=@Nat.add_mul
abbrev adG:=@Nat.lt_trichotomy
abbrev adH:=@Nat.le_total
abbrev adI:=@Bool.true_or
abbrev adJ:=@List.map_nil
abbrev adK:=@BitVec.toNat_sub_of_le
abbrev adL:=@Option.map_eq_some_iff
abbrev adM:=@Array.getElem?_modify
abbrev adN:=@List.mem_append_right
abbrev adO:=@List.set_getElem_self
abbrev adP:=@List.take_append
abbrev adQ:=@Nat.blt_eq
abbrev adR:=@BitVec.toNat_sub
abbrev adS:=@Nat.and_two_pow_sub_one_eq_mod
abbrev adT:=@List.getElem?_append
abbrev adU:=@List.foldl_cons
abbrev adV:=@List.dropLast_concat_getLast
abbrev adW:=@List.flatMap_append
abbrev adX:=@List.drop_replicate
abbrev adY:=@List.take_replicate
abbrev adZ:=@Array.getD_eq_getD_getElem?
abbrev ad0:=@eq_self
abbrev ad1:=@List.drop_length_add_append
abbrev ad2:=@Nat.pow_succ
abbrev ad3:=@List.drop_take
abbrev ad4:=@List.mem_cons_self
abbrev ad5:=@not_or
abbrev ad6:=@List.map_replicate
abbrev ad7:=@Array.mapM_eq_mapM_toList
abbrev ad8:=@List.mem_of_find?_eq_some
abbrev ad9:=@not_false_eq_true
abbrev aea:=@Array.toList_push
abbrev aeb:=@Int.mul_emod_left
abbrev aec:=@BitVec.toNat_udiv
abbrev aed:=@List.flatMap_cons
abbrev aee:=@Option.isSome_iff_exists
abbrev aef:=@List.take_add
abbrev aeg:=@decide_eq_decide
abbrev aeh:=@Nat.mul_mod_left
abbrev aei:=@List.drop_append
abbrev aej:=@BitVec.toNat_and
abbrev aek:=@Nat.add_sub_cancel_left
abbrev ael:=@forall_eq
abbrev aem:=@Nat.add_comm
abbrev aen:=@Nat.le_of_lt
abbrev aeo:=@Int.not_lt
abbrev aep:=@Classical.em
abbrev aeq:=@Nat.le_of_eq
abbrev aer:=@List.find?_some
abbrev aes:=@Int.natCast_pow
abbrev aet:=@Nat.two_pow_pos
abbrev aeu:=@Nat.pow_add
abbrev aev:=@Int.ofNat_tdiv
abbrev aew:=@true_or
abbrev aex:=@Nat.mul_assoc
abbrev aey:=@List.take_nil
inductive Sc where
 |int (k:IntKind)
 |bool
 |str
 deriving DecidableEq,Repr,Inhabited
def oD:Value->Sc->Bool
 | .int k _,.int k'=>k==k'
 | .bool _,.bool=>true
 | .string _,.str=>true
 | _,_=>false
abbrev u5:Sc:= .int .u8
inductive Sh where
 |leaf (k:Sc)
 |ref
 |nil
 |cons (a b:Sh)
 |ar (n:Nat) (s:Sh)
 deriving DecidableEq,Repr,Inhabited
abbrev L8:Sh:= .leaf (.int .u8)
abbrev L16:Sh:= .leaf (.int .u16)
abbrev cN:Sh:= .leaf (.int .u32)
abbrev L64:Sh:= .leaf (.int .u64)
abbrev LI:Sh:= .leaf (.int .i64)
abbrev LB:Sh:= .leaf .bool
abbrev LS:Sh:= .leaf .str
inductive D where
 |raw (v:Value)
 |ptr (s:Sh) (r:Nat) (p:List Nat)
 |sl (s:Sh) (r:Nat) (p:List Nat) (off len:Nat) (ex:Bool)
 |nX (n:Nat) (s:Sh) (r:Nat) (p:List Nat) (off:Nat)
 |dh (s:Sh) (l:List D) (ex:Bool)
 |cb (d:D)
 |agg (s:Sh) (l:List D)
 |cd (l:List D)
 |mp (r:Nat)
 |om (s:Sh) (l:List D)
 |Fx (f:Nat) (s:Sh) (r:Nat) (p:List Nat)
 deriving Inhabited
mutual
def D.flat:D->List D
 | .agg _ l=>ak l
 | .raw v=>[.raw v]
 | .ptr s r p=>[.ptr s r p]
 | .sl s r p o n e=>[.sl s r p o n e]
 | .nX n s r p o=>[.nX n s r p o]
 | .dh s l e=>[.dh s l e]
 | .cb d=>[.cb d]
 | .cd l=>[.cd l]
 | .mp r=>[.mp r]
 | .om s l=>[.om s l]
 | .Fx f s r p=>[.Fx f s r p]
def ak:List D->List D
 |[]=>[]
 |d::l=>d.flat++ak l
end
def D.eZ:D->Bool
 | .agg _ _| .cd _=>false
 | .raw v=>v.oneCell'
 | _=>true
def Sh.size:Sh->Nat
 | .leaf _| .ref=>1
 | .nil=>0
 | .cons a b=>a.size+b.size
 | .ar n s=>n*s.size
def Sh.isAgg:Sh->Bool
 | .nil=>true
 | .cons _ b=>b.isAgg
 | .ar _ _=>true
 | _=>false
def Sh.count:Sh->Nat
 | .cons _ b=>b.count+1
 | .ar n _=>n
 | _=>0
def Sh.sub:Sh->Nat->Option Sh
 | .cons a _,0=>some a
 | .cons _ b,i+1=>b.sub i
 | .ar n s,i=>if i<n then some s else none
 | _,_=>none
def Sh.lP:Sh->Nat->Nat
 | .cons _ _,0=>0
 | .cons a b,i+1=>a.size+b.lP i
 | .ar _ s,i=>i*s.size
 | _,_=>0
def Sh.at:Sh->List Nat->Option Sh
 |s,[]=>some s
 |s,i::p=>match s.sub i with
  |some e=>e.at p
  |none=>none
def Sh.off:Sh->List Nat->Nat
 | _,[]=>0
 |s,i::p=>s.lP i+(match s.sub i with|some e=>e.off p|none=>0)
inductive aL:Sh->D->Prop where
 |leaf (k:Sc) (v:Value):oD v k=true->aL (.leaf k) (.raw v)
 |ref (d:D):d.eZ=true->aL .ref d
 |agg (s:Sh) (l:List D):s.isAgg=true->l.length=s.count->(∀i e d,s.sub i=some e->l[i]?=some d->aL e d)->aL s (.agg s l)
def D.fits:D->Sh->Bool
 | .raw v,.leaf k=>oD v k
 | .agg s _,t=>s==t
 | .cd _,_=>false
 |d,.ref=>d.eZ
 | _,_=>false
def D.get:D->List Nat->Option D
 |d,[]=>some d
 | .agg _ l,i::p=>match l[i]? with
  |some d=>d.get p
  |none=>none
 | _,_::_=>none
def D.set:D->List Nat->D->Option D
 | _,[],x=>some x
 | .agg s l, i :: p, x => match l[i]? with
  |some d=>match d.set p x with
   |some d'=>some (.agg s (l.set i d'))
   |none=>none
  |none=>none
 | _,_::_,_=>none
structure Row where
 sh:Sh
 els:List D
 deriving Inhabited
def cM(els:List D):List Nat->Option D
 |[]=>none
 |i::p=>match els[i]? with
  |some d=>d.get p
  |none=>none
def mL(els:List D):List Nat->D->Option (List D)
 |[],_=>none
 | i :: p, x => match els[i]? with
  |some d=>match d.set p x with
   |some d'=>some (els.set i d')
   |none=>none
  |none=>none
abbrev Rows:=List (Option Row)
abbrev Env:=List (Nat×D)
def look:Env->Nat->Option D
 |[],_=>none
 |(k,d)::e,t=>bif k==t then some d else look e t
def put(dst:Option Nat)(d:D)(env:Env):Env:=
 match dst with
 |some t=>(t,d)::env
 |none=>env
inductive X where
 |tmp (t:Nat)
 |const (v:Value)
 |aZ (g:Nat)
 deriving Inhabited
inductive nY where
 |mv (x:X)
 |pick (c a b:X)
 |bin (op:BinOp) (x y:X)
 |eqa (s:Sh) (neg:Bool) (x y:X)
 |beq (neg:Bool) (x y:X)
 |un (op:UnOp) (x:X)
 |conv (k:IntKind) (x:X)
 |Lj (x:X)
 |alloc (s:Sh) (z:D)
 |box (s:Sh) (x:X)
 |build (s:Sh) (z:List D) (parts:List (Nat×X))
 |fw (s:Sh) (n:Nat) (z:D) (parts:List (Nat×X))
 |load (s:Sh) (x:X)
 |store (s:Sh) (x v:X)
 |qA (x:X)
 |fx (s:Sh) (x:X) (i:Nat)
 |field (s:Sh) (x:X) (i:Nat)
 |xf (n:Nat) (s:Sh) (x i:X)
 |js (s:Sh) (x i:X)
 |index (n:Nat) (s:Sh) (x i:X)
 |vk (x i:X)
 |Ay (n:Nat) (s:Sh) (x:X) (lo hi mx:Option X)
 |slice (s:Sh) (x:X) (lo hi mx:Option X)
 |DZ (x:X) (lo hi:Option X)
 |mks (s:Sh) (bytes:Nat) (z:D) (len cap:X)
 |ext (x:X) (i:Nat)
 |len (x:X)
 |Az (x:X)
 |append (s:Sh) (bytes:Nat) (a b:X)
 |vl (s:Sh) (bytes:Nat) (z:D) (a n:X)
 |copy (s:Sh) (a b:X)
 |xg (mx:Bool) (l:List X)
 |ZS (x:X)
 |s2b (x:X)
 |call (f:FuncId) (args:List X)
 |qW (fs:List Nat) (x:X) (args:List X)
 |fail
 |Br (neg:Bool) (x y:X)
 |O9 (neg:Bool) (x y:X)
 |s2a (n:Nat) (s:Sh) (x:X)
 |Pa (s:Sh) (x:X)
 |mnz (x:X)
 |clr (s:Sh) (z:D) (x:X)
 |Sk (x y:X)
 |mkf (f:Nat) (x:X)
 |Zt (ks vs:Sh)
 |je (ks vs:Sh) (m x v:X)
 |Gm (ks vs:Sh) (ok:Bool) (z:D) (m x:X)
 deriving Inhabited
structure aS where
 dst:Option Nat
 op:nY
 guard:Option (Nat×Bool):=none
 deriving Inhabited
inductive aj where
 |skip
 |region (draw:Bool) (ops:List aS)
 |draw (pre dl:List aS) (tail:List (aS×List aS))
 |U1 (pre tail:List aS)
 |U2 (pre dl:List aS) (tail:List (aS×List aS×List aS))
 |drawn (l:List (aS×List Nat))
 |seq (a b:aj)
 |cond (c:X) (a b:aj)
 |block (id:Nat) (a:aj)
 |loop (a:aj)
 |exit (id:Nat)
 |ret
 deriving Inhabited
inductive gF where
 |normal
 |exit (id:Nat)
 |ret
 deriving DecidableEq,Inhabited
abbrev lQ:=List D->Rows->(D->Rows->Prop)->Prop
abbrev Fn:=List D->Rows->Option (D×Rows)
abbrev QFun:=List D->Rows->Option (D×Rows)
structure aU where
 aZ:Nat->Option D
 fn:FuncId->Option Fn
 cV:FuncId->Option lQ
 fnq:FuncId->Option QFun
def aU.quiet(C:aU):aU:=⟨C.aZ,C.fn,λ_=>none,C.fnq⟩
def bj{α:Type}(x:Option α)(k:α->Prop):Prop:=
 match x with
 |some a=>k a
 |none=>False
def qrun(q:QFun):lQ:=λds rows K=>bj (q ds rows) λr=>K r.1 (rows++r.2)
def aU.Pb(C:aU)(f:FuncId):Option lQ:=match C.cV f with
 |some A=>some A
 |none=>(C.fnq f).map qrun
def ev(C:aU)(env:Env):X->Option D
 | .tmp t=>look env t
 | .const v=>some (.raw v)
 | .aZ g=>match C.aZ g with
  |some d=>some (.cb d)
  |none=>none
def OZ(C:aU)(env:Env):List X->Option (List D)
 |[]=>some []
 | x :: l => match ev C env x with
  |some d=>match OZ C env l with
   |some ds=>some (d::ds)
   |none=>none
  |none=>none
def Ks(C:aU)(env:Env):Option X->Option (Option Int)
 |none=>some none
 |some x=>match ev C env x with
  |some (.raw (.int _ n))=>some (some n)
  | _=>none
def live(rows:Rows)(r:Nat):Option Row:=
 match rows[r]? with
 |some (some row)=>some row
 | _=>none
def elems(rows:Rows):D->Option (List D)
 | .raw (.slice none 0 0)=>some []
 | .dh _ l _=>some l
 | .sl _ r [] off len _=>match live rows r with
  |some row=>some ((row.els.drop off).take len)
  |none=>none
 | .sl _ r (i :: p) off len _ => match live rows r with
  |some row=>match cM row.els (i::p)with
   |some (.agg _ l)=>some ((l.drop off).take len)
   | _=>none
  |none=>none
 | _=>none
def dW:D->Option Nat
 | .raw (.slice none 0 0)=>some 0
 | .dh _ l _=>some l.length
 | .sl _ _ _ _ len _=>some len
 | _=>none
def cm(op:BinOp)(x y:Value)(k:D->Prop):Prop:=
 match op,x,y with
 | .shl,.int k1 a,.int _ b=>0<=b/\k (.raw (.int k1 (k1.wrap (a*2^(min b.toNat k1.bits)))))
 | .shr,.int k1 a,.int _ b=>0<=b/\k (.raw (.int k1 (a.fdiv (2^(min b.toNat k1.bits)))))
 | .add,.int k1 a,.int k2 b=>k1=k2/\k (.raw (.int k1 (k1.wrap (a+b))))
 | .sub,.int k1 a,.int k2 b=>k1=k2/\k (.raw (.int k1 (k1.wrap (a-b))))
 | .mul,.int k1 a,.int k2 b=>k1=k2/\k (.raw (.int k1 (k1.wrap (a*b))))
 | .quo,.int k1 a,.int k2 b=>k1=k2/\b≠0/\k (.raw (.int k1 (k1.wrap (a.tdiv b))))
 | .rem,.int k1 a,.int k2 b=>k1=k2/\b≠0/\k (.raw (.int k1 (a.tmod b)))
 | .and,.int k1 a,.int k2 b=>k1=k2/\k (.raw (.int k1 (k1.wrap (BitVec.ofInt k1.bits a&&&BitVec.ofInt k1.bits b).toNat)))
 | .or,.int k1 a,.int k2 b=>k1=k2/\k (.raw (.int k1 (k1.wrap (BitVec.ofInt k1.bits a|||BitVec.ofInt k1.bits b).toNat)))
 | .xor,.int k1 a,.int k2 b=>k1=k2/\k (.raw (.int k1 (k1.wrap (BitVec.ofInt k1.bits a^^^BitVec.ofInt k1.bits b).toNat)))
 | .andNot,.int k1 a,.int k2 b=>k1=k2/\k (.raw (.int k1 (k1.wrap (BitVec.ofInt k1.bits a&&&~~~BitVec.ofInt k1.bits b).toNat)))
 | .eql,.int k1 a,.int k2 b=>k1=k2/\k (.raw (.bool (decide (a=b))))
 | .neq,.int k1 a,.int k2 b=>k1=k2/\k (.raw (.bool (!decide (a=b))))
 | .lss,.int k1 a,.int k2 b=>k1=k2/\k (.raw (.bool (decide (a<b))))
 | .leq,.int k1 a,.int k2 b=>k1=k2/\k (.raw (.bool (decide (a<=b))))
 | .gtr,.int k1 a,.int k2 b=>k1=k2/\k (.raw (.bool (decide (b<a))))
 | .geq,.int k1 a,.int k2 b=>k1=k2/\k (.raw (.bool (decide (b<=a))))
 | .add,.string a,.string b=>((a.size+b.size:Nat):Int)<=IntKind.i64.max/\k (.raw (.string (a++b)))
 | .eql,.string a,.string b=>k (.raw (.bool (a.toList==b.toList)))
 | .neq,.string a,.string b=>k (.raw (.bool (!(a.toList==b.toList))))
 | _,_,_=>False
def lu:D->D->Option Bool
 | .raw (.int k a),.raw (.int k' b)=>if k=k' then some (decide (a=b))else none
 | .raw (.bool a),.raw (.bool b)=>some (a==b)
 | .raw (.string a),.raw (.string b)=>some (a.toList==b.toList)
 | _,_=>none
def aUn(op:UnOp)(x:Value)(k:D->Prop):Prop:=
 match op,x with
 | .neg,.int k1 n=>k (.raw (.int k1 (k1.wrap (0-n))))
 | .xor,.int k1 n=>k (.raw (.int k1 (k1.wrap (BitVec.ofInt k1.bits (if k1.signed then-1 else k1.max)^^^BitVec.ofInt k1.bits n).toNat)))
 | .not,.bool b=>k (.raw (.bool !b))
 | _,_=>False
def qi(C:aU)(env:Env)(sub:Nat->Option Sh):List (Nat×X)->List D->Option (List D)
 |[],z=>some z
 | (i, x) :: r, z => match ev C env x with
  |some d=>match sub i with
   |some e=>bif d.fits e then qi C env sub r (z.set i d)else none
   |none=>none
  |none=>none
def Sh.pure:Sh->Bool
 | .leaf _=>true
 | .ref=>false
 | .nil=>true
 | .cons a b=>a.pure&&b.pure
 | .ar _ s=>s.pure
mutual
def zJ:D->D->Option Bool
 | .raw a,y=>lu (.raw a) y
 | .agg _ l,.agg _ l'=>DW l l'
 | _,_=>none
def DW:List D->List D->Option Bool
 |[],[]=>some true
 | a :: l, b :: l' => match zJ a b with
  |some t=>match DW l l' with
   |some u=>some (t&&u)
   |none=>none
  |none=>none
 | _,_=>none
end
def eK{α β:Type}(f:α->Option β):List α->Option (List β)
 |[]=>some []
 | x :: l => match f x with
  |some y=>match eK f l with
   |some ys=>some (y::ys)
   |none=>none
  |none=>none
mutual
/-- does it bear an address of a row? -/
def bb:D->Bool
 | .raw _=>false
 | .ptr _ _ _=>true
 | .sl _ _ _ _ _ _=>true
 | .nX _ _ _ _ _=>true
 | .dh s l _=>bif s.pure then false else aX l
 | .cb d=>bb d
 | .agg s l=>bif s.pure then false else aX l
 | .cd l=>aX l
 | .mp _=>true
 | .om _ _=>false
 | .Fx _ _ _ _=>true
def aX:List D->Bool
 |[]=>false
 |d::l=>bb d||aX l
end
def view (rows : Rows) : Nat -> D -> Option D
 |0,_=>none
 | _+1,.raw v=>some (.raw v)
 | _+1,.om s l=>some (.om s l)
 | _+1,.cb d=>bif bb d then none else some (.cb d)
 | _+1,.mp r=>match live rows r with
  |some row=>some (.om row.sh row.els)
  |none=>none
 |n+1,.dh s l e=>bif s.pure then some (.dh s l e)else match eK (view rows n) l with
  |some l'=>some (.dh s l' e)
  |none=>none
 |n+1,.agg s l=>bif s.pure then some (.agg s l)else match eK (view rows n) l with
  |some l'=>some (.agg s l')
  |none=>none
 | n + 1, .ptr s r p => match live rows r with
  | some row => match cM row.els p with
   |some d=>bif s.pure then some (.cb d)else match view rows n d with
    |some d'=>some (.cb d')
    |none=>none
   |none=>none
  |none=>none
 | n + 1, .sl s r p off len e => match elems rows (.sl s r p off len e) with
  |some l=>bif !(l.length==len)then none else bif s.pure then some (.dh s l e)else match eK (view rows n) l with
   |some l'=>some (.dh s l' e)
   |none=>none
  |none=>none
 | _+1,_=>none
mutual
def shift(n:Nat):D->D
 | .raw v=> .raw v
 | .ptr s r p=> .ptr s (r+n) p
 | .sl s r p o l e=> .sl s (r+n) p o l e
 | .nX m s r p o=> .nX m s (r+n) p o
 | .dh s l e=>bif s.pure then .dh s l e else .dh s (bD n l) e
 | .cb d=> .cb (shift n d)
 | .agg s l=>bif s.pure then .agg s l else .agg s (bD n l)
 | .cd l=> .cd (bD n l)
 | .mp r=> .mp (r+n)
 | .om s l=> .om s l
 | .Fx f s r p=> .Fx f s (r+n) p
def bD(n:Nat):List D->List D
 |[]=>[]
 |d::l=>shift n d::bD n l
end
def af(n:Nat):Rows->Rows
 |[]=>[]
 |some ⟨s,els⟩::l=>some ⟨s,bif s.pure then els else bD n els⟩::af n l
 |none::l=>none::af n l
mutual
/-- does it bear no immutable list? -/
def cv:D->Bool
 | .raw _=>true
 | .ptr _ _ _=>true
 | .sl _ _ _ _ _ _=>true
 | .nX _ _ _ _ _=>true
 | .dh _ _ _=>false
 | .cb _=>false
 | .agg s l=>bif s.pure then true else lc l
 | .cd l=>lc l
 | .mp _=>true
 | .om _ _=>false
 | .Fx _ _ _ _=>true
def lc:List D->Bool
 |[]=>true
 |d::l=>cv d&&lc l
end
def bf:Rows->Bool
 |[]=>true
 |some ⟨s,_⟩::l=>s.pure&&bf l
 |none::l=>bf l
def kill(rows:Rows):D->Rows
 | .sl _ r _ _ _ _=>rows.set r none
 | _=>rows
def owned:D->Bool
 | .sl _ _ [] 0 _ _=>true
 | _=>false
def exact:D->Bool
 | .sl _ _ _ _ _ e=>e
 | .dh _ _ e=>e
 | _=>false
def isNil:D->Bool
 | .raw (.slice none 0 0)=>true
 | _=>false
def most:Nat:=1099511627776
def fg(s:Sh):D->Bool
 | .raw (.slice none 0 0)=>true
 | .dh t _ _=>s==t
 | .sl t _ _ _ _ _=>s==t
 | _=>false
def xh(rows:Rows)(s:Sh)(bytes:Nat)(a:D)(news:List D)(k:D->Rows->Prop):Prop:=
 bj (elems rows a) λold=>bj (dW a) λn=>fg s a=true/\old.length=n/\(n+news.length)*bytes<=most/\n+news.length<=most/\
  bif isNil a||owned a then
   k (.sl s rows.length [] 0 (n+news.length) false) (kill rows a++[some ⟨s,old++news⟩])
  else exact a=true/\(news.length=0->k a rows)/\
   (news.length≠0->k (.sl s rows.length [] 0 (n+news.length) false) (rows++[some ⟨s,old++news⟩]))
def aP{α:Type}(l:List α)(off:Nat)(xs:List α):List α:=l.take off++xs++l.drop (off+xs.length)
def oq(rows:Rows)(s:Sh)(a:D)(src:List D)(k:D->Rows->Prop):Prop:=
 match a with
 | .raw (.slice none 0 0)=>k (.raw (.int .i64 0)) rows
 | .sl t r [] off len _ => t = s /\ bj (live rows r) λrow => off + len <= row.els.length /\
   k (.raw (.int .i64 (min src.length len:Nat))) (rows.set r (some ⟨row.sh,aP row.els off (src.take (min src.length len))⟩))
 | .sl t r (i :: p) off len _ => t = s /\ bj (live rows r) λrow => bj (cM row.els (i :: p)) fun
  | .agg u l=>off+len<=l.length/\bj (mL row.els (i::p) (.agg u (aP l off (src.take (min src.length len))))) λels=>
   k (.raw (.int .i64 (min src.length len:Nat))) (rows.set r (some ⟨row.sh,els⟩))
  | _=>False
 | _=>False
def ofBytes(b:ByteArray):List D:=b.data.toList.map λx=> .raw (.int .u8 x.toNat)
def toByte:D->Option UInt8
 | .raw (.int .u8 n)=>some (UInt8.ofNat n.toNat)
 | _=>none
def pw(rows:Rows)(s:Sh):D->Option (List D)
 | .raw (.string b)=>bif s== .leaf u5 then some (ofBytes b)else none
 |d=>bif fg s d then elems rows d else none
def oE(mx:Bool)(k:IntKind):Int->List D->Option Int
 |n,[]=>some n
 |n,.raw (.int k' m)::l=>bif k==k' then oE mx k (bif mx then max n m else min n m) l else none
 | _,_=>none
def M2(f:Nat):List Nat->Bool
 |[]=>false
 |x::l=>bif x==f then true else M2 f l
def Bs(mx:Bool):List D->Option (IntKind×Int)
 | .raw (.int k n)::l=>match oE mx k n l with
  |some m=>some (k,m)
  |none=>none
 | _=>none
def nB(l h m:Int)(n:Nat)(k:Nat->Nat->Nat->Prop):Prop:=
 0<=l/\l<=h/\h<=m/\m<=(n:Int)/\k l.toNat h.toNat m.toNat
def qB(c:Option Int)(h c' len:Nat)(e:Bool):Bool:=
 match c with
 |some _=>h==c'
 |none=>e&&h==len
def WZ(c:Int)(b:ByteArray):Int:=match(List.range b.size).find? λi=>b[i]! ==c.toNat.toUInt8 with
 |some i=>i
 |none=>-1
def Bu:D->Value
 | .raw v=>v
 | _=>undef
def kv:D->Value
 | .raw v=>v
 | .agg _ l=> .agg ((ak l).map Bu).toArray
 | _=>undef
def dV(vs:Sh)(v:Value):D:=match vs with
 | .leaf _=> .raw v
 | _=> .agg vs (v.cells.toList.map .raw)
abbrev pX(ks vs:Sh):Sh:= .cons ks (.cons vs .nil)
def Hs:D->Option (D×Value)
 | .agg _ [k,e]=>some (k,kv e)
 | _=>none
def tT(k:D):List D->Option (Option Value)
 |[]=>some none
 | d :: l => match Hs d with
  |some (k',v)=>match zJ k k' with
   |some true=>some (some v)
   |some false=>tT k l
   |none=>none
  |none=>none
def Ht(rows:Rows)(s:Sh):D->Option (List D)
 | .mp r=>match live rows r with
  |some row=>bif row.sh==s then some row.els else none
  |none=>none
 | .om t l=>bif t==s then some l else none
 | _=>none
def Bv(C:aU)(rows:Rows)(f:FuncId)(ds:List D)(k:D->Rows->Prop):Prop:=
 match C.fn f with
 | some A => (aX ds = true -> bj (eK (view rows 9) ds) λds' => bj (A ds' []) λr => (cv r.1 && bf r.2) = true /\ k (shift rows.length r.1) (rows ++ af rows.length r.2)) /\
   (aX ds=false->bj (A ds []) λr=>k (shift rows.length r.1) (rows++af rows.length r.2))
 |none=>bj (C.Pb f) λA=>A ds rows k
def dX (C : aU) (env : Env) (rows : Rows) (o : nY) (k : D -> Rows -> Prop) : Prop :=
 match o with
 | .mv x=>bj (ev C env x) λd=>k d rows
 | .pick c a b=>bj (ev C env c) fun
  | .raw (.bool t)=>bj (bif t then ev C env a else ev C env b) λd=>k d rows
  | _=>False
 | .bin op x y => bj (ev C env x) fun
  | .raw a=>bj (ev C env y) fun
   | .raw b=>cm op a b λd=>k d rows
   | _=>False
  | _=>False
 | .eqa s neg x y => bj (ev C env x) fun
  | .agg s1 l=>bj (ev C env y) fun
   | .agg s2 l'=>s1=s/\s2=s/\bj (DW l l') λb=>k (.raw (.bool (bif neg then !b else b))) rows
   | _=>False
  | _=>False
 | .beq neg x y => bj (ev C env x) fun
  | .raw (.bool a)=>bj (ev C env y) fun
   | .raw (.bool b)=>k (.raw (.bool (bif neg then !(a==b)else a==b))) rows
   | _=>False
  | _=>False
 | .un op x=>bj (ev C env x) fun
  | .raw a=>aUn op a λd=>k d rows
  | _=>False
 | .conv kd x=>bj (ev C env x) fun
  | .raw (.int _ n)=>k (.raw (.int kd (kd.wrap n))) rows
  | _=>False
 | .Lj x=>bj (ev C env x) fun
  | .raw (.string b)=>k (.raw (.string b)) rows
  | _=>False
 | .alloc s z=>k (.ptr s rows.length [0]) (rows++[some ⟨s,[z]⟩])
 | .box s x=>bj (ev C env x) λd=>d.fits s=true/\k (.ptr s rows.length [0]) (rows++[some ⟨s,[d]⟩])
 | .build s z parts=>bj (qi C env s.sub parts z) λl=>k (.agg s l) rows
 | .fw s n z parts => bj (qi C env (Sh.ar n s).sub parts (List.replicate n z)) λl =>
   k (.sl s rows.length [] 0 n true) (rows++[some ⟨s,l⟩])
 | .load s x=>bj (ev C env x) fun
  | .ptr s' r p=>s'=s/\bj (live rows r) λrow=>bj (cM row.els p) λd=>k d rows
  | .cb d=>d.fits s=true/\k d rows
  | .nX m t r p off=>s= .ar m t/\bj (elems rows (.sl t r p off m false)) λl=>l.length=m/\k (.agg s l) rows
  | _=>False
 | .store s x v => bj (ev C env x) fun
  | .ptr s' r p => bj (ev C env v) λd => d.fits s = true /\ s' = s /\ bj (live rows r) λrow => bj (mL row.els p d) λels =>
    k (.cd []) (rows.set r (some ⟨row.sh,els⟩))
  | _=>False
 | .qA x=>bj (ev C env x) fun
  | .ptr s r p=>k (.ptr s r p) rows
  | .cb d=>k (.cb d) rows
  | _=>False
 | .fx s x i=>bj (ev C env x) fun
  | .ptr s' r p=>s'=s/\bj (s.sub i) λe=>k (.ptr e r (p++[i])) rows
  | .cb (.agg s' l)=>s'=s/\bj (l[i]?) λd=>k (.cb d) rows
  | _=>False
 | .field s x i=>bj (ev C env x) fun
  | .agg s' l=>s'=s/\bj (l[i]?) λd=>k d rows
  | _=>False
 | .xf m s x i => bj (ev C env x) λdx => bj (ev C env i) fun
  | .raw (.int _ n)=>match dx with
   | .ptr t r p=>t= .ar m s/\0<=n/\n<(m:Int)/\k (.ptr s r (p++[n.toNat])) rows
   | .cb (.agg t l)=>t= .ar m s/\0<=n/\n<(m:Int)/\bj (l[n.toNat]?) λd=>k (.cb d) rows
   | _=>False
  | _=>False
 | .js s x i => bj (ev C env x) λdx => bj (ev C env i) fun
  | .raw (.int _ n)=>match dx with
   | .sl t r p off len _=>t=s/\0<=n/\n<(len:Int)/\k (.ptr s r (p++[off+n.toNat])) rows
   | .dh t l _=>t=s/\0<=n/\n<(l.length:Int)/\bj (l[n.toNat]?) λd=>k (.cb d) rows
   | _=>False
  | _=>False
 | .index m s x i => bj (ev C env x) fun
  | .agg t l=>bj (ev C env i) fun
   | .raw (.int _ n)=>t= .ar m s/\0<=n/\n<(m:Int)/\bj (l[n.toNat]?) λd=>k d rows
   | _=>False
  | _=>False
 | .vk x i => bj (ev C env x) fun
  | .raw (.string b)=>bj (ev C env i) fun
   | .raw (.int _ n)=>0<=n/\bj (b.data.toList[n.toNat]?) λc=>k (.raw (.int .u8 c.toNat)) rows
   | _=>False
  | _=>False
 | .Ay m s x lo hi mx => bj (ev C env x) λdx => bj (Ks C env lo) λl => bj (Ks C env hi) λh => bj (Ks C env mx) λc =>
   nB (l.getD 0) (h.getD m) (c.getD m) m λl h c=>match dx with
    | .ptr t r p=>t= .ar m s/\k (.sl s r p l (h-l) (h==c)) rows
    | .cb (.agg t els)=>t= .ar m s/\k (.dh s ((els.drop l).take (h-l)) (h==c)) rows
    | _=>False
 | .slice s x lo hi mx => bj (ev C env x) λdx => bj (Ks C env lo) λl => bj (Ks C env hi) λh => bj (Ks C env mx) λc =>
   bj (dW dx) λn=>nB (l.getD 0) (h.getD n) (c.getD (h.getD n)) n λl h' c'=>match dx with
    | .raw (.slice none 0 0)=>k (.raw (.slice none 0 0)) rows
    | .sl t r p off len e=>t=s/\k (.sl s r p (off+l) (h'-l) (qB c h' c' len e)) rows
    | .dh t els e=>t=s/\k (.dh s ((els.drop l).take (h'-l)) (qB c h' c' els.length e)) rows
    | _=>False
 | .DZ x lo hi=>bj (ev C env x) fun
  | .raw (.string b)=>bj (Ks C env lo) λl=>bj (Ks C env hi) λh=>nB (l.getD 0) (h.getD b.size) b.size b.size λl h _=>k (.raw (.string (b.extract l h))) rows
  | _=>False
 | .mks s bytes z len cap => bj (ev C env len) fun
  | .raw (.int _ l) => bj (ev C env cap) fun
   | .raw (.int _ c) => 0 <= l /\ l <= c /\ c * bytes <= (most : Int) /\ c <= (most : Int) /\
     k (.sl s rows.length [] 0 l.toNat (decide (l=c))) (rows++[some ⟨s,List.replicate l.toNat z⟩])
   | _=>False
  | _=>False
 | .ext x i=>bj (ev C env x) fun
  | .cd l=>bj (l[i]?) λd=>k d rows
  | _=>False
 | .len x=>bj (ev C env x) λd=>bj (dW d) λn=>k (.raw (.int .i64 n)) rows
 | .Az x=>bj (ev C env x) fun
  | .raw (.string b)=>k (.raw (.int .i64 b.size)) rows
  | _=>False
 | .append s bytes a b=>bj (ev C env a) λda=>bj (ev C env b) λdb=>bj (pw rows s db) λnews=>(∀k,dW db=some k->news.length=k)/\xh rows s bytes da news k
 | .vl s bytes z a n=>bj (ev C env a) λda=>bj (ev C env n) fun
  | .raw (.int _ m)=>0<=m/\xh rows s bytes da (List.replicate m.toNat z) k
  | _=>False
 | .copy s a b=>bj (ev C env a) λda=>bj (ev C env b) λdb=>bj (pw rows s db) λsrc=>(∀k,dW db=some k->src.length=k)/\oq rows s da src k
 | .xg mx l=>bj (OZ C env l) λds=>bj (Bs mx ds) λ(kd,n)=>k (.raw (.int kd n)) rows
 | .ZS x=>bj (ev C env x) λd=>fg (.leaf u5) d=true/\bj (elems rows d) λl=>bj (dW d) λn=>l.length=n/\bj (eK toByte l) λbs=>k (.raw (.string ⟨bs.toArray⟩)) rows
 | .s2b x=>bj (ev C env x) fun
  | .raw (.string b)=>k (.dh (.leaf u5) (ofBytes b) false) rows
  | _=>False
 | .call f args=>bj (OZ C env args) λds=>Bv C rows f ds k
 | .qW fs x args=>bj (ev C env x) fun
  | .raw (.func (.func f) c1 c2)=>c1=#[]/\c2=#[]/\M2 f fs=true/\bj (OZ C env args) λds=>Bv C rows f ds k
  | .Fx f s r p=>M2 f fs=true/\bj (OZ C env args) λds=>Bv C rows f (ds++[.ptr s r p]) k
  | _=>False
 | .mkf f x=>bj (ev C env x) fun
  | .ptr s r p=>k (.Fx f s r p) rows
  | _=>False
 | .clr s z x=>bj (ev C env x) λd=>bj (dW d) λn=>oq rows s d (List.replicate n z) λ_ rows=>k (.cd []) rows
 | .Sk x y => bj (ev C env x) fun
  | .raw (.string b)=>bj (ev C env y) fun
   | .raw (.int .u8 c)=>k (.raw (.int .i64 (WZ c b))) rows
   | _=>False
  | _=>False
 | .fail=>False
 | .Br neg x y => bj (ev C env x) λdx => bj (ev C env y) fun
  | .raw (.pointer none)=>match dx with
   | .raw (.pointer none)=>k (.raw (.bool (!neg))) rows
   | .ptr _ _ _| .cb _=>k (.raw (.bool neg)) rows
   | _=>False
  | _=>False
 | .O9 neg x y => bj (ev C env x) λdx => bj (ev C env y) fun
  | .raw (.slice none 0 0)=>match dx with
   | .raw (.slice none 0 0)=>k (.raw (.bool (!neg))) rows
   | .dh _ l _=>(l.length=0->k (.raw (.bool (!neg))) rows)/\k (.raw (.bool neg)) rows
   | .sl _ _ _ _ len _=>(len=0->k (.raw (.bool (!neg))) rows)/\k (.raw (.bool neg)) rows
   | _=>False
  | _=>False
 | .s2a n s x=>bj (ev C env x) fun
  | .sl t r p off len _=>t=s/\n<=len/\0<n/\k (.nX n s r p off) rows
  | .dh t l _=>t=s/\n<=l.length/\0<n/\k (.cb (.agg (.ar n s) (l.take n))) rows
  | _=>False
 | .Pa s x=>bj (ev C env x) fun
  | .sl t r [] off len ex=>t=s/\0<len/\bj (live rows r) λrow=>off+len<=row.els.length/\k (.sl s r [] off len ex) rows
  | _=>False
 | .mnz x=>bj (ev C env x) fun
  | .raw (.int kd n)=>kd= .i64/\0<=n/\n<=(most:Int)/\∀l:List (BitVec 8),l.length=n.toNat->k (.sl L8 rows.length [] 0 n.toNat false) (rows++[some ⟨L8,l.map λb=> .raw (.int .u8 (b.toNat:Int))⟩])
  | _=>False
 | .Zt ks vs=>k (.mp rows.length) (rows++[some ⟨pX ks vs,[]⟩])
 | .je ks vs m x v=>bj (ev C env m) fun
  | .mp r => bj (ev C env x) λkd => bj (ev C env v) λvd => kd.fits ks = true /\ vd.fits vs = true /\ bj (live rows r) λrow => row.sh = pX ks vs /\
     k (.cd []) (rows.set r (some ⟨row.sh,.agg (pX ks vs) [kd,vd]::row.els⟩))
  | _=>False
 | .Gm ks vs ok z m x => bj (ev C env m) λdm => bj (ev C env x) λkd => kd.fits ks = true /\ bj (Ht rows (pX ks vs) dm) λels => bj (tT kd els) λo =>
   k (match o with
    |some v=>bif ok then .cd [dV vs v,.raw (.bool true)]else dV vs v
    |none=>bif ok then .cd [z,.raw (.bool false)]else z) rows
def dR(C:aU):List aS->Env->Rows->(Env->Rows->Prop)->Prop
 |[],env,rows,k=>k env rows
 |⟨dst,o,none⟩::os,env,rows,k=>dX C env rows o λd rows=>dR C os (put dst d env) rows k
 |⟨dst,o,some (g,want)⟩::os,env,rows,k=>bj (look env g) fun
  | .raw (.bool t)=>(t=want->dX C env rows o λd rows=>dR C os (put dst d env) rows k)/\(t=!want->dR C os (put dst (.cd []) env) rows k)
  | .cd []=>dR C os (put dst (.cd []) env) rows k
  | _=>False
def Bw(env:Env)(rows:Rows)(dst:Option Nat):D->Rows->Prop:=λd r=>(match dst with
 |some t=>look env t=some d
 |none=>False)/\r=rows
def tU(C:aU)(env:Env)(rows:Rows):List aS->Prop
 |[]=>True
 |y::l=>dX C env rows y.op (Bw env rows y.dst)/\tU C env rows l
def xj(C:aU):List (aS×List aS)->Env->Rows->(Env->Rows->Prop)->Prop
 |[],env,rows,K=>K env rows
 |(x,dl)::l,env,rows,K=>dR C [x] env rows λenv rows=>tU C env rows dl/\xj C l env rows K
def ZT(s:Sh)(els:List D)(rows:Rows):D->Prop
 | .ptr s' r p=>s'=s/\p=[0]/\live rows r=some ⟨s,els⟩
 | _=>False
def isSl(s:Sh)(n:Nat)(els:List D)(rows:Rows):D->Prop
 | .sl s' r p off len ex=>s'=s/\p=[]/\off=0/\len=n/\ex=true/\live rows r=some ⟨s,els⟩
 | _=>False
def jf(C:aU)(env:Env)(rows:Rows)(o:nY)(t:Nat):Prop:=match o with
 | .alloc s z=>bj (look env t) (ZT s [z] rows)
 | .fw s n z parts=>bj (qi C env (Sh.ar n s).sub parts (List.replicate n z)) λl=>bj (look env t) (isSl s n l rows)
 |o=>dX C env rows o (Bw env rows (some t))
def p7(C:aU)(env:Env)(rows:Rows):List aS->Prop
 |[]=>True
 |⟨dst,o,none⟩::l=>(match dst with
  |some t=>jf C env rows o t
  |none=>False)/\p7 C env rows l
 |⟨dst,o,some (g,want)⟩::l=>look env g=some (.raw (.bool want))/\(match dst with
  |some t=>jf C env rows o t
  |none=>False)/\p7 C env rows l
def zK(C:aU):List (aS×List aS×List aS)->Env->Rows->(Env->Rows->Prop)->Prop
 |[],env,rows,K=>K env rows
 |(x,fl,dl)::l,env,rows,K=>dR C [x] env rows λenv rows=>dR C.quiet fl env rows λenv rows=>p7 C.quiet env rows dl/\zK C l env rows K
def awN(C:aU)(l:List (aS×List Nat))(K:Env->Rows->Prop):Nat->List Nat->Env->Rows->Prop
 |0,L,env,rows=>(∀i,i<l.length->i∈L)->K env rows
 |f+1,L,env,rows=>((∀i,i<l.length->i∈L)->K env rows)/\∀i x ds,l[i]?=some (x,ds)->i∉L->(∀j∈ds,j∈L)->dR C [x] env rows λenv rows=>awN C l K f (i::L) env rows
def qX(body:(gF->Env->Rows->Prop)->Env->Rows->Prop)(Q:gF->Env->Rows->Prop):Nat->Env->Rows->Prop
 |0,_,_=>False
 |n+1,env,rows=>body (λe env rows=>match e with| .normal=>qX body Q n env rows|e=>Q e env rows) env rows
def aw(C:aU):aj->(gF->Env->Rows->Prop)->Env->Rows->Prop
 | .skip,Q,env,rows=>Q .normal env rows
 | .region dr ops,Q,env,rows=>dR (bif dr then C.quiet else C) ops env rows (Q .normal)
 | .draw pre dl tail,Q,env,rows=>dR C.quiet pre env rows λenv rows=>tU C.quiet env rows dl/\xj C.quiet tail env rows (Q .normal)
 | .U1 pre tail,Q,env,rows=>dR C.quiet pre env rows λenv rows=>dR C tail env rows (Q .normal)
 | .U2 pre dl tail,Q,env,rows=>dR C.quiet pre env rows λenv rows=>p7 C.quiet env rows dl/\zK C tail env rows (Q .normal)
 | .drawn l,Q,env,rows=>awN C l (Q .normal) l.length [] env rows
 | .seq a b,Q,env,rows=>aw C a (λe env rows=>match e with| .normal=>aw C b Q env rows|e=>Q e env rows) env rows
 | .cond c a b,Q,env,rows=>bj (ev C env c) fun
  | .raw (.bool t)=>(t=true->aw C a Q env rows)/\(t=false->aw C b Q env rows)
  | _=>False
 | .block id a,Q,env,rows=>aw C a (λe env rows=>match e with| .exit i=>(i=id->Q .normal env rows)/\(i≠id->Q (.exit i) env rows)|e=>Q e env rows) env rows
 | .loop a,Q,env,rows=>∃n,qX (aw C a) Q n env rows
 | .exit id,Q,env,rows=>Q (.exit id) env rows
 | .ret,Q,env,rows=>Q .ret env rows
end Go.Am
namespace Go.Am
def shL(f:TypeId->Option Sh):List Field->Option Sh
 |[]=>some .nil
 | x :: l => match f x.type with
  |some a=>match shL f l with
   |some b=>some (.cons a b)
   |none=>none
  |none=>none
def shT(P:Program):Nat->TypeId->Option Sh
 |0,_=>none
 | n + 1, t => match P.underlying t with
  |some (.struct fs)=>shL (shT P n) fs.toList
  |some (.array m e)=>match shT P n e with
   |some s=>some (.ar m s)
   |none=>none
  |some .bool=>some (.leaf .bool)
  |some (.int k)=>some (.leaf (.int k))
  |some .string=>some (.leaf .str)
  |some (.pointer _)|some (.slice _)|some (.map _ _)|some (.func _ _ _)|some (.interface _)=>some .ref
  | _=>none
def sh(P:Program)(t:TypeId):Option Sh:=
 match shT P 40 t with
 |some s=>match P.info? t with
  |some i=>bif i.size==s.size then some s else none
  |none=>none
 |none=>none
def zL(f:TypeId->Option D):List Field->Option (List D)
 |[]=>some []
 | x :: l => match f x.type with
  |some a=>match zL f l with
   |some b=>some (a::b)
   |none=>none
  |none=>none
def zT (P : Program) : Nat -> TypeId -> Option D
 |0,_=>none
 | n + 1, t => match P.underlying t with
  | some (.struct fs) => match shT P (n + 1) t with
   |some s=>match zL (zT P n) fs.toList with
    |some l=>some (.agg s l)
    |none=>none
   |none=>none
  | some (.array m e) => match shT P (n + 1) t with
   |some s=>match zT P n e with
    |some d=>some (.agg s (List.replicate m d))
    |none=>none
   |none=>none
  |some .bool=>some (.raw (.bool false))
  |some (.int k)=>some (.raw (.int k 0))
  |some .string=>some (.raw (.string .empty))
  |some (.pointer _)=>some (.raw (.pointer none))
  |some (.slice _)=>some (.raw (.slice none 0 0))
  |some (.map _ _)=>some (.raw (.map none))
  |some (.func _ _ _)=>some (.raw .nilFunc)
  |some (.interface _)=>some (.raw .nilIface)
  | _=>none
def ZU:Value->Value->Bool
 | .bool a,.bool b=>a==b
 | .int k a,.int k' b=>k==k'&&a==b
 | .string a,.string b=>a.data.toList==b.data.toList
 | .pointer none,.pointer none=>true
 | .slice none 0 0,.slice none 0 0=>true
 | .map none,.map none=>true
 | .nilFunc,.nilFunc=>true
 | .nilIface,.nilIface=>true
 | _,_=>false
def AA:List D->List Value->Bool
 |[],[]=>true
 | .raw v::l,u::r=>ZU v u&&AA l r
 | _,_=>false
def Sm:TypeDesc->Bool
 | .struct _| .array _ _=>true
 | _=>false
def D.isAgg:D->Bool
 | .agg _ _=>true
 | _=>false
def zero(P:Program)(t:TypeId):Option D:=
 match zT P 40 t with
 | some d => match P.info? t with
  |some i=>match i.zero with
   |some v=>bif AA d.flat v.cells.toList&&(match v with| .agg _=>d.isAgg| .tuple _=>false| _=>!d.isAgg)then some d else none
   |none=>none
  |none=>none
 |none=>none
def oF(P:Program)(t:TypeId):Nat:=match P.info? t with|some i=>i.bytes|none=>0
def cX:Operand->Option X
 | .tmp t=>some (.tmp t)
 | .const v=>bif v.oneCell' then some (.const v)else none
 | .global g=>some (.aZ g)
 | .func f=>some (.const (.func (.func f) #[] #[]))
def ZV:List Operand->Option (List X)
 |[]=>some []
 | x :: l => match cX x with
  |some a=>match ZV l with
   |some b=>some (a::b)
   |none=>none
  |none=>none
def Pc:Option Operand->Option (Option X)
 |none=>some none
 |some x=>match cX x with
  |some a=>some (some a)
  |none=>none
def p8:List (Nat×Operand)->Option (List (Nat×X))
 |[]=>some []
 | (i, x) :: l => match cX x with
  |some a=>match p8 l with
   |some b=>some ((i,a)::b)
   |none=>none
  |none=>none
def Hu(s:Sh):Nat->List Field->Bool
 | _,[]=>true
 |i,f::l=>f.offset==s.lP i&&Hu s (i+1) l
def Bx(P:Program)(s:Sh):Nat->List Field->Bool
 | _,[]=>true
 |i,f::l=>(match P.info? f.type,s.sub i with|some a,some e=>a.size==e.size| _,_=>false)&&Bx P s (i+1) l
def ZW:D->List D
 | .agg _ l=>l
 | _=>[]
def o2{α β:Type}(x:Option α)(f:α->Option β):Option β:=match x with|some a=>f a|none=>none
def zM{α:Type}(b:Bool)(x:Option α):Option α:=bif b then x else none
def zN(P:Program)(t:TypeId):Option TypeId:=match P.underlying t with|some (.slice e)=>some e| _=>none
def mN(P:Program)(t:TypeId)(s:Sh):Bool:=match P.underlying t with
 |some d=>Sm d==s.isAgg
 |none=>false
def Sn(P:Program)(rec:TypeId->Sh->Bool)(s:Sh):Nat->List Field->Bool
 | _,[]=>true
 |i,f::fs=>f.name != "_" &&f.offset==s.lP i&&(match s.sub i with
  |some e=>(sh P f.type==some e)&&mN P f.type e&&rec f.type e
  |none=>false)&&Sn P rec s (i+1) fs
def D0(P:Program):Nat->TypeId->Sh->Bool
 |0,_,_=>false
 | n + 1, t, s => match P.underlying t with
  |some (.struct fs)=>!P.stoodInHeld t&&s.isAgg&&fs.toList.length==s.count&&Sn P (D0 P n) s 0 fs.toList
  |some (.array m e)=>match s with
   | .ar m' se=>m==m'&&(sh P e==some se)&&mN P e se&&D0 P n e se
   | _=>false
  |some (.int k)=>s== .leaf (.int k)
  |some .bool=>s== .leaf .bool
  |some .string=>s== .leaf .str
  | _=>false
def ot:Sh->Bool
 | .nil=>true
 | .cons (.leaf _) b=>ot b
 | _=>false
def D4(P:Program)(t:TypeId):Bool:=match P.underlying t with
 |some (.int _)|some .bool|some .string=>true
 | _=>false
def tV(P:Program)(t:TypeId)(s:Sh):Bool:=match P.underlying t with
 |some .string=>s== .leaf .str
 |some (.struct fs)=>s.isAgg&&ot s&&D0 P 40 t s&&fs.toList.all λf=>D4 P f.type
 | _=>false
def Fy:Sh->Bool
 | .leaf _=>true
 |s=>s.isAgg&&ot s
def mapT(P:Program)(t:TypeId):Option (TypeId×TypeId):=match P.underlying t with|some (.map a b)=>some (a,b)| _=>none
def Ll(P:Program)(t:TypeId):Option (Sh×Sh):=o2 (mapT P t) λ(kt,et)=>o2 (sh P kt) λks=>o2 (sh P et) λvs=>zM (tV P kt ks&&Fy vs) (some (ks,vs))
def By:String:=match Extern.BytealgIndexByte.rows with|_::(s,_)::_=>s|_=> ""
def yK(s:String):Bool:=(Extern.BytealgMakeNoZero.typedRows.map (·.1)).contains s
def U6(P:Program)(c:Call):List Nat:=(List.range P.funcs.size).filter λf=>match P.funcs[f]? with
 |some fn=>fn.params==c.argTypes&&fn.body.isSome&&fn.name != "runtime.NumGoroutine"
 |none=>false
def ZX (P : Program) (c : Call) : Option nY :=
 match c.callee with
 | .value (.func f) => o2 (P.funcs[f]?) λfn => bif fn.body.isSome then zM (fn.name != "runtime.NumGoroutine") (o2 (ZV c.args.toList) λl => some (.call f l)) else
   bif fn.name==By&&fn.origin== "" then(match c.args.toList with
    |[x,y]=>o2 (cX x) λx=>o2 (cX y) λy=>some (.Sk x y)
    | _=>none)else
   zM (yK fn.name&&fn.origin== "") (match c.args.toList,fn.resultTypes.toList with
    |[x],[t]=>match P.underlying t with
     |some (.slice e)=>zM (sh P e==some (.leaf u5)) (o2 (cX x) λx=>some (.mnz x))
     | _=>none
    | _,_=>none)
 | .value (.tmp t)=>o2 (ZV c.args.toList) λl=>some (.qW (U6 P c) (.tmp t) l)
 | .builtin .len => match c.args.toList, c.argTypes.toList with
  |[x],t::_=>o2 (cX x) λx=>match P.underlying t with
   |some (.slice _)=>some (.len x)
   |some .string=>some (.Az x)
   |some (.array n _)=>some (.mv (.const (.int .i64 n)))
   | _=>none
  | _,_=>none
 | .builtin .append => match c.args.toList, c.argTypes.toList with
  |[a,b],[t,u]=>o2 (cX a) λa=>o2 (cX b) λb=>o2 (zN P t) λe=>o2 (sh P e) λs=>o2 (zero P e) λz=>zM (s.size !=0&&z.fits s) (match P.underlying u with
   |some (.slice e')=>zM (sh P e'==some s) (some (.append s (oF P e) a b))
   |some .string=>zM (s== .leaf u5) (some (.append s (oF P e) a b))
   |some (.int _)=>some (.vl s (oF P e) z a b)
   | _=>none)
  | _,_=>none
 | .builtin .copy => match c.args.toList, c.argTypes.toList with
  |[a,b],[t,u]=>o2 (cX a) λa=>o2 (cX b) λb=>o2 (zN P t) λe=>o2 (sh P e) λs=>zM (s.size !=0) (match P.underlying u with
   |some (.slice e')=>zM (sh P e'==some s) (some (.copy s a b))
   |some .string=>zM (s== .leaf u5) (some (.copy s a b))
   | _=>none)
  | _,_=>none
 | .builtin .clear=>match c.args.toList,c.argTypes.toList with
  |[a],[t]=>o2 (cX a) λa=>o2 (zN P t) λe=>o2 (sh P e) λs=>o2 (zero P e) λz=>zM (s.size !=0&&z.fits s) (some (.clr s z a))
  | _,_=>none
 | .builtin .min=>o2 (ZV c.args.toList) λl=>some (.xg false l)
 | .builtin .max=>o2 (ZV c.args.toList) λl=>some (.xg true l)
 | _=>none
def cOp0(P:Program)(o:Op):Option nY:=
 match o with
 | .move x| .assign x=>o2 (cX x) λx=>some (.mv x)
 | .pick c a b=>o2 (cX c) λc=>o2 (cX a) λa=>o2 (cX b) λb=>some (.pick c a b)
 | .alloc t=>o2 (sh P t) λs=>o2 (zero P t) λz=>zM (z.fits s) (some (.alloc s z))
 | .box t x=>o2 (sh P t) λs=>o2 (cX x) λx=>some (.box s x)
 | .build t parts=>o2 (sh P t) λs=>o2 (zero P t) λz=>o2 (p8 parts.toList) λps=>match P.underlying t with
  |some (.struct fs)=>zM (z.fits s&&z.isAgg&&Hu s 0 fs.toList&&Bx P s 0 fs.toList&&fs.toList.length==s.count) (some (.build s (ZW z) ps))
  |some (.array n e)=>o2 (sh P e) λse=>zM (z.fits s&&z.isAgg&&s== .ar n se) (some (.build s (ZW z) ps))
  | _=>none
 | .buildSlice t n parts=>o2 (zN P t) λe=>o2 (sh P e) λs=>o2 (zero P e) λz=>o2 (p8 parts.toList) λps=>zM (z.fits s&&s.size !=0&&Nat.ble (n*s.size) 16777216) (some (.fw s n z ps))
 | .load t x=>o2 (sh P t) λs=>o2 (cX x) λx=>zM (mN P t s) (some (.load s x))
 | .store t a v=>o2 (sh P t) λs=>o2 (cX a) λa=>o2 (cX v) λv=>some (.store s a v)
 | .nilCheck x=>o2 (cX x) λx=>some (.qA x)
 | .binOp op t x y _ => o2 (cX x) λx => o2 (cX y) λy => match P.underlying t with
  |some (.int _)|some .string=>some (.bin op x y)
  |some .bool=>match op with
   | .eql=>some (.beq false x y)
   | .neq=>some (.beq true x y)
   | _=>none
  |some (.struct _)|some (.array _ _)=>o2 (sh P t) λs=>zM (D0 P 40 t s&&!(P.eqGuardType P.depth t)) (match op with
   | .eql=>some (.eqa s false x y)
   | .neq=>some (.eqa s true x y)
   | _=>none)
  |some (.pointer _)=>match op with
   | .eql=>some (.Br false x y)
   | .neq=>some (.Br true x y)
   | _=>none
  |some (.slice _)=>match op with
   | .eql=>some (.O9 false x y)
   | .neq=>some (.O9 true x y)
   | _=>none
  | _=>none
 | .unOp op _ x=>o2 (cX x) λx=>some (.un op x)
 | .convert src dst x => o2 (cX x) λx => match P.underlying src, P.underlying dst with
  |some (.int _),some (.int k)=>some (.conv k x)
  |some .string,some .string=>some (.Lj x)
  |some .string,some (.slice e)=>match P.underlying e with
   |some (.int .u8)=>some (.s2b x)
   | _=>none
  |some (.slice e),some .string=>match P.underlying e with
   |some (.int .u8)=>some (.ZS x)
   | _=>none
  |some (.slice _),some (.slice e)=>zM (src==dst) (o2 (sh P e) λs=>zM (s== .leaf u5) (match P.underlying e with
   |some (.int .u8)=>some (.Pa s x)
   | _=>none))
  | _,_=>none
 | .makeSlice t l c=>o2 (zN P t) λe=>o2 (sh P e) λs=>o2 (zero P e) λz=>o2 (cX l) λl=>o2 (cX c) λc=>zM (z.fits s&&s.size !=0) (some (.mks s (oF P e) z l c))
 | .makeFunc (.func f) first cap=>zM first.isEmpty (match cap.toList with
  |[x]=>o2 (cX x) λx=>some (.mkf f x)
  | _=>none)
 | .makeMap t none=>o2 (Ll P t) λ(ks,vs)=>some (.Zt ks vs)
 | .insert t m k v=>o2 (Ll P t) λ(ks,vs)=>o2 (cX m) λm=>o2 (cX k) λk=>o2 (cX v) λv=>some (.je ks vs m k v)
 | .mapUpdate t m k v=>o2 (Ll P t) λ(ks,vs)=>o2 (cX m) λm=>o2 (cX k) λk=>o2 (cX v) λv=>some (.je ks vs m k v)
 | .lookup t m k ok=>o2 (mapT P t) λ(_,et)=>o2 (Ll P t) λ(ks,vs)=>o2 (zero P et) λz=>o2 (cX m) λm=>o2 (cX k) λk=>zM (z.fits vs) (some (.Gm ks vs ok z m k))
 | .fieldAddr t x i => o2 (sh P t) λs => o2 (cX x) λx => match P.underlying t with
  |some (.struct fs)=>match fs[i]?,s.sub i with
   |some f,some e=>zM (f.offset==s.lP i&&(match P.info? f.type with|some a=>a.size==e.size|none=>false)&&e.size !=0) (some (.fx s x i))
   | _,_=>none
  | _=>none
 | .field t x i => o2 (sh P t) λs => o2 (cX x) λx => match P.underlying t with
  |some (.struct fs)=>match fs[i]?,s.sub i with
   |some f,some e=>zM (f.offset==s.lP i&&sh P f.type==some e&&mN P f.type e) (some (.field s x i))
   | _,_=>none
  | _=>none
 | .indexAddr t x i=>o2 (cX x) λx=>o2 (cX i) λi=>match P.underlying t with
  |some (.array n e)=>o2 (sh P e) λs=>some (.xf n s x i)
  |some (.slice e)=>o2 (sh P e) λs=>some (.js s x i)
  | _=>none
 | .index t x i=>o2 (cX x) λx=>o2 (cX i) λi=>match P.underlying t with
  |some (.array n e)=>o2 (sh P e) λs=>zM (mN P e s) (some (.index n s x i))
  |some .string=>some (.vk x i)
  | _=>none
 | .slice t x lo hi mx=>o2 (cX x) λx=>o2 (Pc lo) λlo=>o2 (Pc hi) λhi=>o2 (Pc mx) λmx=>match P.underlying t with
  |some (.array n e)=>o2 (sh P e) λs=>zM (mx.isNone||hi.isSome) (some (.Ay n s x lo hi mx))
  |some (.slice e)=>o2 (sh P e) λs=>zM (mx.isNone||hi.isSome) (some (.slice s x lo hi mx))
  |some .string=>zM mx.isNone (some (.DZ x lo hi))
  | _=>none
 | .extract x i=>o2 (cX x) λx=>some (.ext x i)
 | .call c=>ZX P c
 | .sliceToArrayPointer t x=>match P.underlying t with
  |some (.array n e)=>o2 (sh P e) λs=>o2 (cX x) λx=>some (.s2a n s x)
  | _=>none
 | _=>none
def cOp(P:Program)(o:Op):Option nY:=
 match cOp0 P o with
 |some a=>some a
 |none=>some .fail
def oG(ops:List Oper)(g:Option (Nat×Bool)):Option (Option (Nat×Bool)):=
 match g with
 |none=>some none
 | some (j, want) => match ops[j]? with
  |some o=>match o.dst with
   |some t=>some (some (t,want))
   |none=>none
  |none=>none
def So(n:Nat):Option Nat->Bool
 |none=>true
 |some t=>Nat.blt t n
def AB(P:Program)(n:Nat)(all:List Oper):List Oper->Option (List aS)
 |[]=>some []
 |o::l=>zM (So n o.dst) (o2 (cOp P o.op) λa=>o2 (oG all o.guard) λg=>o2 (AB P n all l) λr=>some (⟨o.dst,a,g⟩::r))
def oH:nY->Bool
 | .store _ _ _=>false
 | .append _ _ _ _=>false
 | .vl _ _ _ _ _=>false
 | .copy _ _ _=>false
 | .qW _ _ _=>false
 | .O9 _ _ _=>false
 | .mnz _=>false
 | .clr _ _ _=>false
 | .mkf _ _=>false
 | .Sk _ _=>false
 | .je _ _ _ _ _=>false
 | _=>true
def nY.xs:nY->List X
 | .mv x| .un _ x| .conv _ x| .Lj x| .box _ x| .load _ x| .qA x| .fx _ x _| .field _ x _| .ext x _| .len x| .Az x| .ZS x| .s2b x=>[x]
 | .pick c a b=>[c,a,b]
 | .bin _ x y| .eqa _ _ x y| .beq _ x y| .store _ x y| .xf _ _ x y| .js _ x y| .index _ _ x y| .vk x y| .append _ _ x y| .vl _ _ _ x y| .copy _ x y=>[x,y]
 | .alloc _ _=>[]
 | .build _ _ ps| .fw _ _ _ ps=>ps.map (·.2)
 | .Ay _ _ x lo hi mx| .slice _ x lo hi mx=>x::(lo.toList++hi.toList++mx.toList)
 | .DZ x lo hi=>x::(lo.toList++hi.toList)
 | .mks _ _ _ l c=>[l,c]
 | .xg _ l=>l
 | .call _ l=>l
 | .qW _ x l=>x::l
 | .fail=>[]
 | .Br _ x y| .O9 _ x y=>[x,y]
 | .s2a _ _ x| .Pa _ x=>[x]
 | .mnz x| .mkf _ x| .clr _ _ x=>[x]
 | .Sk x y=>[x,y]
 | .Zt _ _=>[]
 | .je _ _ m x v=>[m,x,v]
 | .Gm _ _ _ _ m x=>[m,x]
def iC:Op->Bool
 | .store _ _ _=>false
 | .mapUpdate _ _ _ _=>false
 | .insert _ _ _ _=>false
 | .call c=>match c.callee with
  | .builtin .append=>false
  | .builtin .copy=>false
  | .builtin .clear=>false
  | _=>true
 | _=>true
def v7(ops:List Oper)(i j:Nat):Bool:=
 match ops[i]? with
 |some o=>o.after.toList.any λe=>Region.binds .any e&&e.on==j
 |none=>false
def xk:List X->List Nat
 |[]=>[]
 | .tmp t::l=>t::xk l
 | _::l=>xk l
def px(o:aS):List Nat:=xk o.op.xs++(match o.guard with|some (t,_)=>[t]|none=>[])
def bC(al:List aS)(j:Nat):Option Nat:=match al[j]? with|some o=>o.dst|none=>none
def dOK(ops:List Oper)(al:List aS)(m:Nat):Bool:=
 Nat.ble m ops.length&&
 (List.range ops.length).all (λi=>match ops[i]? with
  |some o=>o.after.toList.all λe=>!Region.binds .any e||Nat.blt e.on i
  |none=>true)&&
 (List.range m).all (λi=>match al[i]?,ops[i]? with
  |some x,some o=>oH x.op&&iC o.op&&
   (List.range m).all (λj=>j==i||x.dst.isNone||bC al j !=x.dst)&&
   (px x).all λt=>(List.range m).all λj=>bC al j !=some t||v7 ops i j
  | _,_=>false)&&
 (List.range ops.length).all (λi=>Nat.blt i m||(List.range i).all λj=>v7 ops i j||(List.range i).any λk=>Nat.blt j k&&v7 ops k j)
def Sp(ops:List Oper)(al:List aS):Bool:=(List.range (ops.length+1)).any λm=>dOK ops al m
def KB(ops:List Oper):Nat->Nat->Nat->Bool
 |0,_,_=>false
 |n+1,i,j=>v7 ops i j||(List.range i).any λk=>v7 ops i k&&KB ops n k j
def dly(ops:List Oper)(m i:Nat):List Nat:=(List.range m).filter λj=>!KB ops 2 i j
def W0 (ops : List Oper) (al : List aS) (m : Nat) : Bool :=
 Nat.ble m ops.length&&
 (List.range ops.length).all (λi=>match ops[i]? with
  |some o=>o.after.toList.all λe=>!Region.binds .any e||Nat.blt e.on i
  |none=>true)&&
 (List.range m).all (λi=>match al[i]?,ops[i]? with
  |some x,some o=>oH x.op&&iC o.op&&
   (List.range m).all (λj=>j==i||x.dst.isNone||bC al j !=x.dst)&&
   (px x).all λt=>(List.range m).all λj=>bC al j !=some t||v7 ops i j
  | _,_=>false)&&
 (List.range ops.length).all (λi=>Nat.blt i m||(match al[i]? with
  | some x => (List.range i).all λj => KB ops 2 i j || (Nat.blt j m && (match al[j]? with
   |some y=>y.guard.isNone&&(match y.dst with
    |some t=>x.dst !=some t&&!(px x).contains t
    |none=>false)
   |none=>false))
  |none=>false))
def ZY:List Oper->List aS->Nat
 |o::ops,x::al=>bif oH x.op&&iC o.op then ZY ops al+1 else 0
 | _,_=>0
def mQ(ops:List Oper)(al:List aS):Nat:=((List.range (ZY ops al+1)).reverse.find? λm=>W0 ops al m).getD 0
def Fz(ops:List Oper)(al:List aS)(m:Nat):Nat->Nat->List (aS×List aS)
 | _,0=>[]
 |k,n+1=>match al[k]? with
  |some x=>(x,(dly ops m k).filterMap λj=>al[j]?)::Fz ops al m (k+1) n
  |none=>[]
def drawC(ops:List Oper)(al:List aS)(m:Nat):aj:= .draw (al.take m) ((dly ops m m).filterMap λj=>al[j]?) (Fz ops al m m (ops.length-m))
def ZZ(al:List aS):Bool:=al.any λx=>match x.op with| .call _ _=>true| _=>false
def M3(ops:List Oper)(al:List aS):Option Nat:=(List.range (ops.length+1)).find? λm=>dOK ops al m
def Hv(ops:List Oper)(al:List aS):aj:=match M3 ops al with
 |some m=>bif ZZ (al.drop m)then .U1 (al.take m) (al.drop m)else .region true al
 |none=> .region true al
mutual
def Gn:D->Bool
 | .raw _=>true
 | .agg _ l=>U7 l
 | _=>false
def U7:List D->Bool
 |[]=>true
 |d::l=>Gn d&&U7 l
end
def D5:nY->Bool
 | .alloc _ z=>Gn z
 | .fw s _ _ _=>s.pure
 | .call _ _=>false
 |o=>oH o
def plainA:nY->Bool
 | .alloc _ _=>false
 | .fw _ _ _ _=>false
 | _=>true
def ordF:List Nat:=[12,79,92,99]
def hasF(al:List aS):Bool:=al.any λx=>match x.op with| .call f _=>ordF.contains f| _=>false
def fOK(ops:List Oper)(al:List aS)(i:Nat):Bool:=match ops[i]?,al[i]? with
 |some o,some x=>D5 x.op&&iC o.op&&(x.guard.isNone||plainA x.op&&hasF al)&&x.dst.isSome
 | _,_=>false
def okF1(ops:List Oper)(al:List aS)(prev:Option Nat)(F:List Nat)(i:Nat):Bool:=
 fOK ops al i&&!F.contains i&&F.all (λj=>bC al j !=bC al i)&&(match prev with
  |some c=>KB ops 2 i c
  |none=>true)&&(match al[i]? with
  |some x=>(px x).all λt=>(List.range ops.length).all λj=>bC al j !=some t||v7 ops i j
  |none=>false)
def D6(ops:List Oper)(al:List aS)(prev:Option Nat):List Nat->List Nat->Bool
 | _,[]=>true
 |F,i::l=>okF1 ops al prev F i&&D6 ops al prev (F++[i]) l
def okC(ops:List Oper)(al:List aS)(prev:Option Nat)(F:List Nat)(c:Nat):Bool:=
 !F.contains c&&(match prev with
  |some p=>KB ops 2 c p
  |none=>true)&&(match al[c]? with
  |some x=>F.all λf=>KB ops 2 c f||(match bC al f with
   |some t=>x.dst !=some t&&!(px x).contains t
   |none=>false)
  |none=>false)
def Zu(ops:List Oper)(al:List aS):Option Nat->List Nat->List (Nat×List Nat)->Bool
 | _,_,[]=>true
 |prev,F,(c,fl)::gs=>okC ops al prev F c&&gs.all (λg=>g.1 !=c)&&!fl.contains c&&D6 ops al (some c) F fl&&Zu ops al (some c) (F++fl) gs
def Kt(gs:List (Nat×List Nat))(i:Nat):Bool:=gs.any λg=>g.1==i||g.2.contains i
def W2(ops:List Oper)(al:List aS)(f0:List Nat)(gs:List (Nat×List Nat)):Bool:=
 (List.range ops.length).all (λi=>match ops[i]? with
  |some o=>o.after.toList.all λe=>!Region.binds .any e||Nat.blt e.on i
  |none=>true)&&
 (List.range ops.length).all (λi=>f0.contains i||Kt gs i)&&D6 ops al none [] f0&&Zu ops al none f0 gs
def plan0(ops:List Oper)(al:List aS):List Nat:=(List.range ops.length).foldl (λF i=>bif fOK ops al i&&(List.range i).all (λj=>!v7 ops i j||F.contains j)then F++[i]else F) []
def U8(ops:List Oper)(al:List aS):List Nat->Option (Nat×List Nat)->List (Nat×List Nat)
 |[],none=>[]
 |[],some g=>[g]
 |i::l,none=>U8 ops al l (some (i,[]))
 |i::l,some (c,fl)=>bif fOK ops al i&&KB ops 2 i c then U8 ops al l (some (c,fl++[i]))else(c,fl)::U8 ops al l (some (i,[]))
def atL(al:List aS)(l:List Nat):List aS:=l.filterMap λj=>al[j]?
def Pe(ops:List Oper)(F:List Nat)(c:Nat):List Nat:=F.filter λj=>!KB ops 2 c j
def noG(x:aS):aS:=⟨x.dst,x.op,none⟩
def atU(al:List aS)(l:List Nat):List aS:=(atL al l).map noG
def Hw(ops:List Oper)(al:List aS):List Nat->List (Nat×List Nat)->List (aS×List aS×List aS)
 | _,[]=>[]
 |F,(c,fl)::gs=>match al[c]? with
  |some x=>(x,atU al fl,atL al (Pe ops F c++fl))::Hw ops al (Pe ops F c++fl) gs
  |none=>[]
def drawF(ops:List Oper)(al:List aS)(f0:List Nat)(gs:List (Nat×List Nat)):aj:= .U2 (atU al f0) (atL al f0) (Hw ops al f0 gs)
def Gp(ops:List Oper)(al:List aS):List Nat×List (Nat×List Nat):=(plan0 ops al,U8 ops al ((List.range ops.length).filter λi=>!(plan0 ops al).contains i) none)
def hasI(al:List aS):Bool:=al.any λx=>match x.op with| .je ..=>true| _=>false
def Z0(ops:List Oper):Bool:=(List.range ops.length).all (λi=>match ops[i]? with
  |some o=>o.after.toList.all λe=>!Region.binds .any e||Nat.blt e.on i
  |none=>true)
def U9(o:Oper):List Nat:=(o.after.toList.filter λe=>Region.binds .any e).map (·.on)
def zO(ops:List Oper)(al:List aS):List (aS×List Nat):=List.zipWith (λo x=>(x,U9 o)) ops al
def Z1:aj:= .region false [⟨none,.fail,none⟩]
def comp(P:Program)(n:Nat):Code->Option aj
 | .skip=>some .skip
 | .region _ ops draw => match AB P n ops.toList ops.toList with
  |some l=>bif !draw then some (.region false l)else
   bif hasF l&&(P.follows .mixedOrders&&W2 ops.toList l (Gp ops.toList l).1 (Gp ops.toList l).2)then some (drawF ops.toList l (Gp ops.toList l).1 (Gp ops.toList l).2)else
   bif P.follows .mixedOrders&&Sp ops.toList l then some (Hv ops.toList l)else
   bif P.follows .mixedOrders&&W0 ops.toList l (mQ ops.toList l)then some (drawC ops.toList l (mQ ops.toList l))else
   bif P.follows .mixedOrders&&W2 ops.toList l (Gp ops.toList l).1 (Gp ops.toList l).2 then some (drawF ops.toList l (Gp ops.toList l).1 (Gp ops.toList l).2)else
   bif hasI l&&(P.follows .mixedOrders&&Z0 ops.toList)then some (.drawn (zO ops.toList l))else some Z1
  |none=>some Z1
 | .seq a b=>o2 (comp P n a) λa=>o2 (comp P n b) λb=>some (.seq a b)
 | .cond c a b=>o2 (cX c) λc=>o2 (comp P n a) λa=>o2 (comp P n b) λb=>some (.cond c a b)
 | .block id a=>o2 (comp P n a) λa=>some (.block id a)
 | .loop a=>o2 (comp P n a) λa=>some (.loop a)
 | .exit id=>some (.exit id)
 | .ret=>some .ret
 | _=>some Z1
end Go.Am
namespace Go.Am
structure aW {α β:Type} (R:α->β->Prop) (l:List α) (m:List β):Prop where
 len:l.length=m.length
 at_:∀(i:Nat) (a:α) (b:β),l[i]?=some a->m[i]?=some b->R a b
theorem aW.nil{α β:Type}{R:α->β->Prop}:aW R [] []:=⟨rfl,by simp⟩
theorem aW.mono{α β:Type}{R S:α->β->Prop}{l:List α}{m:List β}(h:aW R l m)(hs:∀a b,R a b->S a b):aW S l m:=
 ⟨h.len,λi a b ha hb=>hs _ _ (h.at_ i a b ha hb)⟩
theorem aW.append{α β:Type}{R:α->β->Prop}{l l':List α}{m m':List β}(h:aW R l m)(h':aW R l' m'):aW R (l++l') (m++m'):=by
 refine⟨by simp[h.len,h'.len],λi a b ha hb=>?_⟩
 rw[adT]at ha hb
 have hl:=h.len
 by_cases hi:i<l.length
 ·rw[aaJ hi]at ha
  rw[aaJ (by omega)]at hb
  exact h.at_ i a b ha hb
 ·rw[aaC hi]at ha
  rw[aaC (by omega)]at hb
  exact h'.at_ (i-l.length) a b ha (by rw[hl];exact hb)
theorem aW.take{α β:Type}{R:α->β->Prop}{l:List α}{m:List β}(h:aW R l m)(n:Nat):aW R (l.take n) (m.take n):=by
 refine⟨by simp[h.len],λi a b ha hb=>?_⟩
 rw[abi]at ha hb
 split at ha
 ·rename_i hi
  rw[aaJ hi]at hb
  exact h.at_ i a b ha hb
 ·cases ha
theorem aW.drop{α β:Type}{R:α->β->Prop}{l:List α}{m:List β}(h:aW R l m)(n:Nat):aW R (l.drop n) (m.drop n):=by
 refine⟨by simp[h.len],λi a b ha hb=>?_⟩
 rw[aa5]at ha hb
 exact h.at_ _ a b ha hb
theorem aW.left{α β:Type}{R:α->β->Prop}{l l':List α}{m m':List β}(h:aW R (l++l') (m++m'))(hl:l.length=m.length):aW R l m:=by
 have:=h.take l.length
 rwa [aaW,hl,aaW]at this
theorem aW.right{α β:Type}{R:α->β->Prop}{l l':List α}{m m':List β}(h:aW R (l++l') (m++m'))(hl:l.length=m.length):aW R l' m':=by
 have:=h.drop l.length
 rwa [aa9,hl,aa9]at this
theorem aW.single{α β:Type}{R:α->β->Prop}{a:α}{b:β}(h:R a b):aW R [a] [b]:=by
 refine⟨rfl,λi x y hx hy=>?_⟩
 cases i with
 |zero=>simp at hx hy;subst hx;subst hy;exact h
 |succ i=>simp at hx
theorem aW.cons{α β:Type}{R:α->β->Prop}{a:α}{b:β}{l:List α}{m:List β}(h:R a b)(h':aW R l m):aW R (a::l) (b::m):=
 (aW.single h).append h'
theorem aW.head{α β:Type}{R:α->β->Prop}{a:α}{b:β}{l:List α}{m:List β}(h:aW R (a::l) (b::m)):R a b:=h.at_ 0 a b rfl rfl
theorem aW.tail{α β:Type}{R:α->β->Prop}{a:α}{b:β}{l:List α}{m:List β}(h:aW R (a::l) (b::m)):aW R l m:=
 aW.right (l:=[a]) (m:=[b]) h rfl
theorem aW.some{α β:Type}{R:α->β->Prop}{l:List α}{m:List β}(h:aW R l m){i:Nat}{a:α}(ha:l[i]?=some a):∃b,m[i]?=some b/\R a b:=by
 have hi:i<l.length:=by
  rcases aaT i l.length with h'|h'
  ·exact h'
  ·simp[abv h']at ha
 have hm:i<m.length:=by have:=h.len;omega
 exact⟨m[i],aao hm,h.at_ i a _ ha (aao hm)⟩
theorem ei(l m:List D):ak (l++m)=ak l++ak m:=by
 induction l with
 |nil=>simp[ak]
 |cons d l ih=>simp[ak,ih]
theorem fY{l:List D}{i:Nat}{d:D}(h:l[i]?=some d):ak l=ak (l.take i)++(d.flat++ak (l.drop (i+1))):=by
 have hi:i<l.length:=by
  rcases aaT i l.length with h'|h'
  ·exact h'
  ·simp[abv h']at h
 have hd:l[i]=d:=by rw[aao hi]at h;exact abd h
 have AD:l=l.take i++d::l.drop (i+1):=by
  rw[<-hd,<-abp hi,abj]
 calc ak l=ak (l.take i++d::l.drop (i+1)):=by rw[<-AD]
  _=_:=by rw[ei];simp[ak]
theorem D7{l:List D}{i:Nat}{d:D}(h:i<l.length):ak (l.set i d)=ak (l.take i)++(d.flat++ak (l.drop (i+1))):=by
 have h1:(l.set i d)[i]?=some d:=by simp[h]
 rw[fY h1]
 congr 2
 ·rw[List.take_set_of_le (aax _)]
 ·rw[List.drop_set_of_lt (by omega)]
theorem M4:∀(s:Sh) (l:List D),s.isAgg=true->l.length=s.count->(∀i e d,s.sub i=some e->l[i]?=some d->d.flat.length=e.size)->
  (ak l).length=s.size/\∀i,i<=l.length->(ak (l.take i)).length=s.lP i\/(i=l.length)
 | .nil,l,_,hl,_=>by
  simp[Sh.count]at hl
  subst hl
  simp[ak,Sh.size]
 | .cons a b,[],_,hl,_=>by simp[Sh.count]at hl
 | .cons a b, x :: l, ha, hl, h => by
  have hb:=M4 b l (by simpa[Sh.isAgg]using ha) (by simpa[Sh.count]using hl) (λi e d hs hd=>h (i+1) e d (by simpa[Sh.sub]using hs) (by simpa using hd))
  have h0:=h 0 a x rfl rfl
  refine⟨by simp[ak,Sh.size,h0,hb.1],λi hi=>?_⟩
  cases i with
  |zero=>left;simp[ak,Sh.lP]
  |succ i=>
   rcases hb.2 i (by simpa using hi)with h1|h1
   ·left;simp[ak,Sh.lP,h0,h1]
   ·right;simp[h1]
 | .ar n s, l, _, hl, h => by
  have nA:l.length=n:=hl
  have key:∀(m:List D) (k:Nat),(∀d,d∈m->d.flat.length=s.size)->(ak m).length=m.length*s.size:=by
   intro m k hm
   induction m with
   |nil=>simp[ak]
   |cons d m ih=>
    have h1:=hm d (by simp)
    have h2:=ih (λe he=>hm e (by simp[he]))
    simp[ak,h1,h2,acE,aem]
  have bW:∀d,d∈l->d.flat.length=s.size:=by
   intro d hd
   obtain⟨i,hi,rfl⟩:=aa0.1 hd
   exact h i s _ (by simp[Sh.sub];omega) (aao hi)
  refine⟨by rw[key l 0 bW,nA];rfl,λi hi=> .inl ?_⟩
  rw[key (l.take i) 0 (λd hd=>bW d (aaY hd)),aau,abI hi]
  rfl
 | .leaf _,_,h,_,_=>by simp[Sh.isAgg]at h
 | .ref,_,h,_,_=>by simp[Sh.isAgg]at h
theorem Hx{v:Value}{k:Sc}(h:oD v k=true):v.oneCell'=true:=by
 cases v<;>cases k<;>simp_all[oD,Value.oneCell']
theorem cn{d:D}(h:d.eZ=true):d.flat=[d]:=by
 cases d<;>simp_all[D.eZ,D.flat]
theorem aL.len{s:Sh}{d:D}(h:aL s d):d.flat.length=s.size:=by
 induction h with
 |leaf k v hv=>simp[D.flat,Sh.size]
 |ref d hd=>simp[cn hd,Sh.size]
 |agg s l ha hl fK ih=>simpa[D.flat]using(M4 s l ha hl ih).1
theorem aL.jX{s:Sh}{d:D}(h:aL s d)(ha:s.isAgg=true):∃l,d= .agg s l/\l.length=s.count/\∀i e d,s.sub i=some e->l[i]?=some d->aL e d:=by
 cases h with
 |leaf k v hv=>simp[Sh.isAgg]at ha
 |ref d hd=>simp[Sh.isAgg]at ha
 |agg s l _ hl fK=>exact⟨l,rfl,hl,fK⟩
theorem aL.qY{s:Sh}{d:D}(h:aL s d)(ha:s.isAgg=false):d.eZ=true:=by
 cases h with
 |leaf k v hv=>simp[D.eZ];exact Hx hv
 |ref d hd=>exact hd
 |agg s l h _ _=>simp[h]at ha
theorem Lm:∀{s:Sh} {i:Nat} {e:Sh},s.sub i=some e->s.isAgg=true\/s.isAgg=false->i<s.count
 | .cons a b,0,e,h,_=>by simp[Sh.count]
 | .cons a b,i+1,e,h,_=>by
  have:=Lm (s:=b) (i:=i) (e:=e) (by simpa[Sh.sub]using h) (by cases b.isAgg<;>simp)
  simp[Sh.count];omega
 | .ar n s,i,e,h,_=>by
  simp only[Sh.sub]at h
  split at h
  ·simpa[Sh.count]
  ·cases h
 | .leaf _,_,_,h,_=>by simp[Sh.sub]at h
 | .ref,_,_,h,_=>by simp[Sh.sub]at h
 | .nil,_,_,h,_=>by simp[Sh.sub]at h
theorem sub_lt{s:Sh}{i:Nat}{e:Sh}(h:s.sub i=some e):i<s.count:=Lm h (by cases s.isAgg<;>simp)
theorem mV:∀{s:Sh} {i:Nat},i<s.count->∃e,s.sub i=some e
 | .cons a b,0,_=>⟨a,rfl⟩
 | .cons a b,i+1,h=>by
  obtain⟨e,he⟩:=mV (s:=b) (i:=i) (by simp[Sh.count]at h;omega)
  exact⟨e,by simpa[Sh.sub]using he⟩
 | .ar n s,i,h=>⟨s,by simp[Sh.sub];simpa[Sh.count]using h⟩
 | .leaf _,_,h=>by simp[Sh.count]at h
 | .ref,_,h=>by simp[Sh.count]at h
 | .nil,_,h=>by simp[Sh.count]at h
theorem aL.part{s:Sh}{l:List D}(h:aL s (.agg s l))(ha:s.isAgg=true){i:Nat}{e:Sh}(hs:s.sub i=some e):
  ∃d,l[i]?=some d/\aL e d/\(ak (l.take i)).length=s.lP i:=by
 obtain⟨l',nA,hlen,fK⟩:=h.jX ha
 cases nA
 have hi:i<l.length:=by rw[hlen];exact sub_lt hs
 refine⟨l[i],aao hi,fK i e _ hs (aao hi),?_⟩
 rcases(M4 s l ha hlen (λi e d h1 h2=>(fK i e d h1 h2).len)).2 i (by omega)with h1|h1
 ·exact h1
 ·omega
theorem aL.Va{s:Sh}{l:List D}(h:aL s (.agg s l))(ha:s.isAgg=true){i:Nat}{e:Sh}{d:D}(hs:s.sub i=some e)(hd:aL e d):aL s (.agg s (l.set i d)):=by
 obtain⟨l',nA,hlen,fK⟩:=h.jX ha
 cases nA
 refine .agg s _ ha (by simp[hlen]) λj e' d' hj lz=>?_
 rw[acT]at lz
 split at lz
 ·rename_i Z2
  subst Z2
  split at lz
  ·cases lz
   rw[hs]at hj
   cases hj
   exact hd
  ·cases lz
 ·exact fK j e' d' hj lz
theorem Pf{s:Sh}{i:Nat}{p:List Nat}{e:Sh}{d:D}(hd:aL s d)(h:s.at (i::p)=some e):∃u l,s.sub i=some u/\u.at p=some e/\s.isAgg=true/\d= .agg s l:=by
 simp only[Sh.at]at h
 cases hs:s.sub i with
 |none=>simp[hs]at h
 | some u =>
  simp only[hs]at h
  have ha:s.isAgg=true:=by
   cases hd with
   |leaf k v hv=>simp[Sh.sub]at hs
   |ref d hd=>simp[Sh.sub]at hs
   |agg s l h _ _=>exact h
  obtain⟨l,rfl,_⟩:=hd.jX ha
  exact⟨u,l,rfl,h,ha,rfl⟩
theorem Pg:∀(p:List Nat) {s e:Sh} {d:D},aL s d->s.at p=some e->
  ∃d' pre post,d.get p=some d'/\aL e d'/\d.flat=pre++(d'.flat++post)/\pre.length=s.off p
 |[],s,e,d,h,he=>by
  simp[Sh.at]at he
  subst he
  exact⟨d,[],[],by simp[D.get],h,by simp,by simp[Sh.off]⟩
 | i :: p, s, e, d, h, he => by
  obtain⟨u,l,hs,hu,ha,rfl⟩:=Pf h he
  obtain⟨x,hx,Sq,oI⟩:=h.part ha hs
  obtain⟨d',pre,post,hg,lz,hf,hp⟩:=Pg p Sq hu
  refine⟨d',ak (l.take i)++pre,post++ak (l.drop (i+1)),by simp[D.get,hx,hg],lz,?_,?_⟩
  ·simp only[D.flat]
   rw[fY hx,hf]
   simp
  ·simp[Sh.off,hs,oI,hp]
theorem Ph:∀(p:List Nat) {s e:Sh} {d x:D},aL s d->s.at p=some e->aL e x->
  ∃d' o pre post,d.set p x=some d'/\aL s d'/\d.flat=pre++(o++post)/\d'.flat=pre++(x.flat++post)/\pre.length=s.off p/\o.length=x.flat.length
 |[],s,e,d,x,h,he,hx=>by
  simp[Sh.at]at he
  subst he
  exact⟨x,d.flat,[],[],by simp[D.set],hx,by simp,by simp,by simp[Sh.off],by rw[h.len,hx.len]⟩
 | i :: p, s, e, d, x, h, he, hx => by
  obtain⟨u,l,hs,hu,ha,rfl⟩:=Pf h he
  obtain⟨y,hy,hys,oI⟩:=h.part ha hs
  obtain⟨d',o,pre,post,hg,lz,hf,hf',hp,ho⟩:=Ph p hys hu hx
  have hi:i<l.length:=by
   rcases aaT i l.length with h'|h'
   ·exact h'
   ·simp[abv h']at hy
  refine⟨.agg s (l.set i d'),o,ak (l.take i)++pre,post++ak (l.drop (i+1)),by simp[D.set,hy,hg],h.Va ha hs lz,?_,?_,?_,ho⟩
  ·simp only[D.flat]
   rw[fY hy,hf]
   simp
  ·simp only[D.flat]
   rw[D7 hi,hf']
   simp
  ·simp[Sh.off,hs,oI,hp]
theorem yL:∀(p:List Nat) {s e:Sh} (i:Nat),s.at p=some e->s.at (p++[i])=e.sub i
 |[],s,e,i,h=>by
  simp[Sh.at]at h
  subst h
  simp only[aaZ,Sh.at]
  cases s.sub i<;>rfl
 |j::p,s,e,i,h=>by
  simp only[Sh.at,abu]at h⊢
  cases hs:s.sub j with
  |none=>simp[hs]at h
  |some u=>simp only[hs]at h⊢;exact yL p i h
theorem Pj:∀(p:List Nat) {s e:Sh} (i:Nat),s.at p=some e->s.off (p++[i])=s.off p+e.lP i
 |[],s,e,i,h=>by
  simp[Sh.at]at h
  subst h
  simp only[aaZ,Sh.off]
  cases s.sub i<;>simp[Sh.off]
 | j :: p, s, e, i, h => by
  simp only[Sh.at,Sh.off,abu]at h⊢
  cases hs:s.sub j with
  |none=>simp[hs]at h
  |some u=>
   simp only[hs]at h⊢
   rw[Pj p i h]
   omega
theorem be{s:Sh}:∀{l:List D},(∀d∈l,aL s d)->(ak l).length=l.length*s.size
 |[],_=>by simp[ak]
 |d::l,h=>by
  have h1:=(h d (by simp)).len
  have h2:=be (l:=l) (λe he=>h e (by simp[he]))
  simp[ak,h1,h2,acE,aem]
theorem bQ{α:Type}{l:List α}{i:Nat}{d:α}(h:l[i]?=some d):d∈l:=aaG h
theorem dj{α:Type}{l:List α}{i:Nat}{d:α}(h:l[i]?=some d):i<l.length:=by
 rcases aaT i l.length with h'|h'
 ·exact h'
 ·simp[abv h']at h
theorem xn{s e:Sh}{els:List D}{i:Nat}{p:List Nat}{d:D}(h:∀d∈els,aL s d)(he:s.at p=some e)(hg:cM els (i::p)=some d):
  aL e d/\i<els.length/\∃pre post,ak els=pre++(d.flat++post)/\pre.length=i*s.size+s.off p:=by
 simp only[cM]at hg
 cases hx:els[i]? with
 |none=>simp[hx]at hg
 |some x=>
  simp only[hx]at hg
  obtain⟨d',pre,post,h1,h2,h3,h4⟩:=Pg p (h x (bQ hx)) he
  rw[hg]at h1
  cases h1
  refine⟨h2,dj hx,ak (els.take i)++pre,post++ak (els.drop (i+1)),?_,?_⟩
  ·rw[fY hx,h3];simp
  ·rw[aap,h4,be (λd hd=>h d (aaY hd)),aau,abI (aen (dj hx))]
theorem FA{s e:Sh}{els els':List D}{i:Nat}{p:List Nat}{x:D}(h:∀d∈els,aL s d)(he:s.at p=some e)(hx:aL e x)(hg:mL els (i::p) x=some els'):
  (∀d∈els',aL s d)/\els'.length=els.length/\i<els.length/\∃pre o post,ak els=pre++(o++post)/\ak els'=pre++(x.flat++post)/\pre.length=i*s.size+s.off p/\o.length=x.flat.length:=by
 simp only[mL]at hg
 cases hy:els[i]? with
 |none=>simp[hy]at hg
 | some y =>
  simp only[hy]at hg
  obtain⟨d',o,pre,post,h1,h2,h3,h4,h5,h6⟩:=Ph p (h y (bQ hy)) he hx
  simp only[h1]at hg
  cases hg
  have hi:=dj hy
  refine⟨λd hd=>?_,by simp,hi,ak (els.take i)++pre,o,post++ak (els.drop (i+1)),?_,?_,?_,h6⟩
  ·rcases adw hd with h'|h'
   ·exact h d h'
   ·exact h'▸h2
  ·rw[fY hy,h3];simp
  ·rw[D7 hi,h4];simp
  ·rw[aap,h5,be (λd hd=>h d (aaY hd)),aau,abI (aen hi)]
end Go.Am
namespace Go.Am
structure Loc where
 b:Nat
 sh:Sh
 room:Nat
 mp:Bool
def Loc.at(L:Loc):List Nat->Option Sh
 |[]=>none
 |i::p=>bif L.mp then none else L.sh.at p
theorem Loc.Hy{L:Loc}{p:List Nat}{s:Sh}(h:L.at p=some s):L.mp=false:=by
 cases p with
 |nil=>simp[Loc.at]at h
 |cons i p=>cases hm:L.mp<;>simp[Loc.at,hm]at h⊢
theorem Loc.yM{L:Loc}{i:Nat}{p:List Nat}(h:L.mp=false):L.at (i::p)=L.sh.at p:=by simp[Loc.at,h]
def Loc.off(L:Loc):List Nat->Nat
 |[]=>0
 |i::p=>i*L.sh.size+L.sh.off p
abbrev Pl:=Nat->Option Loc
def firstM:List D->Value->Value->Prop
 |[],_,_=>False
 |d::l,k,v=>match Hs d with
  |some (k',v')=>(kv k'=k/\v'=v)\/(kv k'≠k/\firstM l k v)
  |none=>False
structure qZ (s:Sh) (l:List D) (es:Array MapEntry):Prop where
 pure:s.pure=true
 key:∀e∈es.toList,∃kd ks,s.sub 0=some ks/\aL ks kd/\e.key=kv kd
 lR:es.toList.Pairwise (λa b=>a.key≠b.key)
 at_:∀k v,(∃e∈es.toList,e.key=k/\e.val=v)↔firstM l k v
inductive LR (ρ:Pl) (w:World) (T:Nat->Prop):D->Value->Prop where
 |raw (v:Value):v.oneCell'=true->LR ρ w T (.raw v) v
 |ptr (s:Sh) (r:Nat) (p:List Nat) (L:Loc):ρ r=some L->L.at p=some s->LR ρ w T (.ptr s r p) (.pointer (some ⟨L.b,L.off p,none⟩))
 | sl (s : Sh) (r : Nat) (p : List Nat) (off len : Nat) (ex : Bool) (L : Loc) (cap : Nat) : ρ r = some L -> len <= cap -> (ex = true -> cap = len) ->
   ((p=[]/\s=L.sh/\L.mp=false/\(off+cap)*s.size<=L.room)\/∃n,L.at p=some (.ar n s)/\off+cap<=n)->
   LR ρ w T (.sl s r p off len ex) (.slice (some ⟨L.b,L.off p+off*s.size,none⟩) len cap)
 |Bm (s:Sh) (r:Nat) (p:List Nat) (off:Nat) (ex:Bool) (a:Option Addr):LR ρ w T (.sl s r p off 0 ex) (.slice a 0 0)
 | nX (n : Nat) (s : Sh) (r : Nat) (p : List Nat) (off : Nat) (L : Loc) : ρ r = some L -> ((p = [] /\ s = L.sh /\ L.mp = false /\ (off + n) * s.size <= L.room) \/ ∃ m, L.at p = some (.ar m s) /\ off + n <= m) ->
   LR ρ w T (.nX n s r p off) (.pointer (some ⟨L.b,L.off p+off*s.size,none⟩))
 |qC (s:Sh) (ex:Bool) (a:Option Addr) (cap:Nat):(ex=true->cap=0)->(a=none->cap=0)->LR ρ w T (.dh s [] ex) (.slice a 0 cap)
 | dh (s : Sh) (l : List D) (ex : Bool) (b o cap : Nat) (f : Nat -> Value) : (∀ d ∈ l, aL s d) -> T b ->
   (∀i d,(ak l)[i]?=some d->w.cell? ⟨b,o+i,none⟩=some (f i))->(∀i d,(ak l)[i]?=some d->LR ρ w T d (f i))->
   l.length<=cap->(ex=true->cap=l.length)->LR ρ w T (.dh s l ex) (.slice (some ⟨b,o,none⟩) l.length cap)
 | cb (s : Sh) (d : D) (b o : Nat) (f : Nat -> Value) : aL s d -> T b ->
   (∀i x,d.flat[i]?=some x->w.cell? ⟨b,o+i,none⟩=some (f i))->(∀i x,d.flat[i]?=some x->LR ρ w T x (f i))->
   LR ρ w T (.cb d) (.pointer (some ⟨b,o,none⟩))
 |mp (r:Nat) (L:Loc):ρ r=some L->L.mp=true->LR ρ w T (.mp r) (.map (some L.b))
 |Fx (f:Nat) (s:Sh) (r:Nat) (p:List Nat) (L:Loc):ρ r=some L->L.at p=some s->LR ρ w T (.Fx f s r p) (.func (.func f) #[] #[.pointer (some ⟨L.b,L.off p,none⟩)])
 |om (s:Sh) (l:List D) (b:Nat) (es:Array MapEntry) (clock:Nat):(∀d∈l,aL s d)->T b->w.heap[b]?=some (.map es clock)->qZ s l es->LR ρ w T (.om s l) (.map (some b))
theorem LR.Hz{s:Sh}{p:List Nat}{c n:Nat}{L:Loc}(h:(p=[]/\s=L.sh/\L.mp=false/\c<=L.room)\/∃n',L.at p=some (.ar n' s)/\n<=n'):L.mp=false:=by
 rcases h with⟨_,_,h,_⟩|⟨_,h,_⟩
 ·exact h
 ·exact Loc.Hy h
theorem LR.mono{ρ ρ':Pl}{w w':World}{T T':Nat->Prop}{d:D}{v:Value}(h:LR ρ w T d v)(hρ:∀r L,ρ r=some L->ρ' r=some L)
  (hw:∀b,T b->w'.heap[b]?=w.heap[b]?)(hT:∀b,T b->T' b):LR ρ' w' T' d v:=by
 induction h with
 |raw v hv=>exact .raw v hv
 |ptr s r p L hL hp=>exact .ptr s r p L (hρ _ _ hL) hp
 |sl s r p off len ex L cap hL h1 h2 h3=>exact .sl s r p off len ex L cap (hρ _ _ hL) h1 h2 h3
 |Bm s r p off ex a=>exact .Bm s r p off ex a
 |nX n s r p off L hL h1=>exact .nX n s r p off L (hρ _ _ hL) h1
 |qC s ex a cap h1 h2=>exact .qC s ex a cap h1 h2
 |dh s l ex b o cap f h1 hb h2 _ h4 h5 ih=>exact .dh s l ex b o cap f h1 (hT b hb) (λi d hd=>(World.cell?_of_block (a:=⟨b,o+i,none⟩) (hw b hb)).trans (h2 i d hd)) ih h4 h5
 |cb s d b o f h1 hb h2 _ ih=>exact .cb s d b o f h1 (hT b hb) (λi x hx=>(World.cell?_of_block (a:=⟨b,o+i,none⟩) (hw b hb)).trans (h2 i x hx)) ih
 |mp r L h1 h2=>exact .mp r L (hρ _ _ h1) h2
 |Fx f s r p L hL hp=>exact .Fx f s r p L (hρ _ _ hL) hp
 |om s l b es clock h1 hb h2 h3=>exact .om s l b es clock h1 (hT b hb) ((hw b hb).trans h2) h3
theorem LR.one{ρ:Pl}{w:World}{T:Nat->Prop}{d:D}{v:Value}(h:LR ρ w T d v):v.oneCell'=true:=by
 cases h<;>first|assumption|rfl
theorem LR.leaf{ρ:Pl}{w:World}{T:Nat->Prop}{d:D}{v:Value}(h:LR ρ w T d v):d.eZ=true:=by
 cases h<;>first|rfl|(simpa[D.eZ])
def sJ(ρ:Pl)(w:World)(T:Nat->Prop)(d:D)(v:Value):Prop:=
 match d with
 | .agg s l=>∃cs:Array Value,v= .agg cs/\aL s (.agg s l)/\aW (LR ρ w T) (ak l) cs.toList
 |d=>LR ρ w T d v
def VR(ρ:Pl)(w:World)(T:Nat->Prop)(d:D)(v:Value):Prop:=
 match d with
 | .cd l=>∃vs:Array Value,v= .tuple vs/\aW (sJ ρ w T) l vs.toList
 |d=>sJ ρ w T d v
theorem sJ.mono{ρ ρ':Pl}{w w':World}{T T':Nat->Prop}{d:D}{v:Value}(h:sJ ρ w T d v)(hρ:∀r L,ρ r=some L->ρ' r=some L)
  (hw:∀b,T b->w'.heap[b]?=w.heap[b]?)(hT:∀b,T b->T' b):sJ ρ' w' T' d v:=by
 cases d with
 |agg s l=>
  obtain⟨cs,rfl,h1,h2⟩:=h
  exact⟨cs,rfl,h1,h2.mono λa b h=>h.mono hρ hw hT⟩
 | _=>exact LR.mono h hρ hw hT
theorem VR.mono{ρ ρ':Pl}{w w':World}{T T':Nat->Prop}{d:D}{v:Value}(h:VR ρ w T d v)(hρ:∀r L,ρ r=some L->ρ' r=some L)
  (hw:∀b,T b->w'.heap[b]?=w.heap[b]?)(hT:∀b,T b->T' b):VR ρ' w' T' d v:=by
 cases d with
 |cd l=>
  obtain⟨vs,rfl,h1⟩:=h
  exact⟨vs,rfl,h1.mono λa b h=>sJ.mono h hρ hw hT⟩
 |agg s l=>exact sJ.mono (d:= .agg s l) h hρ hw hT
 | _=>exact LR.mono h hρ hw hT
theorem yN{v:Value}(h:v.oneCell'=true):v.cells=#[v]:=by cases v<;>simp_all[Value.oneCell',Value.cells]
theorem VR.cells{ρ:Pl}{w:World}{T:Nat->Prop}{d:D}{v:Value}{s:Sh}(h:VR ρ w T d v)(hf:d.fits s=true):
  aL s d/\aW (LR ρ w T) d.flat v.cells.toList/\(s.isAgg=true->∃cs,v= .agg cs)/\(s.isAgg=false->v.oneCell'=true):=by
 cases d with
 |agg t l=>
  simp[D.fits]at hf
  subst hf
  obtain⟨cs,rfl,h1,h2⟩:=h
  refine⟨h1,by simpa[D.flat,Value.cells]using h2,λ_=>⟨cs,rfl⟩,λha=>?_⟩
  have:=h1.qY ha
  simp[D.eZ]at this
 |cd l=>cases s<;>simp[D.fits]at hf
 |raw x=>
  have h':LR ρ w T (.raw x) v:=h
  have h1:=h'.one
  have hl:=h'.leaf
  cases s<;>simp[D.fits]at hf
  ·exact⟨.leaf _ x hf,by rw[yN h1,cn hl];exact aW.single h',by simp[Sh.isAgg],λ_=>h1⟩
  ·exact⟨.ref _ hl,by rw[yN h1,cn hl];exact aW.single h',by simp[Sh.isAgg],λ_=>h1⟩
 | _=>
  have h':LR ρ w T _ v:=h
  have h1:=h'.one
  have hl:=h'.leaf
  cases s<;>simp[D.fits]at hf
  exact⟨.ref _ hl,by rw[yN h1,cn hl];exact aW.single h',by simp[Sh.isAgg],λ_=>h1⟩
theorem sJ.Pk{ρ:Pl}{w:World}{T:Nat->Prop}{d:D}{s:Sh}{cs:Array Value}(h:aL s d)(ha:s.isAgg=true)(hc:aW (LR ρ w T) d.flat cs.toList):sJ ρ w T d (.agg cs):=by
 obtain⟨l,rfl,_⟩:=h.jX ha
 exact⟨cs,rfl,h,by simpa[D.flat]using hc⟩
theorem sJ.bE{ρ:Pl}{w:World}{T:Nat->Prop}{d:D}{v:Value}(hc:LR ρ w T d v):sJ ρ w T d v:=by
 cases d<;>first|exact hc|cases hc
theorem VR.zP{ρ:Pl}{w:World}{T:Nat->Prop}{d:D}{v:Value}(hc:sJ ρ w T d v):VR ρ w T d v:=by
 cases d<;>first|exact hc|(cases hc)
theorem VR.bE{ρ:Pl}{w:World}{T:Nat->Prop}{d:D}{v:Value}(hc:LR ρ w T d v):VR ρ w T d v:=VR.zP (sJ.bE hc)
theorem VR.raw{ρ:Pl}{w:World}{T:Nat->Prop}{v:Value}(h:v.oneCell'=true):VR ρ w T (.raw v) v:=VR.bE (.raw v h)
theorem VR.ofRaw{ρ:Pl}{w:World}{T:Nat->Prop}{v x:Value}(h:VR ρ w T (.raw x) v):v=x:=by
 have h':LR ρ w T (.raw x) v:=h
 cases h'
 rfl
theorem VR.Bz{ρ:Pl}{w:World}{T:Nat->Prop}{d:D}{v:Value}(h:VR ρ w T d v)(hl:d.eZ=true):LR ρ w T d v:=by
 cases d<;>first|exact h|simp[D.eZ]at hl
def FrOK(n:Nat)(fr:Nat×Nat):Prop:=fr=(0,0)\/n<=fr.1
def py(w:World)(b:Nat)(cur:Array Value)(t:TypeId):Prop:=∃fr,w.heap[b]?=some (.cells cur t fr)/\FrOK cur.size fr
theorem py.same{w w':World}{b:Nat}{cur:Array Value}{t:TypeId}(h:py w b cur t)(hb:w'.heap[b]?=w.heap[b]?):py w' b cur t:=by
 obtain⟨fr,h1,h2⟩:=h
 exact⟨fr,hb.trans h1,h2⟩
theorem py.Z3{w:World}{b:Nat}{cur ra:Array Value}{t t':TypeId}(h:py w b cur t)(h':py w b ra t'):cur=ra/\t=t':=by
 obtain⟨fr,h1,_⟩:=h
 obtain⟨fr',h2,_⟩:=h'
 rw[h1]at h2
 cases h2
 exact⟨rfl,rfl⟩
theorem py.setRow{w:World}{b:Nat}{cur ra:Array Value}{t:TypeId}(h:py w b cur t)(hs:ra.size=cur.size):py (w.setRow b ra) b ra t:=by
 obtain⟨fr,h1,h2⟩:=h
 exact⟨fr,setRow_heap w b cur ra t fr h1,by rw[hs];exact h2⟩
theorem FrOK.not{w:World}{b o:Nat}{cur:Array Value}{t:TypeId}{fr:Nat×Nat}(h1:w.heap[b]?=some (.cells cur t fr))(h2:FrOK cur.size fr)(ho:o<cur.size):w.frozen? ⟨b,o,none⟩=false:=by
 obtain⟨lo,hi⟩:=fr
 rcases h2 with h2|h2
 ·cases h2
  simp[World.frozen?,h1]
 ·simp only[World.frozen?,h1]
  simp at h2
  simp
  omega
def D8(w w':World)(b:Nat):Prop:=∃cur t fr fr',w.heap[b]?=some (.cells cur t fr)/\w'.heap[b]?=some (.cells cur t fr')/\FrOK cur.size fr'
theorem D8.row{w w':World}{b:Nat}{cur:Array Value}{t:TypeId}(h:D8 w w' b)(hr:py w b cur t):py w' b cur t:=by
 obtain⟨c,t',fr,fr',h1,h2,h3⟩:=h
 obtain⟨fr0,h4,_⟩:=hr
 rw[h1]at h4
 cases h4
 exact⟨fr',h2,h3⟩
structure nC (ρ:Pl) (row:Row) (L:Loc) (w:World) (T:Nat->Prop):Prop where
 sh:L.sh=row.sh
 nZ:¬T L.b
 els:∀d∈row.els,aL row.sh d
 cells:L.mp=false->∃cur t,py w L.b cur t/\L.room<=cur.size/\(ak row.els).length<=L.room/\aW (LR ρ w T) (ak row.els) (cur.toList.take (ak row.els).length)
 rb:L.mp=true->∃es clock,w.heap[L.b]?=some (.map es clock)/\qZ row.sh row.els es
def QH(ρ:Pl)(rows:Rows)(w w':World):Prop:=∀b,b<w.heap.size->w'.heap[b]?=w.heap[b]?\/(D8 w w' b/\∃r row L,live rows r=some row/\ρ r=some L/\L.b=b)
structure lA (ρ:Pl) (rows:Rows) (w:World) (T:Nat->Prop):Prop where
 row:∀r row L,live rows r=some row->ρ r=some L->nC ρ row L w T
 lR:∀r r' row row' L L',live rows r=some row->live rows r'=some row'->ρ r=some L->ρ r'=some L'->r≠r'->L.b≠L'.b
theorem nC.lt{ρ:Pl}{row:Row}{L:Loc}{w:World}{T:Nat->Prop}(h:nC ρ row L w T):L.b<w.heap.size:=by
 cases hm:L.mp with
 |false=>
  obtain⟨cur,t,⟨_,hh,_⟩,_⟩:=h.cells hm
  exact(aaR.1 hh).1
 |true=>
  obtain⟨es,clock,hh,_⟩:=h.rb hm
  exact(aaR.1 hh).1
theorem nC.mono{ρ ρ':Pl}{row:Row}{L:Loc}{w w':World}{T T':Nat->Prop}(h:nC ρ row L w T)(hρ:∀r L,ρ r=some L->ρ' r=some L)
  (hw:∀b,T b->w'.heap[b]?=w.heap[b]?)(hT:∀b,T b->T' b)(hb:w'.heap[L.b]?=w.heap[L.b]?)(hn:¬T' L.b):nC ρ' row L w' T':=by
 refine⟨h.sh,hn,h.els,λhm=>?_,λhm=>?_⟩
 ·obtain⟨cur,t,h1,h2,h3,h4⟩:=h.cells hm
  exact⟨cur,t,h1.same hb,h2,h3,h4.mono λa b h=>h.mono hρ hw hT⟩
 ·obtain⟨es,clock,h1,h2⟩:=h.rb hm
  exact⟨es,clock,hb.trans h1,h2⟩
theorem nC.Z4{ρ ρ':Pl}{row:Row}{L:Loc}{w w':World}{T T':Nat->Prop}(h:nC ρ row L w T)(hρ:∀r L,ρ r=some L->ρ' r=some L)
  (hw:∀b,T b->w'.heap[b]?=w.heap[b]?)(hT:∀b,T b->T' b)(hb:w'.heap[L.b]?=w.heap[L.b]?\/D8 w w' L.b)(hn:¬T' L.b):nC ρ' row L w' T':=by
 refine⟨h.sh,hn,h.els,λhm=>?_,λhm=>?_⟩
 ·obtain⟨cur,t,h1,h2,h3,h4⟩:=h.cells hm
  refine⟨cur,t,?_,h2,h3,h4.mono λa b h=>h.mono hρ hw hT⟩
  rcases hb with hb|hb
  ·exact h1.same hb
  ·exact hb.row h1
 ·obtain⟨es,clock,h1,h2⟩:=h.rb hm
  rcases hb with hb|⟨cur,t,fr,fr',h3,_⟩
  ·exact⟨es,clock,hb.trans h1,h2⟩
  ·rw[h1]at h3;cases h3
def HA(ρ:Pl)(w:World)(T:Nat->Prop)(env:Env)(tmps:Array Value):Prop:=∀t d,look env t=some d->VR ρ w T d (tmps.getD t undef)
theorem HA.mono{ρ ρ':Pl}{w w':World}{T T':Nat->Prop}{env:Env}{tmps:Array Value}(h:HA ρ w T env tmps)(hρ:∀r L,ρ r=some L->ρ' r=some L)
  (hw:∀b,T b->w'.heap[b]?=w.heap[b]?)(hT:∀b,T b->T' b):HA ρ' w' T' env tmps:=λt d hd=>(h t d hd).mono hρ hw hT
theorem HA.put{ρ:Pl}{w:World}{T:Nat->Prop}{env:Env}{a:Act}{dst:Option Nat}{d:D}{v:Value}(h:HA ρ w T env a.tmps)(hv:VR ρ w T d v)
  (hd:∀t,dst=some t->t<a.tmps.size):HA ρ w T (Am.put dst d env) (a.put dst v).tmps:=by
 cases dst with
 |none=>exact h
 | some t =>
  intro t' d' hl
  have ht:=hd t rfl
  simp only[Am.put,look]at hl
  simp only[Act.put]
  cases hb:(t==t')with
  |true=>
   have:t=t':=by simpa using hb
   subst this
   simp[hb]at hl
   subst hl
   simpa[Array.getD,ht]using hv
  |false=>
   have hne:t≠t':=by simpa using hb
   simp[hb]at hl
   have:=h t' d' hl
   simpa[Array.getElem?_setIfInBounds,hne]using this
structure Step (ρ:Pl) (T:Nat->Prop) (rows:Rows) (w:World) (ρ':Pl) (T':Nat->Prop) (aa:Rows) (w':World):Prop where
 pl:∀r L,ρ r=some L->ρ' r=some L
 tt:∀b,T b->T' b
 vn:∀b,T' b->T b\/w.heap.size<=b\/∃r row L,live rows r=some row/\ρ r=some L/\L.b=b
 size:w.heap.size<=w'.heap.size
 keep:∀b,b<w.heap.size->(∀r row L,live rows r=some row->ρ r=some L->L.b≠b)->w'.heap[b]?=w.heap[b]?
 fresh:∀r row L,live aa r=some row->ρ' r=some L->(∃r0 wP L0,live rows r0=some wP/\ρ r0=some L0/\L0.b=L.b)\/w.heap.size<=L.b
 os:w'.os=w.os
 tape:w'.tape=w.tape
 output:w'.output=w.output
 len:rows.length<=aa.length
 same:∀r,r<rows.length->ρ' r=ρ r
theorem Step.refl(ρ:Pl)(T:Nat->Prop)(rows:Rows)(w:World):Step ρ T rows w ρ T rows w:=
 ⟨λ_ _ h=>h,λ_ h=>h,λ_ h=> .inl h,aax _,λ_ _ _=>rfl,λr row L h1 h2=> .inl ⟨r,row,L,h1,h2,rfl⟩,rfl,rfl,rfl,aax _,λ_ _=>rfl⟩
theorem Step.trans{ρ ρ' Z5:Pl}{T T' Zv:Nat->Prop}{rows aa HB:Rows}{w w' w'':World}(h:Step ρ T rows w ρ' T' aa w')(h':Step ρ' T' aa w' Z5 Zv HB w''):
  Step ρ T rows w Z5 Zv HB w'':=by
 refine⟨λr L hr=>h'.pl r L (h.pl r L hr),λb hb=>h'.tt b (h.tt b hb),λb hb=>?_,aa3 h.size h'.size,λb hb hn=>?_,λr row L h1 h2=>?_,
  h'.os.trans h.os,h'.tape.trans h.tape,h'.output.trans h.output,aa3 h.len h'.len,λr hr=>(h'.same r (ab2 hr h.len)).trans (h.same r hr)⟩
 ·rcases h'.vn b hb with h1|h1|⟨r,row,L,h1,h2,h3⟩
  ·exact h.vn b h1
  ·exact .inr (.inl (aa3 h.size h1))
  ·rcases h.fresh r row L h1 h2 with⟨r0,wP,L0,h4,h5,h6⟩|h4
   ·exact .inr (.inr ⟨r0,wP,L0,h4,h5,h6.trans h3⟩)
   ·exact .inr (.inl (by omega))
 ·rw[h'.keep b (ab2 hb h.size),h.keep b hb hn]
  intro r row L h1 h2 he
  rcases h.fresh r row L h1 h2 with⟨r0,wP,L0,h3,h4,h5⟩|h3
  ·exact hn r0 wP L0 h3 h4 (h5.trans he)
  ·omega
 ·rcases h'.fresh r row L h1 h2 with⟨r0,wP,L0,h3,h4,h5⟩|h3
  ·rcases h.fresh r0 wP L0 h3 h4 with⟨r1,Gq,L1,h6,h7,h8⟩|h6
   ·exact .inl ⟨r1,Gq,L1,h6,h7,h8.trans h5⟩
   ·exact .inr (h5▸h6)
  ·exact .inr (aa3 h.size h3)
structure eQ (n:Nat) (ρ:Pl) (T:Nat->Prop) (env:Env) (rows:Rows) (a:Act) (w:World):Prop where
 bF:lA ρ rows w T
 env:HA ρ w T env a.tmps
 size:a.tmps.size=n
 w8:∀b,T b->b<w.heap.size
 w9:∀r,rows.length<=r->ρ r=none
 defers:a.defers=[]
theorem eQ.put{n:Nat}{ρ:Pl}{T:Nat->Prop}{env:Env}{rows:Rows}{a:Act}{w:World}(h:eQ n ρ T env rows a w){dst:Option Nat}{d:D}{v:Value}(hv:VR ρ w T d v)
  (hd:∀t,dst=some t->t<n):eQ n ρ T (Am.put dst d env) rows (a.put dst v) w:=
 ⟨h.bF,h.env.put hv (λt ht=>by rw[h.size];exact hd t ht),by cases dst<;>simp[Act.put,h.size],h.w8,h.w9,by cases dst<;>simp[Act.put,h.defers]⟩
def u6(ρ:Pl)(r:Nat)(L:Loc):Pl:=λr'=>if r'=r then some L else ρ r'
theorem HD{ρ:Pl}{r:Nat}{L:Loc}(h:ρ r=none):∀r' L',ρ r'=some L'->u6 ρ r L r'=some L':=by
 intro r' L' h'
 unfold u6
 split
 ·rename_i e;subst e;simp[h]at h'
 ·exact h'
theorem eQ.build{n:Nat}{ρ ρ':Pl}{T:Nat->Prop}{env:Env}{rows aa:Rows}{a:Act}{w w':World}(h:eQ n ρ T env rows a w)(B:Nat)(r0:Nat)(wP:Row)(L0:Loc)
  (hρ:∀r L,ρ r=some L->ρ' r=some L)(hB:¬T B)(Z6:L0.b=B)(hρ0:ρ' r0=some L0)(hsz:w.heap.size<=w'.heap.size)
  (hw:∀b,b≠B->b<w.heap.size->w'.heap[b]?=w.heap[b]?)(hos:w'.os=w.os)(xp:w'.tape=w.tape)(hout:w'.output=w.output)
  (hrow0:nC ρ' wP L0 w' T)(Z7:(∃r row L,live rows r=some row/\ρ r=some L/\L.b=B)\/w.heap.size<=B)
  (zQ:∀r row,live aa r=some row->(r=r0/\row=wP)\/(r≠r0/\live rows r=some row/\∀L,ρ' r=some L->ρ r=some L/\L.b≠B))
  (nD:∀r,aa.length<=r->ρ' r=none)(hlen:rows.length<=aa.length)(hsame:∀r,r<rows.length->ρ' r=ρ r):eQ n ρ' T env aa a w'/\Step ρ T rows w ρ' T aa w':=by
 have hTw:∀b,T b->w'.heap[b]?=w.heap[b]?:=λb hb=>hw b (λe=>hB (e▸hb)) (h.w8 b hb)
 refine⟨⟨⟨?_,?_⟩,h.env.mono hρ hTw (λ_ h=>h),h.size,λb hb=>ab2 (h.w8 b hb) hsz,nD,h.defers⟩,
  ⟨hρ,λ_ h=>h,λ_ h=> .inl h,hsz,?_,?_,hos,xp,hout,hlen,hsame⟩⟩
 ·intro r row L h1 h2
  rcases zQ r row h1 with⟨rfl,rfl⟩|⟨hr,h3,h4⟩
  ·rw[hρ0]at h2;cases h2;exact hrow0
  ·obtain⟨h5,h6⟩:=h4 L h2
   have:=h.bF.row r row L h3 h5
   exact this.mono hρ hTw (λ_ h=>h) (hw _ h6 this.lt) this.nZ
 ·intro r r' row row' L L' h1 h2 h3 h4 hne
  rcases zQ r row h1 with⟨rfl,rfl⟩|⟨hr,h5,h6⟩
  ·rw[hρ0]at h3;cases h3
   rcases zQ r' row' h2 with⟨rfl,rfl⟩|⟨u7,h7,h8⟩
   ·exact absurd rfl hne
   ·rw[Z6];exact λe=>(h8 L' h4).2 e.symm
  ·rcases zQ r' row' h2 with⟨rfl,rfl⟩|⟨u7,h7,h8⟩
   ·rw[hρ0]at h4;cases h4
    rw[Z6];exact(h6 L h3).2
   ·exact h.bF.lR r r' row row' L L' h5 h7 (h6 L h3).1 (h8 L' h4).1 hne
 ·intro b hb hn
  refine hw b ?_ hb
  rintro rfl
  rcases Z7 with⟨r,row,L,h1,h2,h3⟩|h1
  ·exact hn r row L h1 h2 h3
  ·omega
 ·intro r row L h1 h2
  rcases zQ r row h1 with⟨rfl,rfl⟩|⟨hr,h3,h4⟩
  ·rw[hρ0]at h2;cases h2
   rcases Z7 with⟨r,row,L,h1,h2,h3⟩|h1
   ·exact .inl ⟨r,row,L,h1,h2,by rw[h3,Z6]⟩
   ·exact .inr (by rw[Z6];exact h1)
  ·exact .inl ⟨r,row,L,h3,(h4 L h2).1,rfl⟩
theorem eQ.heap{n:Nat}{ρ:Pl}{T:Nat->Prop}{env:Env}{rows:Rows}{a:Act}{w w':World}(h:eQ n ρ T env rows a w)(hh:w'.heap=w.heap):eQ n ρ T env rows a w':=by
 have hT:∀b,T b->w'.heap[b]?=w.heap[b]?:=λb _=>by rw[hh]
 refine⟨⟨λr row L h1 h2=>?_,h.bF.lR⟩,h.env.mono (λ_ _ h=>h) hT (λ_ h=>h),h.size,λb hb=>by rw[hh];exact h.w8 b hb,h.w9,h.defers⟩
 exact(h.bF.row r row L h1 h2).mono (λ_ _ h=>h) hT (λ_ h=>h) (by rw[hh]) (h.bF.row r row L h1 h2).nZ
theorem v8(rows:Rows)(row:Row):live (rows++[some row]) rows.length=some row:=by simp[live]
theorem sQ{rows:Rows}{row row':Row}{r:Nat}(h:live (rows++[some row']) r=some row):(r=rows.length/\row=row')\/(r<rows.length/\live rows r=some row):=by
 unfold live at h⊢
 rcases adG r rows.length with h1|h1|h1
 ·right
  rw[aaM h1]at h
  exact⟨h1,h⟩
 ·left
  subst h1
  simp at h
  exact⟨rfl,h.symm⟩
 ·rw[aaO (by omega)]at h
  have:r-rows.length≠0:=by omega
  obtain⟨k,hk⟩:=Nat.exists_eq_succ_of_ne_zero this
  rw[hk]at h
  simp at h
theorem aR{rows:Rows}{r:Nat}{row:Row}(h:live rows r=some row):r<rows.length:=by
 unfold live at h
 split at h
 ·rename_i hh;exact dj hh
 ·cases h
theorem BA{rows:Rows}{x:Option Row}{r r':Nat}{row:Row}(h:live (rows.set r x) r'=some row):(r'=r/\x=some row)\/(r'≠r/\live rows r'=some row):=by
 unfold live at h⊢
 rw[acT]at h
 by_cases hr:r=r'
 ·subst hr
  left
  simp only[abR]at h
  by_cases hl:r<rows.length
  ·simp only[hl,abR]at h
   cases x with
   |none=>simp at h
   |some y=>simp at h;exact⟨rfl,by rw[h]⟩
  ·simp[hl]at h
 ·right
  simp only[hr,abP]at h
  exact⟨λe=>hr e.symm,h⟩
theorem o9{rows:Rows}{r:Nat}{row row':Row}(h:live rows r=some row):live (rows.set r (some row')) r=some row':=by
 simp[live,aR h]
theorem eQ.push{n:Nat}{ρ:Pl}{T:Nat->Prop}{env:Env}{rows:Rows}{a:Act}{w w':World}(h:eQ n ρ T env rows a w)(row:Row)(cur:Array Value)(t:TypeId)
  (hw':w'.heap=w.heap.push (.cells cur t))(hos:w'.os=w.os)(xp:w'.tape=w.tape)(hout:w'.output=w.output)
  (gR:∀d∈row.els,aL row.sh d)(hlen:(ak row.els).length<=cur.size)(hc:aW (LR ρ w T) (ak row.els) (cur.toList.take (ak row.els).length)):
  eQ n (u6 ρ rows.length ⟨w.heap.size,row.sh,cur.size,false⟩) T env (rows++[some row]) a w'/\Step ρ T rows w (u6 ρ rows.length ⟨w.heap.size,row.sh,cur.size,false⟩) T (rows++[some row]) w':=by
 have hnT:¬T w.heap.size:=λhT=>Nat.lt_irrefl _ (h.w8 _ hT)
 have HE:=HD (L:=(⟨w.heap.size,row.sh,cur.size,false⟩:Loc)) (h.w9 rows.length (aax _))
 have hold:∀b,b≠w.heap.size->b<w.heap.size->w'.heap[b]?=w.heap[b]?:=by
  intro b hb _
  rw[hw',ac2,aaC hb]
 refine h.build w.heap.size rows.length row ⟨w.heap.size,row.sh,cur.size,false⟩ HE hnT rfl (by simp[u6]) (by simp[hw']) hold hos xp hout ?_ (.inr (aax _)) ?_ ?_ (by simp) (λr hr=>by unfold u6;rw[aaC (by omega)])
 ·exact⟨rfl,hnT,gR,λ_=>⟨cur,t,⟨(0,0),by simp[hw'],.inl rfl⟩,aax _,hlen,hc.mono λa b h'=>h'.mono HE (λb hb=>hold b (λe=>hnT (e▸hb)) (h.w8 b hb)) (λ_ h=>h)⟩,λh=>by cases h⟩
 ·intro r row' hl
  rcases sQ hl with⟨rfl,rfl⟩|⟨h1,h2⟩
  ·exact .inl ⟨rfl,rfl⟩
  ·refine .inr ⟨by omega,h2,λL hL=>?_⟩
   have:ρ r=some L:=by
    unfold u6 at hL
    rw[aaC (by omega)]at hL
    exact hL
   exact⟨this,λe=>by have:=(h.bF.row r row' L h2 this).lt;omega⟩
 ·intro r hr
  simp at hr
  unfold u6
  rw[aaC (by omega)]
  exact h.w9 r (by omega)
theorem eQ.write{n:Nat}{ρ:Pl}{T:Nat->Prop}{env:Env}{rows:Rows}{a:Act}{w:World}(h:eQ n ρ T env rows a w){r:Nat}{row:Row}{L:Loc}(hl:live rows r=some row)(hL:ρ r=some L)
  (els:List D)(cur ra:Array Value)(t:TypeId)(hmp:L.mp=false)(Sr:py w L.b cur t)(hsz:ra.size=cur.size)(gR:∀d∈els,aL row.sh d)
  (hlen:(ak els).length<=L.room)(hc:aW (LR ρ w T) (ak els) (ra.toList.take (ak els).length)):
  eQ n ρ T env (rows.set r (some ⟨row.sh,els⟩)) a (w.setRow L.b ra)/\Step ρ T rows w ρ T (rows.set r (some ⟨row.sh,els⟩)) (w.setRow L.b ra):=by
 have hrow:=h.bF.row r row L hl hL
 have hold:∀b,b≠L.b->b<w.heap.size->(w.setRow L.b ra).heap[b]?=w.heap[b]?:=λb hb _=>setRow_other w L.b b ra hb
 obtain⟨cur0,t0,hc0,hroom,_,_⟩:=hrow.cells hmp
 obtain⟨rfl,rfl⟩:=Sr.Z3 hc0
 refine h.build L.b r ⟨row.sh,els⟩ L (λ_ _ h=>h) hrow.nZ rfl hL (by simp) hold rfl rfl rfl ?_ (.inl ⟨r,row,L,hl,hL,rfl⟩) ?_ ?_ (by simp) (λ_ _=>rfl)
 ·exact⟨hrow.sh,hrow.nZ,gR,λ_=>⟨ra,t,Sr.setRow hsz,by omega,hlen,
   hc.mono λa b h'=>h'.mono (λ_ _ h=>h) (λb hb=>hold b (λe=>hrow.nZ (e▸hb)) (h.w8 b hb)) (λ_ h=>h)⟩,λhm=>by rw[hmp]at hm;cases hm⟩
 ·intro r' row' nA
  rcases BA nA with⟨rfl,he⟩|⟨h1,h2⟩
  ·cases he;exact .inl ⟨rfl,rfl⟩
  ·exact .inr ⟨h1,h2,λL' M5=>⟨M5,h.bF.lR r' r row' row L' L h2 hl M5 hL h1⟩⟩
 ·intro r' u7
  simp at u7
  exact h.w9 r' u7
theorem eQ.kill{n:Nat}{ρ:Pl}{T:Nat->Prop}{env:Env}{rows:Rows}{a:Act}{w:World}(h:eQ n ρ T env rows a w)(r:Nat):
  eQ n ρ T env (rows.set r none) a w/\Step ρ T rows w ρ T (rows.set r none) w:=by
 have hk:∀r' row,live (rows.set r none) r'=some row->live rows r'=some row:=by
  intro r' row hl
  rcases BA hl with⟨_,he⟩|⟨_,h2⟩
  ·cases he
  ·exact h2
 refine⟨⟨⟨λr' row L h1 h2=>h.bF.row r' row L (hk _ _ h1) h2,λr1 r2 Gq sK L1 L2 h1 h2=>h.bF.lR r1 r2 Gq sK L1 L2 (hk _ _ h1) (hk _ _ h2)⟩,h.env,h.size,h.w8,λr' u7=>h.w9 r' (by simpa using u7),h.defers⟩,?_⟩
 exact⟨λ_ _ h=>h,λ_ h=>h,λ_ h=> .inl h,aax _,λ_ _ _=>rfl,λr' row L h1 h2=> .inl ⟨r',row,L,hk _ _ h1,h2,rfl⟩,rfl,rfl,rfl,by simp,λ_ _=>rfl⟩
theorem eQ.move{n:Nat}{ρ:Pl}{T:Nat->Prop}{env:Env}{rows:Rows}{a:Act}{w:World}(h:eQ n ρ T env rows a w){r:Nat}{row:Row}{L:Loc}(hl:live rows r=some row)(hL:ρ r=some L)
  (els:List D)(cur ra:Array Value)(t:TypeId)(hmp:L.mp=false)(Sr:py w L.b cur t)(hsz:ra.size=cur.size)(gR:∀d∈els,aL row.sh d)
  (hlen:(ak els).length<=L.room)(hc:aW (LR ρ w T) (ak els) (ra.toList.take (ak els).length)):
  eQ n (u6 ρ rows.length L) T env (rows.set r none++[some ⟨row.sh,els⟩]) a (w.setRow L.b ra)/\Step ρ T rows w (u6 ρ rows.length L) T (rows.set r none++[some ⟨row.sh,els⟩]) (w.setRow L.b ra):=by
 have hrow:=h.bF.row r row L hl hL
 have hold:∀b,b≠L.b->b<w.heap.size->(w.setRow L.b ra).heap[b]?=w.heap[b]?:=λb hb _=>setRow_other w L.b b ra hb
 have HE:=HD (L:=L) (h.w9 rows.length (aax _))
 obtain⟨cur0,t0,hc0,hroom,_,_⟩:=hrow.cells hmp
 obtain⟨rfl,rfl⟩:=Sr.Z3 hc0
 refine h.build L.b rows.length ⟨row.sh,els⟩ L HE hrow.nZ rfl (by simp[u6]) (by simp) hold rfl rfl rfl ?_ (.inl ⟨r,row,L,hl,hL,rfl⟩) ?_ ?_ (by simp) (λr hr=>by unfold u6;rw[aaC (by omega)])
 ·exact⟨hrow.sh,hrow.nZ,gR,λ_=>⟨ra,t,Sr.setRow hsz,by omega,hlen,
   hc.mono λa b h'=>h'.mono HE (λb hb=>hold b (λe=>hrow.nZ (e▸hb)) (h.w8 b hb)) (λ_ h=>h)⟩,λhm=>by rw[hmp]at hm;cases hm⟩
 ·intro r' row' nA
  rcases sQ nA with⟨h1,rfl⟩|⟨h1,h2⟩
  ·exact .inl ⟨by simpa using h1,rfl⟩
  ·simp at h1
   rcases BA h2 with⟨_,he⟩|⟨h3,h4⟩
   ·cases he
   ·refine .inr ⟨by omega,h4,λL' M5=>?_⟩
    have hL'':ρ r'=some L':=by
     unfold u6 at M5
     rw[aaC (by omega)]at M5
     exact M5
    exact⟨hL'',h.bF.lR r' r row' row L' L h4 hl hL'' hL h3⟩
 ·intro r' u7
  simp at u7
  unfold u6
  rw[aaC (by omega)]
  exact h.w9 r' (by omega)
theorem eQ.grow{n:Nat}{ρ:Pl}{T:Nat->Prop}{env:Env}{rows:Rows}{a:Act}{w w':World}(h:eQ n ρ T env rows a w)(o:Obj)
  (hw':w'.heap=w.heap.push o)(hos:w'.os=w.os)(xp:w'.tape=w.tape)(hout:w'.output=w.output):
  eQ n ρ (λb=>T b\/b=w.heap.size) env rows a w'/\Step ρ T rows w ρ (λb=>T b\/b=w.heap.size) rows w':=by
 have hold:∀b,b<w.heap.size->w'.heap[b]?=w.heap[b]?:=by
  intro b hb
  rw[hw',ac2,aaC (by omega)]
 have hT:∀b,T b->w'.heap[b]?=w.heap[b]?:=λb hb=>hold b (h.w8 b hb)
 refine⟨⟨⟨λr row L h1 h2=>?_,h.bF.lR⟩,h.env.mono (λ_ _ h=>h) hT (λ_ h=> .inl h),h.size,?_,h.w9,h.defers⟩,
  ⟨λ_ _ h=>h,λ_ h=> .inl h,?_,by simp[hw'],λb hb _=>hold b hb,λr row L h1 h2=> .inl ⟨r,row,L,h1,h2,rfl⟩,hos,xp,hout,aax _,λ_ _=>rfl⟩⟩
 ·have hr:=h.bF.row r row L h1 h2
  refine hr.mono (λ_ _ h=>h) hT (λ_ h=> .inl h) (hold _ hr.lt) ?_
  rintro(h3|h3)
  ·exact hr.nZ h3
  ·have:=hr.lt;omega
 ·rintro b (h1|h1)
  ·have:=h.w8 b h1;simp[hw'];omega
  ·simp[hw'];omega
 ·rintro b (h1|h1)
  ·exact .inl h1
  ·exact .inr (.inl (by omega))
theorem eQ.pushMap{n:Nat}{ρ:Pl}{T:Nat->Prop}{env:Env}{rows:Rows}{a:Act}{w w':World}(h:eQ n ρ T env rows a w)(s:Sh)(hp:s.pure=true)
  (hw':w'.heap=w.heap.push (.map #[] 0))(hos:w'.os=w.os)(xp:w'.tape=w.tape)(hout:w'.output=w.output):
  eQ n (u6 ρ rows.length ⟨w.heap.size,s,0,true⟩) T env (rows++[some ⟨s,[]⟩]) a w'/\Step ρ T rows w (u6 ρ rows.length ⟨w.heap.size,s,0,true⟩) T (rows++[some ⟨s,[]⟩]) w':=by
 have hnT:¬T w.heap.size:=λhT=>Nat.lt_irrefl _ (h.w8 _ hT)
 have HE:=HD (L:=(⟨w.heap.size,s,0,true⟩:Loc)) (h.w9 rows.length (aax _))
 have hold:∀b,b≠w.heap.size->b<w.heap.size->w'.heap[b]?=w.heap[b]?:=by
  intro b hb _
  rw[hw',ac2,aaC hb]
 refine h.build w.heap.size rows.length ⟨s,[]⟩ ⟨w.heap.size,s,0,true⟩ HE hnT rfl (by simp[u6]) (by simp[hw']) hold hos xp hout ?_ (.inr (aax _)) ?_ ?_ (by simp) (λr hr=>by unfold u6;rw[aaC (by omega)])
 ·refine⟨rfl,hnT,λ_ hd=>by simp at hd,λhm=>(by cases hm),λ_=>⟨#[],0,by simp[hw'],⟨hp,λe he=>by simp at he,by simp,λk v=>?_⟩⟩⟩
  simp[firstM]
 ·intro r row' hl
  rcases sQ hl with⟨rfl,rfl⟩|⟨h1,h2⟩
  ·exact .inl ⟨rfl,rfl⟩
  ·refine .inr ⟨by omega,h2,λL hL=>?_⟩
   have:ρ r=some L:=by
    unfold u6 at hL
    rw[aaC (by omega)]at hL
    exact hL
   exact⟨this,λe=>by have:=(h.bF.row r row' L h2 this).lt;omega⟩
 ·intro r hr
  simp at hr
  unfold u6
  rw[aaC (by omega)]
  exact h.w9 r (by omega)
theorem eQ.Z8{n:Nat}{ρ:Pl}{T:Nat->Prop}{env:Env}{rows:Rows}{a:Act}{w w':World}(h:eQ n ρ T env rows a w){r:Nat}{row:Row}{L:Loc}(hl:live rows r=some row)(hL:ρ r=some L)
  (els:List D)(es:Array MapEntry)(clock:Nat)(hmp:L.mp=true)(gR:∀d∈els,aL row.sh d)(hR:qZ row.sh els es)
  (hb:w'.heap[L.b]?=some (.map es clock))(hold:∀b,b≠L.b->w'.heap[b]?=w.heap[b]?)(hsz:w'.heap.size=w.heap.size)(hos:w'.os=w.os)(xp:w'.tape=w.tape)(hout:w'.output=w.output):
  eQ n ρ T env (rows.set r (some ⟨row.sh,els⟩)) a w'/\Step ρ T rows w ρ T (rows.set r (some ⟨row.sh,els⟩)) w':=by
 have hrow:=h.bF.row r row L hl hL
 refine h.build L.b r ⟨row.sh,els⟩ L (λ_ _ h=>h) hrow.nZ rfl hL (by omega) (λb hb _=>hold b hb) hos xp hout ?_ (.inl ⟨r,row,L,hl,hL,rfl⟩) ?_ ?_ (by simp) (λ_ _=>rfl)
 ·exact⟨hrow.sh,hrow.nZ,gR,λhm=>(by rw[hmp]at hm;cases hm),λ_=>⟨es,clock,hb,hR⟩⟩
 ·intro r' row' nA
  rcases BA nA with⟨rfl,he⟩|⟨h1,h2⟩
  ·cases he;exact .inl ⟨rfl,rfl⟩
  ·exact .inr ⟨h1,h2,λL' M5=>⟨M5,h.bF.lR r' r row' row L' L h2 hl M5 hL h1⟩⟩
 ·intro r' u7
  simp at u7
  exact h.w9 r' u7
theorem Step.tnew0{ρ ρ':Pl}{T T':Nat->Prop}{aa:Rows}{w w':World}(h:Step ρ T [] w ρ' T' aa w'):∀b,T' b->T b\/w.heap.size<=b:=by
 intro b hb
 rcases h.vn b hb with h1|h1|⟨r,row,L,h1,_⟩
 ·exact .inl h1
 ·exact .inr h1
 ·simp[live]at h1
theorem eQ.mark{n:Nat}{ρ:Pl}{T:Nat->Prop}{env:Env}{rows:Rows}{a:Act}{w w':World}{r:Nat}{row:Row}{L:Loc}(h:eQ n ρ T env rows a w)(hl:live rows r=some row)(hL:ρ r=some L)
  (hsz:w'.heap.size=w.heap.size)(hw:∀b,b≠L.b->w'.heap[b]?=w.heap[b]?)(qJ:D8 w w' L.b)(hos:w'.os=w.os)(xp:w'.tape=w.tape)(hout:w'.output=w.output):
  eQ n ρ T env rows a w'/\Step ρ T rows w ρ T rows w':=by
 have hr:=h.bF.row r row L hl hL
 have hT:∀b,T b->w'.heap[b]?=w.heap[b]?:=λb hb=>hw b (λe=>hr.nZ (e▸hb))
 refine⟨⟨⟨λr' row' L' h1 h2=>?_,h.bF.lR⟩,h.env.mono (λ_ _ h=>h) hT (λ_ h=>h),h.size,λb hb=>by rw[hsz];exact h.w8 b hb,h.w9,h.defers⟩,
  ⟨λ_ _ h=>h,λ_ h=>h,λ_ h=> .inl h,by omega,λb hb hn=>hw b (λe=>hn r row L hl hL e.symm),λr' row' L' h1 h2=> .inl ⟨r',row',L',h1,h2,rfl⟩,hos,xp,hout,aax _,λ_ _=>rfl⟩⟩
 have u7:=h.bF.row r' row' L' h1 h2
 refine u7.Z4 (λ_ _ h=>h) hT (λ_ h=>h) ?_ u7.nZ
 by_cases e:L'.b=L.b
 ·rw[e];exact .inr qJ
 ·exact .inl (hw _ e)
end Go.Am
namespace Go.Am
theorem aW.seg{α β:Type}{R:α->β->Prop}{pre m post:List α}{cur:List β}{N:Nat}(h:aW R (pre++(m++post)) (cur.take N)):
  aW R m ((cur.drop pre.length).take m.length)/\pre.length+m.length<=cur.length:=by
 have hl:=h.len
 simp only[aap,aau]at hl
 have h1:=(h.drop pre.length).take m.length
 rw[aa9,aaW]at h1
 refine⟨?_,by omega⟩
 have:((cur.take N).drop pre.length).take m.length=(cur.drop pre.length).take m.length:=by
  rw[ad3,aco,abI (by omega)]
 rwa [this]at h1
theorem nE(b o j:Nat):(⟨b,o,none⟩:Addr).add j=⟨b,o+j,none⟩:=by
 unfold Addr.add
 split
 ·rename_i h;subst h;rfl
 ·rfl
def At(w:World)(b o:Nat)(cs:List Value):Prop:=∀(j:Nat) (x:Value),cs[j]?=some x->w.cell? ⟨b,o+j,none⟩=some x
theorem At.take{w:World}{b o:Nat}{cs:List Value}(h:At w b o cs)(n:Nat):At w b o (cs.take n):=by
 intro j x hx
 rw[abi]at hx
 split at hx
 ·exact h j x hx
 ·cases hx
theorem At.drop{w:World}{b o:Nat}{cs:List Value}(h:At w b o cs)(n:Nat):At w b (o+n) (cs.drop n):=by
 intro j x hx
 rw[aa5]at hx
 rw[abO]
 exact h _ x hx
theorem Ss{w:World}{b o n:Nat}{cur:Array Value}{t:TypeId}(hg:py w b cur t):At w b o ((cur.toList.drop o).take n):=by
 obtain⟨fr,hg,_⟩:=hg
 intro j x hx
 rw[abi]at hx
 split at hx
 ·rw[aa5]at hx
  rw[cell_of_row w b (o+j) cur t fr hg]
  simpa using hx
 ·cases hx
variable {C:aU} {P:Program} {n:Nat} {ρ:Pl} {T:Nat->Prop} {env:Env} {rows:Rows} {a:Act} {w:World}
theorem lA.M6(h:lA ρ rows w T){s:Sh}{r:Nat}{p:List Nat}{v:Value}{row:Row}{d:D}(hv:LR ρ w T (.ptr s r p) v)(hl:live rows r=some row)(hg:cM row.els p=some d):
  ∃b o cs,v= .pointer (some ⟨b,o,none⟩)/\aL s d/\aW (LR ρ w T) d.flat cs/\At w b o cs:=by
 cases hv with
 | ptr _ _ _ L hL hp =>
  have hr:=h.row r row L hl hL
  obtain⟨cur,t,h1,h2,h3,h4⟩:=hr.cells (Loc.Hy hp)
  cases p with
  |nil=>simp[Loc.at]at hp
  |cons i p=>
   rw[Loc.yM (Loc.Hy hp),hr.sh]at hp
   obtain⟨h5,h6,pre,post,h7,h8⟩:=xn hr.els hp hg
   rw[h7]at h4
   have h9:=h4.seg
   refine⟨L.b,L.off (i::p),_,rfl,h5,h9.1,?_⟩
   have he:L.off (i::p)=pre.length:=by simp[Loc.off,hr.sh,h8]
   rw[he]
   exact Ss h1
theorem BB{d:D}{ls:List D}{b o:Nat}{f:Nat->Value}(h1:∀i d,ls[i]?=some d->w.cell? ⟨b,o+i,none⟩=some (f i))(h2:∀i d,ls[i]?=some d->LR ρ w T d (f i)):
  aW (LR ρ w T) ls ((List.range ls.length).map f)/\At w b o ((List.range ls.length).map f):=by
 refine⟨⟨by simp,λi x y hx hy=>?_⟩,λj x hx=>?_⟩
 ·simp only[abl]at hy
  rw[adx (dj hx)]at hy
  simp at hy
  subst hy
  exact h2 i x hx
 ·have hj:=dj hx
  simp at hj
  simp only[abl,adx hj]at hx
  simp at hx
  subst hx
  exact h1 j _ (aao hj)
theorem LR.BC{d:D}{v:Value}(hv:LR ρ w T (.cb d) v):∃b o cs s,v= .pointer (some ⟨b,o,none⟩)/\aL s d/\T b/\aW (LR ρ w T) d.flat cs/\At w b o cs:=by
 cases hv with
 |cb s d b o f h1 hb h2 h3=>exact⟨b,o,_,s,rfl,h1,hb,(BB (d:=d) h2 h3).1,(BB (d:=d) h2 h3).2⟩
theorem LR.AE{d:D}{b o:Nat}{cs:List Value}{s:Sh}(h1:aL s d)(hb:T b)(h2:aW (LR ρ w T) d.flat cs)(h3:At w b o cs):LR ρ w T (.cb d) (.pointer (some ⟨b,o,none⟩)):=by
 refine .cb s d b o (λi=>cs.getD i undef) h1 hb (λi x hx=>?_) (λi x hx=>?_)
 ·obtain⟨y,hy,_⟩:=h2.some hx
  rw[h3 i y hy]
  simp[List.getD,hy]
 ·obtain⟨y,hy,hr⟩:=h2.some hx
  simpa[List.getD,hy]using hr
theorem LR.Pm{l:List D}{b o cap:Nat}{cs:List Value}{s:Sh}{ex:Bool}(h1:∀d∈l,aL s d)(hb:T b)(h2:aW (LR ρ w T) (ak l) cs)(h3:At w b o cs)
  (h4:l.length<=cap)(h5:ex=true->cap=l.length):LR ρ w T (.dh s l ex) (.slice (some ⟨b,o,none⟩) l.length cap):=by
 refine .dh s l ex b o cap (λi=>cs.getD i undef) h1 hb (λi x hx=>?_) (λi x hx=>?_) h4 h5
 ·obtain⟨y,hy,_⟩:=h2.some hx
  rw[h3 i y hy]
  simp[List.getD,hy]
 ·obtain⟨y,hy,hr⟩:=h2.some hx
  simpa[List.getD,hy]using hr
def Su(ρ:Pl)(T:Nat->Prop)(rows:Rows)(b:Nat):Prop:=T b\/∃r row L,live rows r=some row/\ρ r=some L/\L.b=b
structure Ln (rows:Rows) (ρ:Pl) (w:World) (T:Nat->Prop) (s:Sh) (l:List D) (v:Value) (k:Nat) (ad:Option Addr) (cap:Nat) (cs:List Value):Prop where
 hv:v= .slice ad k cap
 els:∀d∈l,aL s d
 len:l.length=k
 hcap:k<=cap
 hcs:aW (LR ρ w T) (ak l) cs
 at_:∀(j:Nat) (x:Value),cs[j]?=some x->∃b o,ad=some ⟨b,o,none⟩/\w.cell? ⟨b,o+j,none⟩=some x
 nil:ad=none->cap=0
 adr:k≠0->∃b o,ad=some ⟨b,o,none⟩/\Su ρ T rows b
theorem vo{s:Sh}{l:List D}{off len:Nat}(h:∀d∈l,aL s d)(hl:off+len<=l.length):
  ∃pre post,ak l=pre++(ak ((l.drop off).take len)++post)/\pre.length=off*s.size:=by
 refine⟨ak (l.take off),ak ((l.drop off).drop len),?_,?_⟩
 ·rw[<-ei,abj,<-ei,abj]
 ·rw[be (λd hd=>h d (aaY hd)),aau,abI (by omega)]
theorem lA.holds(h:lA ρ rows w T){s:Sh}{d:D}{v:Value}{l:List D}{k:Nat}(hv:LR ρ w T d v)(he:elems rows d=some l)(hk:dW d=some k)(KC:l.length=k)(hs:fg s d=true):
  ∃ad cap cs,Ln rows ρ w T s l v k ad cap cs:=by
 cases hv with
 | raw v hv =>
  cases v with
  |slice a len cap=>
   cases a<;>cases len<;>cases cap<;>simp[elems,dW]at he hk
   subst he;subst hk
   exact⟨none,0,[],rfl,by simp,rfl,aax _,by simpa[ak]using aW.nil,by simp,λ_=>rfl,by simp⟩
  | _=>simp[elems]at he
 |ptr _ _ _ _ _ _=>simp[elems]at he
 |cb _ _ _ _ _ _ _ _ _=>simp[elems]at he
 |nX _ _ _ _ _ _ _ _=>simp[elems]at he
 |Fx=>simp[elems]at he
 |mp=>simp[elems]at he
 |om=>simp[elems]at he
 |Bm t r p off ex ad=>
  simp[dW]at hk
  subst hk
  have Sv:l=[]:=aaF KC
  subst Sv
  exact⟨ad,0,[],rfl,by simp,rfl,aax _,by simpa[ak]using aW.nil,by simp,λ_=>rfl,by simp⟩
 |qC t ex ad cap h1 h2=>
  simp[elems,dW]at he hk
  subst he;subst hk
  exact⟨ad,cap,[],rfl,by simp,rfl,by omega,by simpa[ak]using aW.nil,by simp,h2,by simp⟩
 |dh t l' ex b o cap f h1 hb h2 h3 h4 h5=>
  simp[elems,dW]at he hk
  subst he;subst hk
  simp[fg]at hs
  subst hs
  obtain⟨h6,h7⟩:=BB (d:=default) h2 h3
  exact⟨some ⟨b,o,none⟩,cap,_,rfl,h1,rfl,h4,h6,λj x hx=>⟨b,o,rfl,h7 j x hx⟩,by simp,λ_=>⟨b,o,rfl,.inl hb⟩⟩
 | sl t r p off len ex L cap hL h1 h2 h3 =>
  simp[dW]at hk
  subst hk
  simp[fg]at hs
  subst hs
  cases p with
  | nil =>
   simp only[elems]at he
   cases hl:live rows r with
   |none=>simp[hl]at he
   | some row =>
    simp[hl]at he
    subst he
    have hr:=h.row r row L hl hL
    obtain⟨cur,t',g1,g2,g3,g4⟩:=hr.cells (LR.Hz h3)
    have hsh:s=row.sh:=by
     rcases h3 with⟨_,h3,_⟩|⟨n,h3,_⟩
     ·rw[h3,hr.sh]
     ·simp[Loc.at]at h3
    subst hsh
    have gR:∀d∈(row.els.drop off).take len,aL row.sh d:=λd hd=>hr.els d (abQ (aaY hd))
    by_cases hz:len=0
    ·subst hz
     exact⟨_,cap,[],rfl,gR,KC,h1,by simpa[ak]using aW.nil,by simp,by simp,by simp⟩
    ·simp only[aau,aat]at KC
     obtain⟨pre,post,g5,g6⟩:=vo (off:=off) (len:=len) hr.els (by omega)
     rw[g5]at g4
     have g7:=g4.seg
     refine⟨_,cap,_,rfl,gR,by simp;omega,h1,g7.1,λj x hx=>⟨L.b,_,rfl,?_⟩,by simp,λ_=>⟨L.b,_,rfl,.inr ⟨r,row,L,hl,hL,rfl⟩⟩⟩
     have:=Ss (o:=pre.length) (n:=(ak ((row.els.drop off).take len)).length) g1 j x hx
     simpa[Loc.off,g6]using this
  | cons i p =>
   simp only[elems]at he
   cases hl:live rows r with
   |none=>simp[hl]at he
   | some row =>
    simp only[hl]at he
    have hr:=h.row r row L hl hL
    obtain⟨cur,t',g1,g2,g3,g4⟩:=hr.cells (LR.Hz h3)
    rcases h3 with⟨h3,_⟩|⟨m,h3,h4⟩
    ·simp at h3
    ·rw[Loc.yM (Loc.Hy h3),hr.sh]at h3
     cases hg:cM row.els (i::p)with
     |none=>simp[hg]at he
     | some d =>
      obtain⟨g5,g6,pre,post,g7,g8⟩:=xn hr.els h3 hg
      obtain⟨l',rfl,nA,fK⟩:=g5.jX rfl
      simp[hg]at he
      subst he
      have bW:∀d∈l',aL s d:=by
       intro d hd
       obtain⟨q,hq,rfl⟩:=aa0.1 hd
       exact fK q s _ (by simp[Sh.sub];simp[Sh.count]at nA;omega) (aao hq)
      have gR:∀d∈(l'.drop off).take len,aL s d:=λd hd=>bW d (abQ (aaY hd))
      by_cases hz:len=0
      ·subst hz
       exact⟨_,cap,[],rfl,gR,KC,h1,by simpa[ak]using aW.nil,by simp,by simp,by simp⟩
      ·simp only[aau,aat]at KC
       obtain⟨Pn,Po,g9,g10⟩:=vo (off:=off) (len:=len) bW (by omega)
       simp only[D.flat]at g7
       rw[g7,g9]at g4
       have e:pre++(Pn++(ak ((l'.drop off).take len)++Po)++post)=(pre++Pn)++(ak ((l'.drop off).take len)++(Po++post)):=by simp
       rw[e]at g4
       have g11:=g4.seg
       refine⟨_,cap,_,rfl,gR,by simp;omega,h1,g11.1,λj x hx=>⟨L.b,_,rfl,?_⟩,by simp,λ_=>⟨L.b,_,rfl,.inr ⟨r,row,L,hl,hL,rfl⟩⟩⟩
       have:=Ss (o:=(pre++Pn).length) (n:=(ak ((l'.drop off).take len)).length) g1 j x hx
       simpa[Loc.off,hr.sh,g8,g10]using this
theorem Ln.first{s:Sh}{l:List D}{v:Value}{k cap:Nat}{ad:Option Addr}{cs:List Value}(h:Ln rows ρ w T s l v k ad cap cs){w':World}(hw:w'.heap=w.heap)(m:Nat)(hm:m<=k):
  (Builtin.firstCells s.size m v).run P w'= .ok (cs.take (m*s.size)).toArray w':=by
 have hl:cs.length=k*s.size:=by rw[<-h.hcs.len,be h.els,h.len]
 have hlt:(cs.take (m*s.size)).length=m*s.size:=by
  rw[aau,hl]
  exact abI (abB _ hm)
 have hcell:∀ad,w'.cell? ad=w.cell? ad:=λad=>World.cell?_of_block (by rw[hw])
 rw[h.hv]
 cases Zw:ad with
 |none=>
  have hk:=h.nil Zw
  have hc0:=h.hcap
  have Ku:m=0:=by omega
  subst Ku
  simp[Builtin.firstCells]
 | some x =>
  refine run_firstCells_some (P:=P) w' s.size m x k cap _ hlt λj u hu=>?_
  rw[abi]at hu
  split at hu
  ·obtain⟨b,o,h1,h2⟩:=h.at_ j u hu
   rw[Zw]at h1
   cases h1
   rw[nE,hcell]
   exact h2
  ·cases hu
theorem Ln.HF{s:Sh}{l:List D}{v:Value}{k cap:Nat}{ad:Option Addr}{cs:List Value}(h:Ln rows ρ w T s l v k ad cap cs):cs.length=k*s.size:=by
 rw[<-h.hcs.len,be h.els,h.len]
theorem gS(P:Program)(g o:Nat)(t:TypeId):∀(vs:List Value) (i:Nat) (cur:Array Value) (w:World),py w g cur t->o+i+vs.length<=cur.size->(∀v∈vs,v.oneCell'=true)->
  (storeCells ⟨g,o,none⟩ vs i).run P w= .ok () (w.setRow g (cur.toList.take (o+i)++vs++cur.toList.drop (o+i+vs.length)).toArray)
 |[],i,cur,w,hg,_,_=>by
  obtain⟨fr,hg,_⟩:=hg
  simp only[storeCells,aaS,aaV,adb,abj,Array.toArray_toList]
  rw[setRow_self w g cur t fr hg]
  rfl
 | v :: rest, i, cur, w, hg, hl, h1 => by
  have hi:o+i<cur.size:=by simp at hl;omega
  obtain⟨fr,Sw,qJ⟩:=hg
  have hadd:(⟨g,o,none⟩:Addr).add i=⟨g,o+i,none⟩:=by unfold Addr.add;split<;>simp_all
  have hcell:w.cell? ⟨g,o+i,none⟩=some cur[o+i]:=by simp[World.cell?,Sw,hi]
  have hfro:w.frozen? ⟨g,o+i,none⟩=false:=qJ.not Sw hi
  have hst:(store ((⟨g,o,none⟩:Addr).add i) v).run P w= .ok () (w.setRow g (cur.setIfInBounds (o+i) v)):=by
   rw[hadd,run_store P w _ v _ (h1 v (by simp)),hcell]
   simp[hfro,setCell_eq_setRow w g (o+i) cur t fr v Sw]
  have ih:=gS P g o t rest (i+1) (cur.setIfInBounds (o+i) v) (w.setRow g (cur.setIfInBounds (o+i) v)) (py.setRow ⟨fr,Sw,qJ⟩ (by simp)) (by simp at hl⊢;omega) (λx hx=>h1 x (by simp[hx]))
  simp only[storeCells,Sem.run_bind,hst,Result.andThen_ok,ih,setRow_setRow]
  congr 3
  have e:=list_seg_step cur.toList (o+i) v rest (by simp at hl⊢;omega)
  simpa[Array.toList_setIfInBounds,abO]using e
end Go.Am
namespace Go.Am
theorem au{α:Type}{x:Option α}{k:α->Prop}(h:bj x k):∃a,x=some a/\k a:=by
 cases x with
 |none=>exact h.elim
 |some a=>exact⟨a,rfl,h⟩
theorem aF{α β:Type}{x:Option α}{f:α->Option β}{y:β}(h:o2 x f=some y):∃a,x=some a/\f a=some y:=by
 cases x with
 |none=>simp[o2]at h
 |some a=>exact⟨a,rfl,h⟩
theorem cE{α:Type}{b:Bool}{x:Option α}{y:α}(h:zM b x=some y):b=true/\x=some y:=by
 cases b with
 |false=>simp[zM]at h
 |true=>exact⟨rfl,h⟩
variable {C:aU} {P:Program} {n:Nat} {ρ:Pl} {T:Nat->Prop} {env:Env} {rows:Rows} {a:Act} {w:World}
def wQ(C:aU)(ρ:Pl)(w:World)(T:Nat->Prop):Prop:=∀g d,C.aZ g=some d->LR ρ w T (.cb d) (.pointer (some ⟨g,0,none⟩))
def Gr(P:Program)(o:Oper)(a:Act)(w:World)(v:Value)(w':World):Prop:=
 (execOp a.eval o).run P w= .ok (.value v) w'\/((execOp a.eval o).run P w= .ok .skip w'/\v=undef)
def bV(P:Program)(n:Nat)(o:Oper)(ρ:Pl)(T:Nat->Prop)(env:Env)(rows:Rows)(a:Act)(w:World)(k:D->Rows->Prop):Prop:=
 ∃d aa ρ' T' v w',k d aa/\eQ n ρ' T' env aa a w'/\Step ρ T rows w ρ' T' aa w'/\VR ρ' w' T' d v/\Gr P o a w v w'/\(iC o.op=true->QH ρ rows w w'/\∀b,T' b->T b\/w.heap.size<=b)
theorem bV.here{o:Oper}{k:D->Rows->Prop}(hs:eQ n ρ T env rows a w){d:D}{v:Value}(hk:k d rows)(hv:VR ρ w T d v)(hr:(execOp a.eval o).run P w= .ok (.value v) w):
  bV P n o ρ T env rows a w k:=⟨d,rows,ρ,T,v,w,hk,hs,Step.refl _ _ _ _,hv,.inl hr,λ_=>⟨λ_ _=> .inl rfl,λ_ h=> .inl h⟩⟩
theorem bH{x:Operand}{y:X}{d:D}(hc:cX x=some y)(he:ev C env y=some d)(hs:eQ n ρ T env rows a w)(hG:wQ C ρ w T):VR ρ w T d (a.eval x):=by
 cases x with
 |tmp t=>
  simp[cX]at hc
  subst hc
  exact hs.env t d he
 | const v =>
  simp only[cX]at hc
  cases hv:v.oneCell' with
  |false=>simp[hv]at hc
  |true=>
   simp[hv]at hc
   subst hc
   simp[ev]at he
   subst he
   exact VR.raw hv
 | global g =>
  simp[cX]at hc
  subst hc
  simp only[ev]at he
  cases hg:C.aZ g with
  |none=>simp[hg]at he
  |some d'=>
   simp[hg]at he
   subst he
   exact VR.bE (hG g d' hg)
 |func f=>
  simp[cX]at hc
  subst hc
  simp[ev]at he
  subst he
  exact VR.raw rfl
theorem fh{x:Operand}{y:X}{v:Value}(hc:cX x=some y)(he:ev C env y=some (.raw v))(hs:eQ n ρ T env rows a w)(hG:wQ C ρ w T):a.eval x=v:=
 VR.ofRaw (bH hc he hs hG)
theorem int_beq(x y:Int):(x==y)=decide (x=y):=rfl
theorem run_equal_bool{t:TypeId}(ht:P.underlying t=some .bool)(x y:Bool)(w:World):(Op.equal t (.bool x) (.bool y)).run P w= .ok (x==y) w:=by
 have e:Op.maxDepth=9999+1:=rfl
 rw[Op.equal,e,Op.equalIn]
 simp only[Sem.run_bind,run_underlying ht,Result.andThen_ok,Sem.run_pure]
section ops
variable (hs:eQ n ρ T env rows a w) (hG:wQ C ρ w T) {o:Oper} {k:D->Rows->Prop}
include hs hG
theorem op_mv{x:Operand}{y:X}(ho:o.op= .move x\/o.op= .assign x)(hc:cX x=some y)(h:dX C env rows (.mv y) k):bV P n o ρ T env rows a w k:=by
 obtain⟨d,he,hk⟩:=au h
 refine .here hs hk (bH hc he hs hG) ?_
 rcases ho with ho|ho<;>simp[execOp,ho]
theorem op_pick{c x y:Operand}{c' x' y':X}(ho:o.op= .pick c x y)(h1:cX c=some c')(h2:cX x=some x')(h3:cX y=some y')(h:dX C env rows (.pick c' x' y') k):bV P n o ρ T env rows a w k:=by
 obtain⟨d,he,hk⟩:=au h
 split at hk
 ·rename_i t
  have hct:=fh h1 he hs hG
  obtain⟨d,he,Vb⟩:=au hk
  cases t with
  |true=>
   simp at he
   refine .here hs Vb (bH h2 he hs hG) ?_
   simp[execOp,ho,hct,asBool]
  |false=>
   simp at he
   refine .here hs Vb (bH h3 he hs hG) ?_
   simp[execOp,ho,hct,asBool]
 ·exact hk.elim
theorem Z9 {op : BinOp} {t u : TypeId} {x y : Operand} {x' y' : X} (ho : o.op = .binOp op t x y u) (h1 : cX x = some x') (h2 : cX y = some y') (h : dX C env rows (.bin op x' y') k) : bV P n o ρ T env rows a w k := by
  obtain⟨d,he,hk⟩:=au h
  split at hk
  · rename_i av
    obtain⟨d2,xq,hk⟩:=au hk
    split at hk
    · rename_i bv
      have hx:=fh h1 he hs hG
      have hy:=fh h2 xq hs hG
      unfold cm at hk
      split at hk
      all_goals first
        |exact hk.elim
        | (refine .here hs hk (VR.raw rfl) ?_
           simp[execOp,ho,hx,hy,eqGuard,binOp,Op.stringOp]
           done)
        | (obtain ⟨g1, hk⟩ := hk
           refine .here hs hk (VR.raw rfl) ?_
           subst g1
           simp[execOp,ho,hx,hy,eqGuard,binOp,Op.intArith,Op.intBits,Op.intCmp,bne,int_beq]
           done)
        | (obtain ⟨g1, hk⟩ := hk
           refine .here hs hk (VR.raw rfl) ?_
           simp[execOp,ho,hx,hy,eqGuard,binOp,Op.shift,aeo.2 g1]
           done)
        | (obtain ⟨g1, g2, hk⟩ := hk
           refine .here hs hk (VR.raw rfl) ?_
           subst g1
           simp[execOp,ho,hx,hy,eqGuard,binOp,Op.intDiv,g2]
           done)
        | (obtain ⟨g1, hk⟩ := hk
           refine .here hs hk (VR.raw rfl) ?_
           have e:IntKind.i64.max=9223372036854775807:=by decide
           simp only[execOp,ho,hx,hy,eqGuard,binOp,Op.stringOp]
           simp
           omega)
    · exact hk.elim
  · exact hk.elim
theorem aaa{neg:Bool}{op:BinOp}{t u:TypeId}{x y:Operand}{x' y':X}(ho:o.op= .binOp op t x y u)(hop:op=bif neg then .neq else .eql)(ht:P.underlying t=some .bool)(h1:cX x=some x')(h2:cX y=some y')
  (h:dX C env rows (.beq neg x' y') k):bV P n o ρ T env rows a w k:=by
 obtain⟨d,he,hk⟩:=au h
 split at hk
 ·obtain⟨d2,xq,hk⟩:=au hk
  split at hk
  ·have hx:=fh h1 he hs hG
   have hy:=fh h2 xq hs hG
   refine .here hs hk (VR.raw rfl) ?_
   cases neg<;>simp at hop<;>subst hop<;>simp only[execOp,ho,hx,hy,binOp]<;>simp[eqGuard,run_equal_bool ht]
  ·exact hk.elim
 ·exact hk.elim
theorem op_un{op:UnOp}{t:TypeId}{x:Operand}{x':X}(ho:o.op= .unOp op t x)(h1:cX x=some x')(h:dX C env rows (.un op x') k):bV P n o ρ T env rows a w k:=by
  obtain⟨d,he,hk⟩:=au h
  split at hk
  · have hx := fh h1 he hs hG
    unfold aUn at hk
    split at hk
    all_goals first
      |exact hk.elim
      | (refine .here hs hk (VR.raw rfl) ?_
         simp[execOp,ho,hx,Op.unary,Op.intArith,Op.intBits])
  · exact hk.elim
theorem op_conv{s t:TypeId}{x:Operand}{x':X}{j kd:IntKind}(ho:o.op= .convert s t x)(hsrc:P.underlying s=some (.int j))(ht:P.underlying t=some (.int kd))(h1:cX x=some x')
  (h:dX C env rows (.conv kd x') k):bV P n o ρ T env rows a w k:=by
 obtain⟨d,he,hk⟩:=au h
 split at hk
 ·have hx:=fh h1 he hs hG
  refine .here hs hk (VR.raw rfl) ?_
  simp[execOp,ho,hx,convert,run_underlying hsrc,run_underlying ht,Conv.intToInt]
 ·exact hk.elim
theorem aab{s t:TypeId}{x:Operand}{x':X}(ho:o.op= .convert s t x)(hsrc:P.underlying s=some .string)(ht:P.underlying t=some .string)(h1:cX x=some x')
  (h:dX C env rows (.Lj x') k):bV P n o ρ T env rows a w k:=by
 obtain⟨d,he,hk⟩:=au h
 split at hk
 ·have hx:=fh h1 he hs hG
  refine .here hs hk (VR.raw rfl) ?_
  simp[execOp,ho,hx,convert,run_underlying hsrc,run_underlying ht]
 ·exact hk.elim
theorem op_nilc{x:Operand}{x':X}(ho:o.op= .nilCheck x)(h1:cX x=some x')(h:dX C env rows (.qA x') k):bV P n o ρ T env rows a w k:=by
 obtain⟨d,he,hk⟩:=au h
 have hv:=bH h1 he hs hG
 split at hk
 ·have mW:=hv
  have hl:LR ρ w T _ _:=hv
  generalize hx:a.eval x=v at hl mW
  cases hl with
  |ptr _ _ _ L hL hp=>
   refine .here hs hk mW ?_
   simp[execOp,ho,hx]
 ·have mW:=hv
  obtain⟨b,o',cs,s,hx,_⟩:=LR.BC (show LR ρ w T _ _ from hv)
  refine .here hs hk mW ?_
  simp[execOp,ho,hx]
 ·exact hk.elim
theorem op_ext{x:Operand}{x':X}{i:Nat}(ho:o.op= .extract x i)(h1:cX x=some x')(h:dX C env rows (.ext x' i) k):bV P n o ρ T env rows a w k:=by
 obtain⟨d,he,hk⟩:=au h
 have hv:=bH h1 he hs hG
 split at hk
 ·obtain⟨vs,hx,bW⟩:=hv
  obtain⟨y,hy,hk⟩:=au hk
  obtain⟨u,hu,hyu⟩:=bW.some hy
  have hu':vs[i]?=some u:=by simpa using hu
  refine .here hs hk (VR.zP hyu) ?_
  simp[execOp,ho,hx,Instr.extract,hu']
 ·exact hk.elim
end ops
end Go.Am

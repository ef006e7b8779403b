import Derived.Calls
import Derived.Laws.CopyRow
import Derived.Laws.AppendOwn
import Derived.Laws.Rows
import Derived.Laws.Entries
import Derived.Laws.Cells
import Derived.KernelRfl
set_option linter.unusedSimpArgs false
set_option linter.unusedVariables false
namespace Go.Am
set_option linter.defProp false
abbrev aav:=@Bool.and_eq_true
abbrev aaw:=@List.getElem?_eq_getElem
abbrev aax:=@List.length_append
abbrev aay:=@List.take_of_length_le
abbrev aaz:=@eq_true
abbrev aaA:=@decide_eq_true_eq
abbrev aaB:=@List.length_drop
abbrev aaC:=@List.length_map
abbrev aaD:=@List.getD_eq_getElem?_getD
abbrev aaE:=@if_neg
abbrev aaF:=@List.length_take
abbrev aaG:=@decide_true
abbrev aaH:=@decide_false
abbrev aaI:=@eq_false
abbrev aaJ:=@Eq.trans
abbrev aaK:=@Int.toNat_natCast
abbrev aaL:=@Nat.le_refl
abbrev aaM:=@if_pos
abbrev aaN:=@List.eq_nil_of_length_eq_zero
abbrev aaO:=@Int.eq_ofNat_of_zero_le
abbrev aaP:=@List.append_assoc
abbrev aaQ:=@List.getElem?_append_left
abbrev aaR:=@cond_false
abbrev aaS:=@BitVec.eq_of_toNat_eq
abbrev aaT:=@List.getElem?_append_right
abbrev aaU:=@List.mem_append
abbrev aaV:=@List.length_replicate
abbrev aaW:=@List.mem_cons
abbrev aaX:=@decide_eq_false
abbrev aaY:=@cond_true
abbrev aaZ:=@Array.getElem?_eq_some_iff
abbrev aa0:=@List.length_cons
abbrev aa1:=@Nat.lt_or_ge
abbrev aa2:=@List.take_succ_eq_append_getElem
abbrev aa3:=@List.take_left
abbrev aa4:=@List.append_nil
abbrev aa5:=@List.mem_of_mem_take
abbrev aa6:=@List.take_length
abbrev aa7:=@BitVec.toNat_ofNat
abbrev aa8:=@List.mem_iff_getElem
abbrev aa9:=@true_and
abbrev aba:=@List.length_nil
abbrev abb:=@List.length_set
abbrev abc:=@List.all_eq_true
abbrev abd:=@List.mem_singleton
abbrev abe:=@Option.some.inj
abbrev abf:=@Option.bind_some
abbrev abg:=@Nat.le_trans
abbrev abh:=@List.getElem?_drop
abbrev abi:=@List.drop_left
abbrev abj:=@Int.natCast_nonneg
abbrev abk:=@List.getElem?_eq_none
abbrev abl:=@List.getElem?_map
abbrev abm:=@List.getElem?_take_of_lt
abbrev abn:=@Bool.not_true
abbrev abo:=@Classical.byContradiction
abbrev abp:=@BitVec.ofInt_natCast
abbrev abq:=@List.take_append_drop
abbrev abr:=@List.nil_append
abbrev abt:=@congrArg
abbrev abu:=@List.drop_zero
abbrev abv:=@decide_eq_true
abbrev abw:=@List.map_cons
abbrev abx:=@Array.getElem?_eq_getElem
abbrev aby:=@List.drop_drop
abbrev abz:=@Nat.le_of_ble_eq_true
abbrev abA:=@List.getElem?_take
abbrev abB:=@Nat.mod_eq_of_lt
abbrev abC:=@Bool.not_false
abbrev abD:=@List.getElem?_cons_zero
abbrev abE:=@List.not_mem_nil
abbrev abF:=@List.drop_eq_getElem_cons
abbrev abG:=@Nat.shiftRight_eq_div_pow
abbrev abH:=@Nat.mul_le_mul_right
abbrev abI:=@List.eq_of_mem_replicate
abbrev abJ:=@BitVec.le_def
abbrev abK:=@Nat.min_eq_left
abbrev abL:=@List.cons.injEq
abbrev abM:=@List.range_succ
abbrev abN:=@Bool.or_eq_true
abbrev abO:=@Nat.zero_add
abbrev abP:=@Nat.ble_eq
abbrev abQ:=@List.getElem_mem
abbrev abR:=@List.mem_of_getElem?
abbrev abS:=@Option.some.injEq
abbrev abT:=@Nat.pow_le_pow_right
abbrev abU:=@List.getElem?_set_ne
abbrev abV:=@List.length_range
abbrev abW:=@BitVec.toNat_setWidth
abbrev abX:=@decide_eq_false_iff_not
abbrev abY:=@Int.tmod_eq_emod_of_nonneg
abbrev abZ:=@Ne.symm
abbrev ab0:=@BitVec.lt_def
abbrev ab1:=@if_false
abbrev ab2:=@Nat.lt_of_lt_of_le
abbrev ab3:=@BitVec.toNat_ushiftRight
abbrev ab4:=@Array.length_toList
abbrev ab5:=@List.flatten_append
abbrev ab6:=@if_true
abbrev ab7:=@List.getElem?_cons_succ
abbrev ab8:=@List.replicate_append_replicate
abbrev ab9:=@List.mem_of_mem_drop
abbrev aca:=@Array.ext'
abbrev acb:=@List.mem_append_left
abbrev acd:=@Int.fdiv_eq_ediv_of_nonneg
abbrev ace:=@Bool.false_and
abbrev acf:=@Option.map_some
abbrev acg:=@List.map_append
abbrev ach:=@BitVec.toNat_add
abbrev aci:=@and_true
abbrev acj:=@List.length_take_le
abbrev ack:=@List.ext_getElem?
abbrev acm:=@BitVec.toNat_umod
abbrev acn:=@List.flatten_cons
abbrev aco:=@List.take_append_of_le_length
abbrev acp:=@List.set_append_right
abbrev acq:=@List.take_zero
abbrev acr:=@Nat.sub_self
abbrev acs:=@beq_iff_eq
abbrev acu:=@List.any_eq_true
abbrev acv:=@Nat.zero_le
abbrev acw:=@Nat.min_eq_right
abbrev acx:=@List.flatten_nil
abbrev acy:=@Bool.or_eq_false_iff
abbrev acz:=@Bool.true_and
abbrev acA:=@Bool.false_or
abbrev acB:=@Array.getElem?_eq_none
abbrev acC:=@List.drop_eq_nil_of_le
abbrev acE:=@BitVec.toNat_shiftLeft
abbrev acF:=@forall_const
abbrev acG:=@Bool.and_false
abbrev acH:=@Int.tdiv_eq_ediv_of_nonneg
abbrev acI:=@List.cons_append
abbrev acJ:=@BitVec.toNat_ofInt
abbrev acK:=@Int.natCast_emod
abbrev acL:=@Nat.shiftLeft_eq
abbrev acM:=@Nat.succ_mul
abbrev acN:=@Nat.add_assoc
abbrev acO:=@Nat.sub_zero
abbrev acP:=@List.map_set
abbrev acQ:=@List.set_set
abbrev acR:=@List.take_take
abbrev acS:=@Bool.and_eq_true_iff
abbrev acT:=@Bool.not_eq_true'
abbrev acU:=@List.getElem?_replicate
abbrev acV:=@List.take_left'
abbrev acW:=@List.getElem?_range
abbrev acX:=@List.map_congr_left
abbrev acY:=@List.drop_of_length_le
abbrev acZ:=@Bool.and_self
abbrev ac0:=@Nat.div_eq_of_lt
abbrev ac1:=@List.ext_getElem
abbrev ac2:=@List.mem_filterMap
abbrev ac3:=@List.length_filter_le
abbrev ac4:=@List.getElem?_eq_some_iff
abbrev ac5:=@List.getElem?_set
abbrev ac6:=@List.mem_map
abbrev ac7:=@Nat.div_lt_of_lt_mul
abbrev ac8:=@Classical.em
abbrev ac9:=@of_decide_eq_true
abbrev ada:=@not_true_eq_false
abbrev adb:=@or_false
abbrev ade:=@Nat.mod_lt
abbrev adf:=@List.any_cons
abbrev adg:=@Array.getElem?_push
abbrev adh:=@beq_self_eq_true
abbrev adi:=@List.filter_cons
abbrev adj:=@Option.getD_some
abbrev adk:=@List.mem_range
abbrev adl:=@List.drop_append_of_le_length
abbrev adm:=@Nat.add_zero
abbrev adn:=@Bool.false_eq_true
abbrev ado:=@Nat.mul_comm
abbrev adp:=@List.map_inj_right
abbrev adq:=@Option.map_eq_some_iff
abbrev ads:=@Int.natCast_mul
abbrev adt:=@List.drop_left'
abbrev adu:=@Bool.and_true
abbrev adv:=@Array.getElem?_toList
abbrev adw:=@List.size_toArray
abbrev adx:=@Int.emod_eq_of_lt
abbrev ady:=@List.getElem_map
abbrev adz:=@List.mem_or_eq_of_mem_set
abbrev adA:=@Bool.or_eq_true_iff
abbrev adB:=@List.take_replicate
abbrev adC:=@BitVec.toNat_or
abbrev adD:=@Nat.div_le_self
abbrev adE:=@List.mem_cons_self
abbrev adF:=@BitVec.ofNat_toNat
abbrev adG:=@BitVec.setWidth_eq
abbrev adH:=@Int.cast_ofNat_Int
abbrev adI:=@Nat.add_mul
abbrev adJ:=@Nat.add_sub_cancel_left
abbrev adK:=@List.mem_singleton_self
abbrev adL:=@Nat.lt_trichotomy
abbrev adM:=@Nat.le_total
abbrev adN:=@Bool.true_or
abbrev adO:=@List.map_nil
abbrev adP:=@Array.getElem?_modify
abbrev adQ:=@List.mem_append_right
abbrev adR:=@List.getElem?_zipWith
abbrev adS:=@List.take_append
abbrev adT:=@Nat.blt_eq
abbrev adU:=@BitVec.toNat_sub
abbrev adV:=@Int.natCast_ediv
abbrev adW:=@Nat.and_two_pow_sub_one_eq_mod
abbrev adX:=@forall_eq_or_imp
abbrev adY:=@List.getElem?_append
abbrev adZ:=@List.range_eq_range'
abbrev ad0:=@List.foldl_cons
abbrev ad1:=@List.dropLast_concat_getLast
abbrev ad2:=@exists_eq_left'
abbrev ad3:=@List.replicate_succ
abbrev ad4:=@List.flatMap_append
abbrev ad5:=@List.drop_replicate
abbrev ad6:=@Array.getD_eq_getD_getElem?
abbrev ad7:=@List.drop_length_add_append
abbrev ad8:=@Nat.pow_succ
abbrev ad9:=@Array.mapM_eq_mapM_toList
abbrev aea:=@not_false_eq_true
abbrev aeb:=@Array.toList_push
abbrev aec:=@eq_self
abbrev aed:=@Int.mul_emod_left
abbrev aee:=@or_true
abbrev aef:=@List.flatMap_cons
abbrev aeg:=@Option.isSome_iff_exists
abbrev aeh:=@List.take_add
abbrev aei:=@false_implies
abbrev aej:=@List.range'_succ
abbrev aek:=@decide_eq_decide
abbrev ael:=@Nat.mul_mod_left
abbrev aem:=@Int.natCast_zero
abbrev aen:=@List.drop_append
abbrev aeo:=@BitVec.toNat_and
abbrev aep:=@Nat.add_comm
abbrev aeq:=@Nat.le_of_lt
abbrev aer:=@Int.not_lt
abbrev aes:=@List.map_map
abbrev aet:=@Nat.le_of_eq
abbrev aeu:=@Nat.mul_zero
abbrev aev:=@true_implies
abbrev aew:=@implies_true
abbrev aex:=@Int.natCast_pow
abbrev aey:=@Int.natCast_one
abbrev aez:=@Nat.two_pow_pos
abbrev aeA:=@List.drop_take
abbrev aeB:=@Nat.mul_one
abbrev aeC:=@Nat.pow_add
abbrev aeD:=@true_or
abbrev aeE:=@Nat.mul_assoc
abbrev aeF:=@not_or
abbrev aeG:=@and_self
inductive Sc where
 |int (k:IntKind)
 |bool
 |str
 deriving DecidableEq,Repr,Inhabited
def nQ:Value->Sc->Bool
 | .int k _,.int k'=>k==k'
 | .bool _,.bool=>true
 | .string _,.str=>true
 | _,_=>false
abbrev v5:Sc:= .int .u8
inductive Sh where
 |leaf (k:Sc)
 |ref
 |nil
 |cons (a b:Sh)
 |ar (n:Nat) (s:Sh)
 deriving DecidableEq,Repr,Inhabited
abbrev L8:Sh:= .leaf (.int .u8)
abbrev dk:Sh:= .leaf (.int .u32)
abbrev L64:Sh:= .leaf (.int .u64)
abbrev LI:Sh:= .leaf (.int .i64)
abbrev LB:Sh:= .leaf .bool
abbrev LS:Sh:= .leaf .str
inductive D where
 |raw (v:Value)
 |ptr (s:Sh) (r:Nat) (p:List Nat)
 |sl (s:Sh) (r:Nat) (p:List Nat) (off len:Nat) (ex:Bool)
 |nk (n:Nat) (s:Sh) (r:Nat) (p:List Nat) (off:Nat)
 |cD (s:Sh) (l:List D) (ex:Bool)
 |b5 (d:D)
 |agg (s:Sh) (l:List D)
 |cB (l:List D)
 |mp (r:Nat)
 |om (s:Sh) (l:List D)
 |Ed (f:Nat) (s:Sh) (r:Nat) (p:List Nat)
 deriving Inhabited
mutual
def D.flat:D->List D
 | .agg _ l=>au l
 | .raw v=>[.raw v]
 | .ptr s r p=>[.ptr s r p]
 | .sl s r p o n e=>[.sl s r p o n e]
 | .nk n s r p o=>[.nk n s r p o]
 | .cD s l e=>[.cD s l e]
 | .b5 d=>[.b5 d]
 | .cB l=>[.cB l]
 | .mp r=>[.mp r]
 | .om s l=>[.om s l]
 | .Ed f s r p=>[.Ed f s r p]
def au:List D->List D
 |[]=>[]
 |d::l=>d.flat++au l
end
def D.eN:D->Bool
 | .agg _ _| .cB _=>false
 | .raw v=>v.oneCell'
 | _=>true
def Sh.size:Sh->Nat
 | .leaf _| .ref=>1
 | .nil=>0
 | .cons a b=>a.size+b.size
 | .ar n s=>n*s.size
def Sh.isAgg:Sh->Bool
 | .nil=>true
 | .cons _ b=>b.isAgg
 | .ar _ _=>true
 | _=>false
def Sh.count:Sh->Nat
 | .cons _ b=>b.count+1
 | .ar n _=>n
 | _=>0
def Sh.sub:Sh->Nat->Option Sh
 | .cons a _,0=>some a
 | .cons _ b,i+1=>b.sub i
 | .ar n s,i=>if i<n then some s else none
 | _,_=>none
def Sh.j8:Sh->Nat->Nat
 | .cons _ _,0=>0
 | .cons a b,i+1=>a.size+b.j8 i
 | .ar _ s,i=>i*s.size
 | _,_=>0
def Sh.at:Sh->List Nat->Option Sh
 |s,[]=>some s
 |s,i::p=>match s.sub i with
  |some e=>e.at p
  |none=>none
def Sh.off:Sh->List Nat->Nat
 | _,[]=>0
 |s,i::p=>s.j8 i+(match s.sub i with|some e=>e.off p|none=>0)
inductive aL:Sh->D->Prop where
 |leaf (k:Sc) (v:Value):nQ v k=true->aL (.leaf k) (.raw v)
 |ref (d:D):d.eN=true->aL .ref d
 |agg (s:Sh) (l:List D):s.isAgg=true->l.length=s.count->(∀i e d,s.sub i=some e->l[i]?=some d->aL e d)->aL s (.agg s l)
def D.fits:D->Sh->Bool
 | .raw v,.leaf k=>nQ v k
 | .agg s _,t=>s==t
 | .cB _,_=>false
 |d,.ref=>d.eN
 | _,_=>false
def D.get:D->List Nat->Option D
 |d,[]=>some d
 | .agg _ l,i::p=>match l[i]? with
  |some d=>d.get p
  |none=>none
 | _,_::_=>none
def D.set:D->List Nat->D->Option D
 | _,[],x=>some x
 | .agg s l, i :: p, x => match l[i]? with
  |some d=>match d.set p x with
   |some d'=>some (.agg s (l.set i d'))
   |none=>none
  |none=>none
 | _,_::_,_=>none
structure Row where
 sh:Sh
 els:List D
 deriving Inhabited
def cF(els:List D):List Nat->Option D
 |[]=>none
 |i::p=>match els[i]? with
  |some d=>d.get p
  |none=>none
def lO(els:List D):List Nat->D->Option (List D)
 |[],_=>none
 | i :: p, x => match els[i]? with
  |some d=>match d.set p x with
   |some d'=>some (els.set i d')
   |none=>none
  |none=>none
abbrev Rows:=List (Option Row)
abbrev Env:=List (Nat×D)
def look:Env->Nat->Option D
 |[],_=>none
 |(k,d)::e,t=>bif k==t then some d else look e t
def put(dst:Option Nat)(d:D)(env:Env):Env:=
 match dst with
 |some t=>(t,d)::env
 |none=>env
inductive X where
 |tmp (t:Nat)
 |const (v:Value)
 |aY (g:Nat)
 deriving Inhabited
inductive nh where
 |mv (x:X)
 |pick (c a b:X)
 |bin (op:BinOp) (x y:X)
 |Xe (s:Sh) (neg:Bool) (x y:X)
 |beq (neg:Bool) (x y:X)
 |un (op:UnOp) (x:X)
 |conv (k:IntKind) (x:X)
 |Jy (x:X)
 |alloc (s:Sh) (z:D)
 |box (s:Sh) (x:X)
 |build (s:Sh) (z:List D) (parts:List (Nat×X))
 |cP (s:Sh) (n:Nat) (z:D) (parts:List (Nat×X))
 |load (s:Sh) (x:X)
 |store (s:Sh) (x v:X)
 |nt (x:X)
 |b7 (s:Sh) (x:X) (i:Nat)
 |field (s:Sh) (x:X) (i:Nat)
 |wg (n:Nat) (s:Sh) (x i:X)
 |eO (s:Sh) (x i:X)
 |index (n:Nat) (s:Sh) (x i:X)
 |ue (x i:X)
 |zE (n:Nat) (s:Sh) (x:X) (lo hi mx:Option X)
 |slice (s:Sh) (x:X) (lo hi mx:Option X)
 |CQ (x:X) (lo hi:Option X)
 |mks (s:Sh) (bytes:Nat) (z:D) (len cap:X)
 |ext (x:X) (i:Nat)
 |len (x:X)
 |zF (x:X)
 |append (s:Sh) (bytes:Nat) (a b:X)
 |uf (s:Sh) (bytes:Nat) (z:D) (a n:X)
 |copy (s:Sh) (a b:X)
 |wh (mx:Bool) (l:List X)
 |XE (x:X)
 |s2b (x:X)
 |call (f:FuncId) (args:List X)
 |pS (fs:List Nat) (x:X) (args:List X)
 |fail
 |yU (neg:Bool) (x y:X)
 |M8 (neg:Bool) (x y:X)
 |s2a (n:Nat) (s:Sh) (x:X)
 |PZ (s:Sh) (x:X)
 |mnz (x:X)
 |clr (s:Sh) (z:D) (x:X)
 |P0 (x y:X)
 |mkf (f:Nat) (x:X)
 |mkm (ks vs:Sh)
 |pU (ks vs:Sh) (m x v:X)
 |M9 (ks vs:Sh) (ok:Bool) (z:D) (m x:X)
 deriving Inhabited
structure aS where
 dst:Option Nat
 op:nh
 guard:Option (Nat×Bool):=none
 deriving Inhabited
inductive aA where
 |skip
 |region (draw:Bool) (ops:List aS)
 |draw (pre dl:List aS) (tail:List (aS×List aS))
 |AL (pre tail:List aS)
 |SS (pre dl:List aS) (tail:List (aS×List aS×List aS))
 |seq (a b:aA)
 |cond (c:X) (a b:aA)
 |block (id:Nat) (a:aA)
 |loop (a:aA)
 |exit (id:Nat)
 |ret
 deriving Inhabited
inductive fE where
 |normal
 |exit (id:Nat)
 |ret
 deriving DecidableEq,Inhabited
abbrev j9:=List D->Rows->(D->Rows->Prop)->Prop
abbrev Fn:=List D->Rows->Option (D×Rows)
abbrev E5:=List D->Rows->Option (D×Rows)
structure aX where
 aY:Nat->Option D
 fn:FuncId->Option Fn
 dO:FuncId->Option j9
 P1:FuncId->Option E5
def aX.quiet(C:aX):aX:=⟨C.aY,C.fn,λ_=>none,C.P1⟩
def bf{α:Type}(x:Option α)(k:α->Prop):Prop:=
 match x with
 |some a=>k a
 |none=>False
def Na(q:E5):j9:=λds rows K=>bf (q ds rows) λr=>K r.1 (rows++r.2)
def aX.Nb(C:aX)(f:FuncId):Option j9:=match C.dO f with
 |some A=>some A
 |none=>(C.P1 f).map Na
def ev(C:aX)(env:Env):X->Option D
 | .tmp t=>look env t
 | .const v=>some (.raw v)
 | .aY g=>match C.aY g with
  |some d=>some (.b5 d)
  |none=>none
def MY(C:aX)(env:Env):List X->Option (List D)
 |[]=>some []
 | x :: l => match ev C env x with
  |some d=>match MY C env l with
   |some ds=>some (d::ds)
   |none=>none
  |none=>none
def IV(C:aX)(env:Env):Option X->Option (Option Int)
 |none=>some none
 |some x=>match ev C env x with
  |some (.raw (.int _ n))=>some (some n)
  | _=>none
def live(rows:Rows)(r:Nat):Option Row:=
 match rows[r]? with
 |some (some row)=>some row
 | _=>none
def elems(rows:Rows):D->Option (List D)
 | .raw (.slice none 0 0)=>some []
 | .cD _ l _=>some l
 | .sl _ r [] off len _=>match live rows r with
  |some row=>some ((row.els.drop off).take len)
  |none=>none
 | .sl _ r (i :: p) off len _ => match live rows r with
  |some row=>match cF row.els (i::p)with
   |some (.agg _ l)=>some ((l.drop off).take len)
   | _=>none
  |none=>none
 | _=>none
def dP:D->Option Nat
 | .raw (.slice none 0 0)=>some 0
 | .cD _ l _=>some l.length
 | .sl _ _ _ _ len _=>some len
 | _=>none
def cz(op:BinOp)(x y:Value)(k:D->Prop):Prop:=
 match op,x,y with
 | .shl,.int k1 a,.int _ b=>0<=b/\k (.raw (.int k1 (k1.wrap (a*2^(min b.toNat k1.bits)))))
 | .shr,.int k1 a,.int _ b=>0<=b/\k (.raw (.int k1 (a.fdiv (2^(min b.toNat k1.bits)))))
 | .add,.int k1 a,.int k2 b=>k1=k2/\k (.raw (.int k1 (k1.wrap (a+b))))
 | .sub,.int k1 a,.int k2 b=>k1=k2/\k (.raw (.int k1 (k1.wrap (a-b))))
 | .mul,.int k1 a,.int k2 b=>k1=k2/\k (.raw (.int k1 (k1.wrap (a*b))))
 | .quo,.int k1 a,.int k2 b=>k1=k2/\b≠0/\k (.raw (.int k1 (k1.wrap (a.tdiv b))))
 | .rem,.int k1 a,.int k2 b=>k1=k2/\b≠0/\k (.raw (.int k1 (a.tmod b)))
 | .and,.int k1 a,.int k2 b=>k1=k2/\k (.raw (.int k1 (k1.wrap (BitVec.ofInt k1.bits a&&&BitVec.ofInt k1.bits b).toNat)))
 | .or,.int k1 a,.int k2 b=>k1=k2/\k (.raw (.int k1 (k1.wrap (BitVec.ofInt k1.bits a|||BitVec.ofInt k1.bits b).toNat)))
 | .xor,.int k1 a,.int k2 b=>k1=k2/\k (.raw (.int k1 (k1.wrap (BitVec.ofInt k1.bits a^^^BitVec.ofInt k1.bits b).toNat)))
 | .andNot,.int k1 a,.int k2 b=>k1=k2/\k (.raw (.int k1 (k1.wrap (BitVec.ofInt k1.bits a&&&~~~BitVec.ofInt k1.bits b).toNat)))
 | .eql,.int k1 a,.int k2 b=>k1=k2/\k (.raw (.bool (decide (a=b))))
 | .neq,.int k1 a,.int k2 b=>k1=k2/\k (.raw (.bool (!decide (a=b))))
 | .lss,.int k1 a,.int k2 b=>k1=k2/\k (.raw (.bool (decide (a<b))))
 | .leq,.int k1 a,.int k2 b=>k1=k2/\k (.raw (.bool (decide (a<=b))))
 | .gtr,.int k1 a,.int k2 b=>k1=k2/\k (.raw (.bool (decide (b<a))))
 | .geq,.int k1 a,.int k2 b=>k1=k2/\k (.raw (.bool (decide (b<=a))))
 | .add,.string a,.string b=>((a.size+b.size:Nat):Int)<=IntKind.i64.max/\k (.raw (.string (a++b)))
 | .eql,.string a,.string b=>k (.raw (.bool (a.toList==b.toList)))
 | .neq,.string a,.string b=>k (.raw (.bool (!(a.toList==b.toList))))
 | _,_,_=>False
def jA:D->D->Option Bool
 | .raw (.int k a),.raw (.int k' b)=>if k=k' then some (decide (a=b))else none
 | .raw (.bool a),.raw (.bool b)=>some (a==b)
 | .raw (.string a),.raw (.string b)=>some (a.toList==b.toList)
 | _,_=>none
def aUn(op:UnOp)(x:Value)(k:D->Prop):Prop:=
 match op,x with
 | .neg,.int k1 n=>k (.raw (.int k1 (k1.wrap (0-n))))
 | .xor,.int k1 n=>k (.raw (.int k1 (k1.wrap (BitVec.ofInt k1.bits (if k1.signed then-1 else k1.max)^^^BitVec.ofInt k1.bits n).toNat)))
 | .not,.bool b=>k (.raw (.bool !b))
 | _,_=>False
def o6(C:aX)(env:Env)(sub:Nat->Option Sh):List (Nat×X)->List D->Option (List D)
 |[],z=>some z
 | (i, x) :: r, z => match ev C env x with
  |some d=>match sub i with
   |some e=>bif d.fits e then o6 C env sub r (z.set i d)else none
   |none=>none
  |none=>none
def Sh.pure:Sh->Bool
 | .leaf _=>true
 | .ref=>false
 | .nil=>true
 | .cons a b=>a.pure&&b.pure
 | .ar _ s=>s.pure
mutual
def zG:D->D->Option Bool
 | .raw a,y=>jA (.raw a) y
 | .agg _ l,.agg _ l'=>CR l l'
 | _,_=>none
def CR:List D->List D->Option Bool
 |[],[]=>some true
 | a :: l, b :: l' => match zG a b with
  |some t=>match CR l l' with
   |some u=>some (t&&u)
   |none=>none
  |none=>none
 | _,_=>none
end
def dC{α β:Type}(f:α->Option β):List α->Option (List β)
 |[]=>some []
 | x :: l => match f x with
  |some y=>match dC f l with
   |some ys=>some (y::ys)
   |none=>none
  |none=>none
mutual
/-- does it bear an address of a row? -/
def aT:D->Bool
 | .raw _=>false
 | .ptr _ _ _=>true
 | .sl _ _ _ _ _ _=>true
 | .nk _ _ _ _ _=>true
 | .cD s l _=>bif s.pure then false else aV l
 | .b5 d=>aT d
 | .agg s l=>bif s.pure then false else aV l
 | .cB l=>aV l
 | .mp _=>true
 | .om _ _=>false
 | .Ed _ _ _ _=>true
def aV:List D->Bool
 |[]=>false
 |d::l=>aT d||aV l
end
def view (rows : Rows) : Nat -> D -> Option D
 |0,_=>none
 | _+1,.raw v=>some (.raw v)
 | _+1,.om s l=>some (.om s l)
 | _+1,.b5 d=>bif aT d then none else some (.b5 d)
 | _+1,.mp r=>match live rows r with
  |some row=>some (.om row.sh row.els)
  |none=>none
 |n+1,.cD s l e=>bif s.pure then some (.cD s l e)else match dC (view rows n) l with
  |some l'=>some (.cD s l' e)
  |none=>none
 |n+1,.agg s l=>bif s.pure then some (.agg s l)else match dC (view rows n) l with
  |some l'=>some (.agg s l')
  |none=>none
 | n + 1, .ptr s r p => match live rows r with
  | some row => match cF row.els p with
   |some d=>bif s.pure then some (.b5 d)else match view rows n d with
    |some d'=>some (.b5 d')
    |none=>none
   |none=>none
  |none=>none
 | n + 1, .sl s r p off len e => match elems rows (.sl s r p off len e) with
  |some l=>bif !(l.length==len)then none else bif s.pure then some (.cD s l e)else match dC (view rows n) l with
   |some l'=>some (.cD s l' e)
   |none=>none
  |none=>none
 | _+1,_=>none
mutual
def shift(n:Nat):D->D
 | .raw v=> .raw v
 | .ptr s r p=> .ptr s (r+n) p
 | .sl s r p o l e=> .sl s (r+n) p o l e
 | .nk m s r p o=> .nk m s (r+n) p o
 | .cD s l e=>bif s.pure then .cD s l e else .cD s (bu n l) e
 | .b5 d=> .b5 (shift n d)
 | .agg s l=>bif s.pure then .agg s l else .agg s (bu n l)
 | .cB l=> .cB (bu n l)
 | .mp r=> .mp (r+n)
 | .om s l=> .om s l
 | .Ed f s r p=> .Ed f s (r+n) p
def bu(n:Nat):List D->List D
 |[]=>[]
 |d::l=>shift n d::bu n l
end
def ab(n:Nat):Rows->Rows
 |[]=>[]
 |some ⟨s,els⟩::l=>some ⟨s,bif s.pure then els else bu n els⟩::ab n l
 |none::l=>none::ab n l
mutual
/-- does it bear no immutable list? -/
def b8:D->Bool
 | .raw _=>true
 | .ptr _ _ _=>true
 | .sl _ _ _ _ _ _=>true
 | .nk _ _ _ _ _=>true
 | .cD _ _ _=>false
 | .b5 _=>false
 | .agg s l=>bif s.pure then true else je l
 | .cB l=>je l
 | .mp _=>true
 | .om _ _=>false
 | .Ed _ _ _ _=>true
def je:List D->Bool
 |[]=>true
 |d::l=>b8 d&&je l
end
def a8:Rows->Bool
 |[]=>true
 |some ⟨s,_⟩::l=>s.pure&&a8 l
 |none::l=>a8 l
def kill(rows:Rows):D->Rows
 | .sl _ r _ _ _ _=>rows.set r none
 | _=>rows
def owned:D->Bool
 | .sl _ _ [] 0 _ _=>true
 | _=>false
def exact:D->Bool
 | .sl _ _ _ _ _ e=>e
 | .cD _ _ e=>e
 | _=>false
def isNil:D->Bool
 | .raw (.slice none 0 0)=>true
 | _=>false
def most:Nat:=1099511627776
def fh(s:Sh):D->Bool
 | .raw (.slice none 0 0)=>true
 | .cD t _ _=>s==t
 | .sl t _ _ _ _ _=>s==t
 | _=>false
def wj(rows:Rows)(s:Sh)(bytes:Nat)(a:D)(news:List D)(k:D->Rows->Prop):Prop:=
 bf (elems rows a) λold=>bf (dP a) λn=>fh s a=true/\old.length=n/\(n+news.length)*bytes<=most/\n+news.length<=most/\
  bif isNil a||owned a then
   k (.sl s rows.length [] 0 (n+news.length) false) (kill rows a++[some ⟨s,old++news⟩])
  else exact a=true/\(news.length=0->k a rows)/\
   (news.length≠0->k (.sl s rows.length [] 0 (n+news.length) false) (rows++[some ⟨s,old++news⟩]))
def a7{α:Type}(l:List α)(off:Nat)(xs:List α):List α:=l.take off++xs++l.drop (off+xs.length)
def ou(rows:Rows)(s:Sh)(a:D)(src:List D)(k:D->Rows->Prop):Prop:=
 match a with
 | .raw (.slice none 0 0)=>k (.raw (.int .i64 0)) rows
 | .sl t r [] off len _ => t = s /\ bf (live rows r) λrow => off + len <= row.els.length /\
   k (.raw (.int .i64 (min src.length len:Nat))) (rows.set r (some ⟨row.sh,a7 row.els off (src.take (min src.length len))⟩))
 | .sl t r (i :: p) off len _ => t = s /\ bf (live rows r) λrow => bf (cF row.els (i :: p)) fun
  | .agg u l=>off+len<=l.length/\bf (lO row.els (i::p) (.agg u (a7 l off (src.take (min src.length len))))) λels=>
   k (.raw (.int .i64 (min src.length len:Nat))) (rows.set r (some ⟨row.sh,els⟩))
  | _=>False
 | _=>False
def ofBytes(b:ByteArray):List D:=b.data.toList.map λx=> .raw (.int .u8 x.toNat)
def toByte:D->Option UInt8
 | .raw (.int .u8 n)=>some (UInt8.ofNat n.toNat)
 | _=>none
def rk(rows:Rows)(s:Sh):D->Option (List D)
 | .raw (.string b)=>bif s== .leaf v5 then some (ofBytes b)else none
 |d=>bif fh s d then elems rows d else none
def nS(mx:Bool)(k:IntKind):Int->List D->Option Int
 |n,[]=>some n
 |n,.raw (.int k' m)::l=>bif k==k' then nS mx k (bif mx then max n m else min n m) l else none
 | _,_=>none
def KU(f:Nat):List Nat->Bool
 |[]=>false
 |x::l=>bif x==f then true else KU f l
def AM(mx:Bool):List D->Option (IntKind×Int)
 | .raw (.int k n)::l=>match nS mx k n l with
  |some m=>some (k,m)
  |none=>none
 | _=>none
def mD(l h m:Int)(n:Nat)(k:Nat->Nat->Nat->Prop):Prop:=
 0<=l/\l<=h/\h<=m/\m<=(n:Int)/\k l.toNat h.toNat m.toNat
def po(c:Option Int)(h c' len:Nat)(e:Bool):Bool:=
 match c with
 |some _=>h==c'
 |none=>e&&h==len
def UM(c:Int)(b:ByteArray):Int:=match(List.range b.size).find? λi=>b[i]! ==c.toNat.toUInt8 with
 |some i=>i
 |none=>-1
def AN:D->Value
 | .raw v=>v
 | _=>undef
def kv:D->Value
 | .raw v=>v
 | .agg _ l=> .agg ((au l).map AN).toArray
 | _=>undef
def dV(vs:Sh)(v:Value):D:=match vs with
 | .leaf _=> .raw v
 | _=> .agg vs (v.cells.toList.map .raw)
abbrev pV(ks vs:Sh):Sh:= .cons ks (.cons vs .nil)
def Ee:D->Option (D×Value)
 | .agg _ [k,e]=>some (k,kv e)
 | _=>none
def yV(k:D):List D->Option (Option Value)
 |[]=>some none
 | d :: l => match Ee d with
  |some (k',v)=>match zG k k' with
   |some true=>some (some v)
   |some false=>yV k l
   |none=>none
  |none=>none
def Ga(rows:Rows)(s:Sh):D->Option (List D)
 | .mp r=>match live rows r with
  |some row=>bif row.sh==s then some row.els else none
  |none=>none
 | .om t l=>bif t==s then some l else none
 | _=>none
def AO(C:aX)(rows:Rows)(f:FuncId)(ds:List D)(k:D->Rows->Prop):Prop:=
 match C.fn f with
 | some A => (aV ds = true -> bf (dC (view rows 9) ds) λds' => bf (A ds' []) λr => (b8 r.1 && a8 r.2) = true /\ k (shift rows.length r.1) (rows ++ ab rows.length r.2)) /\
   (aV ds=false->bf (A ds []) λr=>k (shift rows.length r.1) (rows++ab rows.length r.2))
 |none=>bf (C.Nb f) λA=>A ds rows k
def dA (C : aX) (env : Env) (rows : Rows) (o : nh) (k : D -> Rows -> Prop) : Prop :=
 match o with
 | .mv x=>bf (ev C env x) λd=>k d rows
 | .pick c a b=>bf (ev C env c) fun
  | .raw (.bool t)=>bf (bif t then ev C env a else ev C env b) λd=>k d rows
  | _=>False
 | .bin op x y => bf (ev C env x) fun
  | .raw a=>bf (ev C env y) fun
   | .raw b=>cz op a b λd=>k d rows
   | _=>False
  | _=>False
 | .Xe s neg x y => bf (ev C env x) fun
  | .agg s1 l=>bf (ev C env y) fun
   | .agg s2 l'=>s1=s/\s2=s/\bf (CR l l') λb=>k (.raw (.bool (bif neg then !b else b))) rows
   | _=>False
  | _=>False
 | .beq neg x y => bf (ev C env x) fun
  | .raw (.bool a)=>bf (ev C env y) fun
   | .raw (.bool b)=>k (.raw (.bool (bif neg then !(a==b)else a==b))) rows
   | _=>False
  | _=>False
 | .un op x=>bf (ev C env x) fun
  | .raw a=>aUn op a λd=>k d rows
  | _=>False
 | .conv kd x=>bf (ev C env x) fun
  | .raw (.int _ n)=>k (.raw (.int kd (kd.wrap n))) rows
  | _=>False
 | .Jy x=>bf (ev C env x) fun
  | .raw (.string b)=>k (.raw (.string b)) rows
  | _=>False
 | .alloc s z=>k (.ptr s rows.length [0]) (rows++[some ⟨s,[z]⟩])
 | .box s x=>bf (ev C env x) λd=>d.fits s=true/\k (.ptr s rows.length [0]) (rows++[some ⟨s,[d]⟩])
 | .build s z parts=>bf (o6 C env s.sub parts z) λl=>k (.agg s l) rows
 | .cP s n z parts => bf (o6 C env (Sh.ar n s).sub parts (List.replicate n z)) λl =>
   k (.sl s rows.length [] 0 n true) (rows++[some ⟨s,l⟩])
 | .load s x=>bf (ev C env x) fun
  | .ptr s' r p=>s'=s/\bf (live rows r) λrow=>bf (cF row.els p) λd=>k d rows
  | .b5 d=>d.fits s=true/\k d rows
  | .nk m t r p off=>s= .ar m t/\bf (elems rows (.sl t r p off m false)) λl=>l.length=m/\k (.agg s l) rows
  | _=>False
 | .store s x v => bf (ev C env x) fun
  | .ptr s' r p => bf (ev C env v) λd => d.fits s = true /\ s' = s /\ bf (live rows r) λrow => bf (lO row.els p d) λels =>
    k (.cB []) (rows.set r (some ⟨row.sh,els⟩))
  | _=>False
 | .nt x=>bf (ev C env x) fun
  | .ptr s r p=>k (.ptr s r p) rows
  | .b5 d=>k (.b5 d) rows
  | _=>False
 | .b7 s x i=>bf (ev C env x) fun
  | .ptr s' r p=>s'=s/\bf (s.sub i) λe=>k (.ptr e r (p++[i])) rows
  | .b5 (.agg s' l)=>s'=s/\bf (l[i]?) λd=>k (.b5 d) rows
  | _=>False
 | .field s x i=>bf (ev C env x) fun
  | .agg s' l=>s'=s/\bf (l[i]?) λd=>k d rows
  | _=>False
 | .wg m s x i => bf (ev C env x) λdx => bf (ev C env i) fun
  | .raw (.int _ n)=>match dx with
   | .ptr t r p=>t= .ar m s/\0<=n/\n<(m:Int)/\k (.ptr s r (p++[n.toNat])) rows
   | .b5 (.agg t l)=>t= .ar m s/\0<=n/\n<(m:Int)/\bf (l[n.toNat]?) λd=>k (.b5 d) rows
   | _=>False
  | _=>False
 | .eO s x i => bf (ev C env x) λdx => bf (ev C env i) fun
  | .raw (.int _ n)=>match dx with
   | .sl t r p off len _=>t=s/\0<=n/\n<(len:Int)/\k (.ptr s r (p++[off+n.toNat])) rows
   | .cD t l _=>t=s/\0<=n/\n<(l.length:Int)/\bf (l[n.toNat]?) λd=>k (.b5 d) rows
   | _=>False
  | _=>False
 | .index m s x i => bf (ev C env x) fun
  | .agg t l=>bf (ev C env i) fun
   | .raw (.int _ n)=>t= .ar m s/\0<=n/\n<(m:Int)/\bf (l[n.toNat]?) λd=>k d rows
   | _=>False
  | _=>False
 | .ue x i => bf (ev C env x) fun
  | .raw (.string b)=>bf (ev C env i) fun
   | .raw (.int _ n)=>0<=n/\bf (b.data.toList[n.toNat]?) λc=>k (.raw (.int .u8 c.toNat)) rows
   | _=>False
  | _=>False
 | .zE m s x lo hi mx => bf (ev C env x) λdx => bf (IV C env lo) λl => bf (IV C env hi) λh => bf (IV C env mx) λc =>
   mD (l.getD 0) (h.getD m) (c.getD m) m λl h c=>match dx with
    | .ptr t r p=>t= .ar m s/\k (.sl s r p l (h-l) (h==c)) rows
    | .b5 (.agg t els)=>t= .ar m s/\k (.cD s ((els.drop l).take (h-l)) (h==c)) rows
    | _=>False
 | .slice s x lo hi mx => bf (ev C env x) λdx => bf (IV C env lo) λl => bf (IV C env hi) λh => bf (IV C env mx) λc =>
   bf (dP dx) λn=>mD (l.getD 0) (h.getD n) (c.getD (h.getD n)) n λl h' c'=>match dx with
    | .raw (.slice none 0 0)=>k (.raw (.slice none 0 0)) rows
    | .sl t r p off len e=>t=s/\k (.sl s r p (off+l) (h'-l) (po c h' c' len e)) rows
    | .cD t els e=>t=s/\k (.cD s ((els.drop l).take (h'-l)) (po c h' c' els.length e)) rows
    | _=>False
 | .CQ x lo hi=>bf (ev C env x) fun
  | .raw (.string b)=>bf (IV C env lo) λl=>bf (IV C env hi) λh=>mD (l.getD 0) (h.getD b.size) b.size b.size λl h _=>k (.raw (.string (b.extract l h))) rows
  | _=>False
 | .mks s bytes z len cap => bf (ev C env len) fun
  | .raw (.int _ l) => bf (ev C env cap) fun
   | .raw (.int _ c) => 0 <= l /\ l <= c /\ c * bytes <= (most : Int) /\ c <= (most : Int) /\
     k (.sl s rows.length [] 0 l.toNat (decide (l=c))) (rows++[some ⟨s,List.replicate l.toNat z⟩])
   | _=>False
  | _=>False
 | .ext x i=>bf (ev C env x) fun
  | .cB l=>bf (l[i]?) λd=>k d rows
  | _=>False
 | .len x=>bf (ev C env x) λd=>bf (dP d) λn=>k (.raw (.int .i64 n)) rows
 | .zF x=>bf (ev C env x) fun
  | .raw (.string b)=>k (.raw (.int .i64 b.size)) rows
  | _=>False
 | .append s bytes a b=>bf (ev C env a) λda=>bf (ev C env b) λdb=>bf (rk rows s db) λnews=>(∀k,dP db=some k->news.length=k)/\wj rows s bytes da news k
 | .uf s bytes z a n=>bf (ev C env a) λda=>bf (ev C env n) fun
  | .raw (.int _ m)=>0<=m/\wj rows s bytes da (List.replicate m.toNat z) k
  | _=>False
 | .copy s a b=>bf (ev C env a) λda=>bf (ev C env b) λdb=>bf (rk rows s db) λsrc=>(∀k,dP db=some k->src.length=k)/\ou rows s da src k
 | .wh mx l=>bf (MY C env l) λds=>bf (AM mx ds) λ(kd,n)=>k (.raw (.int kd n)) rows
 | .XE x=>bf (ev C env x) λd=>fh (.leaf v5) d=true/\bf (elems rows d) λl=>bf (dP d) λn=>l.length=n/\bf (dC toByte l) λbs=>k (.raw (.string ⟨bs.toArray⟩)) rows
 | .s2b x=>bf (ev C env x) fun
  | .raw (.string b)=>k (.cD (.leaf v5) (ofBytes b) false) rows
  | _=>False
 | .call f args=>bf (MY C env args) λds=>AO C rows f ds k
 | .pS fs x args=>bf (ev C env x) fun
  | .raw (.func (.func f) c1 c2)=>c1=#[]/\c2=#[]/\KU f fs=true/\bf (MY C env args) λds=>AO C rows f ds k
  | .Ed f s r p=>KU f fs=true/\bf (MY C env args) λds=>AO C rows f (ds++[.ptr s r p]) k
  | _=>False
 | .mkf f x=>bf (ev C env x) fun
  | .ptr s r p=>k (.Ed f s r p) rows
  | _=>False
 | .clr s z x=>bf (ev C env x) λd=>bf (dP d) λn=>ou rows s d (List.replicate n z) λ_ rows=>k (.cB []) rows
 | .P0 x y => bf (ev C env x) fun
  | .raw (.string b)=>bf (ev C env y) fun
   | .raw (.int .u8 c)=>k (.raw (.int .i64 (UM c b))) rows
   | _=>False
  | _=>False
 | .fail=>False
 | .yU neg x y => bf (ev C env x) λdx => bf (ev C env y) fun
  | .raw (.pointer none)=>match dx with
   | .raw (.pointer none)=>k (.raw (.bool (!neg))) rows
   | .ptr _ _ _| .b5 _=>k (.raw (.bool neg)) rows
   | _=>False
  | _=>False
 | .M8 neg x y => bf (ev C env x) λdx => bf (ev C env y) fun
  | .raw (.slice none 0 0)=>match dx with
   | .raw (.slice none 0 0)=>k (.raw (.bool (!neg))) rows
   | .cD _ l _=>(l.length=0->k (.raw (.bool (!neg))) rows)/\k (.raw (.bool neg)) rows
   | .sl _ _ _ _ len _=>(len=0->k (.raw (.bool (!neg))) rows)/\k (.raw (.bool neg)) rows
   | _=>False
  | _=>False
 | .s2a n s x=>bf (ev C env x) fun
  | .sl t r p off len _=>t=s/\n<=len/\0<n/\k (.nk n s r p off) rows
  | .cD t l _=>t=s/\n<=l.length/\0<n/\k (.b5 (.agg (.ar n s) (l.take n))) rows
  | _=>False
 | .PZ s x=>bf (ev C env x) fun
  | .sl t r [] off len ex=>t=s/\0<len/\bf (live rows r) λrow=>off+len<=row.els.length/\k (.sl s r [] off len ex) rows
  | _=>False
 | .mnz x=>bf (ev C env x) fun
  | .raw (.int kd n)=>kd= .i64/\0<=n/\n<=(most:Int)/\∀l:List (BitVec 8),l.length=n.toNat->k (.sl L8 rows.length [] 0 n.toNat false) (rows++[some ⟨L8,l.map λb=> .raw (.int .u8 (b.toNat:Int))⟩])
  | _=>False
 | .mkm ks vs=>k (.mp rows.length) (rows++[some ⟨pV ks vs,[]⟩])
 | .pU ks vs m x v=>bf (ev C env m) fun
  | .mp r => bf (ev C env x) λkd => bf (ev C env v) λvd => kd.fits ks = true /\ vd.fits vs = true /\ bf (live rows r) λrow => row.sh = pV ks vs /\
     k (.cB []) (rows.set r (some ⟨row.sh,.agg (pV ks vs) [kd,vd]::row.els⟩))
  | _=>False
 | .M9 ks vs ok z m x => bf (ev C env m) λdm => bf (ev C env x) λkd => kd.fits ks = true /\ bf (Ga rows (pV ks vs) dm) λels => bf (yV kd els) λo =>
   k (match o with
    |some v=>bif ok then .cB [dV vs v,.raw (.bool true)]else dV vs v
    |none=>bif ok then .cB [z,.raw (.bool false)]else z) rows
def dD(C:aX):List aS->Env->Rows->(Env->Rows->Prop)->Prop
 |[],env,rows,k=>k env rows
 |⟨dst,o,none⟩::os,env,rows,k=>dA C env rows o λd rows=>dD C os (put dst d env) rows k
 |⟨dst,o,some (g,want)⟩::os,env,rows,k=>bf (look env g) fun
  | .raw (.bool t)=>(t=want->dA C env rows o λd rows=>dD C os (put dst d env) rows k)/\(t=!want->dD C os (put dst (.cB []) env) rows k)
  | .cB []=>dD C os (put dst (.cB []) env) rows k
  | _=>False
def AP(env:Env)(rows:Rows)(dst:Option Nat):D->Rows->Prop:=λd r=>(match dst with
 |some t=>look env t=some d
 |none=>False)/\r=rows
def sL(C:aX)(env:Env)(rows:Rows):List aS->Prop
 |[]=>True
 |y::l=>dA C env rows y.op (AP env rows y.dst)/\sL C env rows l
def wk(C:aX):List (aS×List aS)->Env->Rows->(Env->Rows->Prop)->Prop
 |[],env,rows,K=>K env rows
 |(x,dl)::l,env,rows,K=>dD C [x] env rows λenv rows=>sL C env rows dl/\wk C l env rows K
def isPtr(s:Sh)(els:List D)(rows:Rows):D->Prop
 | .ptr s' r p=>s'=s/\p=[0]/\live rows r=some ⟨s,els⟩
 | _=>False
def isSl(s:Sh)(n:Nat)(els:List D)(rows:Rows):D->Prop
 | .sl s' r p off len ex=>s'=s/\p=[]/\off=0/\len=n/\ex=true/\live rows r=some ⟨s,els⟩
 | _=>False
def fX(C:aX)(env:Env)(rows:Rows)(o:nh)(t:Nat):Prop:=match o with
 | .alloc s z=>bf (look env t) (isPtr s [z] rows)
 | .cP s n z parts=>bf (o6 C env (Sh.ar n s).sub parts (List.replicate n z)) λl=>bf (look env t) (isSl s n l rows)
 |o=>dA C env rows o (AP env rows (some t))
def mE(C:aX)(env:Env)(rows:Rows):List aS->Prop
 |[]=>True
 |⟨dst,o,none⟩::l=>(match dst with
  |some t=>fX C env rows o t
  |none=>False)/\mE C env rows l
 |⟨dst,o,some (g,want)⟩::l=>look env g=some (.raw (.bool want))/\(match dst with
  |some t=>fX C env rows o t
  |none=>False)/\mE C env rows l
def yW(C:aX):List (aS×List aS×List aS)->Env->Rows->(Env->Rows->Prop)->Prop
 |[],env,rows,K=>K env rows
 |(x,fl,dl)::l,env,rows,K=>dD C [x] env rows λenv rows=>dD C.quiet fl env rows λenv rows=>mE C.quiet env rows dl/\yW C l env rows K
def jO(body:(fE->Env->Rows->Prop)->Env->Rows->Prop)(Q:fE->Env->Rows->Prop):Nat->Env->Rows->Prop
 |0,_,_=>False
 |n+1,env,rows=>body (λe env rows=>match e with| .normal=>jO body Q n env rows|e=>Q e env rows) env rows
def aw(C:aX):aA->(fE->Env->Rows->Prop)->Env->Rows->Prop
 | .skip,Q,env,rows=>Q .normal env rows
 | .region dr ops,Q,env,rows=>dD (bif dr then C.quiet else C) ops env rows (Q .normal)
 | .draw pre dl tail,Q,env,rows=>dD C.quiet pre env rows λenv rows=>sL C.quiet env rows dl/\wk C.quiet tail env rows (Q .normal)
 | .AL pre tail,Q,env,rows=>dD C.quiet pre env rows λenv rows=>dD C tail env rows (Q .normal)
 | .SS pre dl tail,Q,env,rows=>dD C.quiet pre env rows λenv rows=>mE C.quiet env rows dl/\yW C tail env rows (Q .normal)
 | .seq a b,Q,env,rows=>aw C a (λe env rows=>match e with| .normal=>aw C b Q env rows|e=>Q e env rows) env rows
 | .cond c a b,Q,env,rows=>bf (ev C env c) fun
  | .raw (.bool t)=>(t=true->aw C a Q env rows)/\(t=false->aw C b Q env rows)
  | _=>False
 | .block id a,Q,env,rows=>aw C a (λe env rows=>match e with| .exit i=>(i=id->Q .normal env rows)/\(i≠id->Q (.exit i) env rows)|e=>Q e env rows) env rows
 | .loop a,Q,env,rows=>∃n,jO (aw C a) Q n env rows
 | .exit id,Q,env,rows=>Q (.exit id) env rows
 | .ret,Q,env,rows=>Q .ret env rows
end Go.Am
namespace Go.Am
def shL(f:TypeId->Option Sh):List Field->Option Sh
 |[]=>some .nil
 | x :: l => match f x.type with
  |some a=>match shL f l with
   |some b=>some (.cons a b)
   |none=>none
  |none=>none
def shT(P:Program):Nat->TypeId->Option Sh
 |0,_=>none
 | n + 1, t => match P.underlying t with
  |some (.struct fs)=>shL (shT P n) fs.toList
  |some (.array m e)=>match shT P n e with
   |some s=>some (.ar m s)
   |none=>none
  |some .bool=>some (.leaf .bool)
  |some (.int k)=>some (.leaf (.int k))
  |some .string=>some (.leaf .str)
  |some (.pointer _)|some (.slice _)|some (.map _ _)|some (.func _ _ _)|some (.interface _)=>some .ref
  | _=>none
def sh(P:Program)(t:TypeId):Option Sh:=
 match shT P 40 t with
 |some s=>match P.info? t with
  |some i=>bif i.size==s.size then some s else none
  |none=>none
 |none=>none
def zL(f:TypeId->Option D):List Field->Option (List D)
 |[]=>some []
 | x :: l => match f x.type with
  |some a=>match zL f l with
   |some b=>some (a::b)
   |none=>none
  |none=>none
def zT (P : Program) : Nat -> TypeId -> Option D
 |0,_=>none
 | n + 1, t => match P.underlying t with
  | some (.struct fs) => match shT P (n + 1) t with
   |some s=>match zL (zT P n) fs.toList with
    |some l=>some (.agg s l)
    |none=>none
   |none=>none
  | some (.array m e) => match shT P (n + 1) t with
   |some s=>match zT P n e with
    |some d=>some (.agg s (List.replicate m d))
    |none=>none
   |none=>none
  |some .bool=>some (.raw (.bool false))
  |some (.int k)=>some (.raw (.int k 0))
  |some .string=>some (.raw (.string .empty))
  |some (.pointer _)=>some (.raw (.pointer none))
  |some (.slice _)=>some (.raw (.slice none 0 0))
  |some (.map _ _)=>some (.raw (.map none))
  |some (.func _ _ _)=>some (.raw .nilFunc)
  |some (.interface _)=>some (.raw .nilIface)
  | _=>none
def XF:Value->Value->Bool
 | .bool a,.bool b=>a==b
 | .int k a,.int k' b=>k==k'&&a==b
 | .string a,.string b=>a.data.toList==b.data.toList
 | .pointer none,.pointer none=>true
 | .slice none 0 0,.slice none 0 0=>true
 | .map none,.map none=>true
 | .nilFunc,.nilFunc=>true
 | .nilIface,.nilIface=>true
 | _,_=>false
def zH:List D->List Value->Bool
 |[],[]=>true
 | .raw v::l,u::r=>XF v u&&zH l r
 | _,_=>false
def P2:TypeDesc->Bool
 | .struct _| .array _ _=>true
 | _=>false
def D.isAgg:D->Bool
 | .agg _ _=>true
 | _=>false
def zero(P:Program)(t:TypeId):Option D:=
 match zT P 40 t with
 | some d => match P.info? t with
  |some i=>match i.zero with
   |some v=>bif zH d.flat v.cells.toList&&(match v with| .agg _=>d.isAgg| .tuple _=>false| _=>!d.isAgg)then some d else none
   |none=>none
  |none=>none
 |none=>none
def nU(P:Program)(t:TypeId):Nat:=match P.info? t with|some i=>i.bytes|none=>0
def cX:Operand->Option X
 | .tmp t=>some (.tmp t)
 | .const v=>bif v.oneCell' then some (.const v)else none
 | .global g=>some (.aY g)
 | .func f=>some (.const (.func (.func f) #[] #[]))
def XG:List Operand->Option (List X)
 |[]=>some []
 | x :: l => match cX x with
  |some a=>match XG l with
   |some b=>some (a::b)
   |none=>none
  |none=>none
def Nc:Option Operand->Option (Option X)
 |none=>some none
 |some x=>match cX x with
  |some a=>some (some a)
  |none=>none
def oO:List (Nat×Operand)->Option (List (Nat×X))
 |[]=>some []
 | (i, x) :: l => match cX x with
  |some a=>match oO l with
   |some b=>some ((i,a)::b)
   |none=>none
  |none=>none
def Gb(s:Sh):Nat->List Field->Bool
 | _,[]=>true
 |i,f::l=>f.offset==s.j8 i&&Gb s (i+1) l
def AQ(P:Program)(s:Sh):Nat->List Field->Bool
 | _,[]=>true
 |i,f::l=>(match P.info? f.type,s.sub i with|some a,some e=>a.size==e.size| _,_=>false)&&AQ P s (i+1) l
def XH:D->List D
 | .agg _ l=>l
 | _=>[]
def o2{α β:Type}(x:Option α)(f:α->Option β):Option β:=match x with|some a=>f a|none=>none
def yX{α:Type}(b:Bool)(x:Option α):Option α:=bif b then x else none
def yY(P:Program)(t:TypeId):Option TypeId:=match P.underlying t with|some (.slice e)=>some e| _=>none
def lP(P:Program)(t:TypeId)(s:Sh):Bool:=match P.underlying t with
 |some d=>P2 d==s.isAgg
 |none=>false
def P3(P:Program)(rec:TypeId->Sh->Bool)(s:Sh):Nat->List Field->Bool
 | _,[]=>true
 |i,f::fs=>f.name != "_" &&f.offset==s.j8 i&&(match s.sub i with
  |some e=>(sh P f.type==some e)&&lP P f.type e&&rec f.type e
  |none=>false)&&P3 P rec s (i+1) fs
def CS(P:Program):Nat->TypeId->Sh->Bool
 |0,_,_=>false
 | n + 1, t, s => match P.underlying t with
  |some (.struct fs)=>!P.stoodInHeld t&&s.isAgg&&fs.toList.length==s.count&&P3 P (CS P n) s 0 fs.toList
  |some (.array m e)=>match s with
   | .ar m' se=>m==m'&&(sh P e==some se)&&lP P e se&&CS P n e se
   | _=>false
  |some (.int k)=>s== .leaf (.int k)
  |some .bool=>s== .leaf .bool
  |some .string=>s== .leaf .str
  | _=>false
def nB:Sh->Bool
 | .nil=>true
 | .cons (.leaf _) b=>nB b
 | _=>false
def CU(P:Program)(t:TypeId):Bool:=match P.underlying t with
 |some (.int _)|some .bool|some .string=>true
 | _=>false
def sM(P:Program)(t:TypeId)(s:Sh):Bool:=match P.underlying t with
 |some .string=>s== .leaf .str
 |some (.struct fs)=>s.isAgg&&nB s&&CS P 40 t s&&fs.toList.all λf=>CU P f.type
 | _=>false
def Ef:Sh->Bool
 | .leaf _=>true
 |s=>s.isAgg&&nB s
def mapT(P:Program)(t:TypeId):Option (TypeId×TypeId):=match P.underlying t with|some (.map a b)=>some (a,b)| _=>none
def Nd(P:Program)(t:TypeId):Option (Sh×Sh):=o2 (mapT P t) λ(kt,et)=>o2 (sh P kt) λks=>o2 (sh P et) λvs=>yX (sM P kt ks&&Ef vs) (some (ks,vs))
def AR:String:=match Extern.BytealgIndexByte.rows with|_::(s,_)::_=>s|_=> ""
def xW(s:String):Bool:=(Extern.BytealgMakeNoZero.typedRows.map (·.1)).contains s
def SU(P:Program)(c:Call):List Nat:=(List.range P.funcs.size).filter λf=>match P.funcs[f]? with
 |some fn=>fn.params==c.argTypes&&fn.body.isSome&&fn.name != "runtime.NumGoroutine"
 |none=>false
def XI (P : Program) (c : Call) : Option nh :=
 match c.callee with
 | .value (.func f) => o2 (P.funcs[f]?) λfn => bif fn.body.isSome then yX (fn.name != "runtime.NumGoroutine") (o2 (XG c.args.toList) λl => some (.call f l)) else
   bif fn.name==AR&&fn.origin== "" then(match c.args.toList with
    |[x,y]=>o2 (cX x) λx=>o2 (cX y) λy=>some (.P0 x y)
    | _=>none)else
   yX (xW fn.name&&fn.origin== "") (match c.args.toList,fn.resultTypes.toList with
    |[x],[t]=>match P.underlying t with
     |some (.slice e)=>yX (sh P e==some (.leaf v5)) (o2 (cX x) λx=>some (.mnz x))
     | _=>none
    | _,_=>none)
 | .value (.tmp t)=>o2 (XG c.args.toList) λl=>some (.pS (SU P c) (.tmp t) l)
 | .builtin .len => match c.args.toList, c.argTypes.toList with
  |[x],t::_=>o2 (cX x) λx=>match P.underlying t with
   |some (.slice _)=>some (.len x)
   |some .string=>some (.zF x)
   |some (.array n _)=>some (.mv (.const (.int .i64 n)))
   | _=>none
  | _,_=>none
 | .builtin .append => match c.args.toList, c.argTypes.toList with
  |[a,b],[t,u]=>o2 (cX a) λa=>o2 (cX b) λb=>o2 (yY P t) λe=>o2 (sh P e) λs=>o2 (zero P e) λz=>yX (s.size !=0&&z.fits s) (match P.underlying u with
   |some (.slice e')=>yX (sh P e'==some s) (some (.append s (nU P e) a b))
   |some .string=>yX (s== .leaf v5) (some (.append s (nU P e) a b))
   |some (.int _)=>some (.uf s (nU P e) z a b)
   | _=>none)
  | _,_=>none
 | .builtin .copy => match c.args.toList, c.argTypes.toList with
  |[a,b],[t,u]=>o2 (cX a) λa=>o2 (cX b) λb=>o2 (yY P t) λe=>o2 (sh P e) λs=>yX (s.size !=0) (match P.underlying u with
   |some (.slice e')=>yX (sh P e'==some s) (some (.copy s a b))
   |some .string=>yX (s== .leaf v5) (some (.copy s a b))
   | _=>none)
  | _,_=>none
 | .builtin .clear=>match c.args.toList,c.argTypes.toList with
  |[a],[t]=>o2 (cX a) λa=>o2 (yY P t) λe=>o2 (sh P e) λs=>o2 (zero P e) λz=>yX (s.size !=0&&z.fits s) (some (.clr s z a))
  | _,_=>none
 | .builtin .min=>o2 (XG c.args.toList) λl=>some (.wh false l)
 | .builtin .max=>o2 (XG c.args.toList) λl=>some (.wh true l)
 | _=>none
def cOp0(P:Program)(o:Op):Option nh:=
 match o with
 | .move x| .assign x=>o2 (cX x) λx=>some (.mv x)
 | .pick c a b=>o2 (cX c) λc=>o2 (cX a) λa=>o2 (cX b) λb=>some (.pick c a b)
 | .alloc t=>o2 (sh P t) λs=>o2 (zero P t) λz=>yX (z.fits s) (some (.alloc s z))
 | .box t x=>o2 (sh P t) λs=>o2 (cX x) λx=>some (.box s x)
 | .build t parts=>o2 (sh P t) λs=>o2 (zero P t) λz=>o2 (oO parts.toList) λps=>match P.underlying t with
  |some (.struct fs)=>yX (z.fits s&&z.isAgg&&Gb s 0 fs.toList&&AQ P s 0 fs.toList&&fs.toList.length==s.count) (some (.build s (XH z) ps))
  |some (.array n e)=>o2 (sh P e) λse=>yX (z.fits s&&z.isAgg&&s== .ar n se) (some (.build s (XH z) ps))
  | _=>none
 | .buildSlice t n parts=>o2 (yY P t) λe=>o2 (sh P e) λs=>o2 (zero P e) λz=>o2 (oO parts.toList) λps=>yX (z.fits s&&s.size !=0&&Nat.ble (n*s.size) 16777216) (some (.cP s n z ps))
 | .load t x=>o2 (sh P t) λs=>o2 (cX x) λx=>yX (lP P t s) (some (.load s x))
 | .store t a v=>o2 (sh P t) λs=>o2 (cX a) λa=>o2 (cX v) λv=>some (.store s a v)
 | .nilCheck x=>o2 (cX x) λx=>some (.nt x)
 | .binOp op t x y _ => o2 (cX x) λx => o2 (cX y) λy => match P.underlying t with
  |some (.int _)|some .string=>some (.bin op x y)
  |some .bool=>match op with
   | .eql=>some (.beq false x y)
   | .neq=>some (.beq true x y)
   | _=>none
  |some (.struct _)|some (.array _ _)=>o2 (sh P t) λs=>yX (CS P 40 t s&&!(P.eqGuardType P.depth t)) (match op with
   | .eql=>some (.Xe s false x y)
   | .neq=>some (.Xe s true x y)
   | _=>none)
  |some (.pointer _)=>match op with
   | .eql=>some (.yU false x y)
   | .neq=>some (.yU true x y)
   | _=>none
  |some (.slice _)=>match op with
   | .eql=>some (.M8 false x y)
   | .neq=>some (.M8 true x y)
   | _=>none
  | _=>none
 | .unOp op _ x=>o2 (cX x) λx=>some (.un op x)
 | .convert src dst x => o2 (cX x) λx => match P.underlying src, P.underlying dst with
  |some (.int _),some (.int k)=>some (.conv k x)
  |some .string,some .string=>some (.Jy x)
  |some .string,some (.slice e)=>match P.underlying e with
   |some (.int .u8)=>some (.s2b x)
   | _=>none
  |some (.slice e),some .string=>match P.underlying e with
   |some (.int .u8)=>some (.XE x)
   | _=>none
  |some (.slice _),some (.slice e)=>yX (src==dst) (o2 (sh P e) λs=>yX (s== .leaf v5) (match P.underlying e with
   |some (.int .u8)=>some (.PZ s x)
   | _=>none))
  | _,_=>none
 | .makeSlice t l c=>o2 (yY P t) λe=>o2 (sh P e) λs=>o2 (zero P e) λz=>o2 (cX l) λl=>o2 (cX c) λc=>yX (z.fits s&&s.size !=0) (some (.mks s (nU P e) z l c))
 | .makeFunc (.func f) first cap=>yX first.isEmpty (match cap.toList with
  |[x]=>o2 (cX x) λx=>some (.mkf f x)
  | _=>none)
 | .makeMap t none=>o2 (Nd P t) λ(ks,vs)=>some (.mkm ks vs)
 | .mapUpdate t m k v=>o2 (Nd P t) λ(ks,vs)=>o2 (cX m) λm=>o2 (cX k) λk=>o2 (cX v) λv=>some (.pU ks vs m k v)
 | .lookup t m k ok=>o2 (mapT P t) λ(_,et)=>o2 (Nd P t) λ(ks,vs)=>o2 (zero P et) λz=>o2 (cX m) λm=>o2 (cX k) λk=>yX (z.fits vs) (some (.M9 ks vs ok z m k))
 | .fieldAddr t x i => o2 (sh P t) λs => o2 (cX x) λx => match P.underlying t with
  |some (.struct fs)=>match fs[i]?,s.sub i with
   |some f,some e=>yX (f.offset==s.j8 i&&(match P.info? f.type with|some a=>a.size==e.size|none=>false)&&e.size !=0) (some (.b7 s x i))
   | _,_=>none
  | _=>none
 | .field t x i => o2 (sh P t) λs => o2 (cX x) λx => match P.underlying t with
  |some (.struct fs)=>match fs[i]?,s.sub i with
   |some f,some e=>yX (f.offset==s.j8 i&&sh P f.type==some e&&lP P f.type e) (some (.field s x i))
   | _,_=>none
  | _=>none
 | .indexAddr t x i=>o2 (cX x) λx=>o2 (cX i) λi=>match P.underlying t with
  |some (.array n e)=>o2 (sh P e) λs=>some (.wg n s x i)
  |some (.slice e)=>o2 (sh P e) λs=>some (.eO s x i)
  | _=>none
 | .index t x i=>o2 (cX x) λx=>o2 (cX i) λi=>match P.underlying t with
  |some (.array n e)=>o2 (sh P e) λs=>yX (lP P e s) (some (.index n s x i))
  |some .string=>some (.ue x i)
  | _=>none
 | .slice t x lo hi mx=>o2 (cX x) λx=>o2 (Nc lo) λlo=>o2 (Nc hi) λhi=>o2 (Nc mx) λmx=>match P.underlying t with
  |some (.array n e)=>o2 (sh P e) λs=>yX (mx.isNone||hi.isSome) (some (.zE n s x lo hi mx))
  |some (.slice e)=>o2 (sh P e) λs=>yX (mx.isNone||hi.isSome) (some (.slice s x lo hi mx))
  |some .string=>yX mx.isNone (some (.CQ x lo hi))
  | _=>none
 | .extract x i=>o2 (cX x) λx=>some (.ext x i)
 | .call c=>XI P c
 | .sliceToArrayPointer t x=>match P.underlying t with
  |some (.array n e)=>o2 (sh P e) λs=>o2 (cX x) λx=>some (.s2a n s x)
  | _=>none
 | _=>none
def cOp(P:Program)(o:Op):Option nh:=
 match cOp0 P o with
 |some a=>some a
 |none=>some .fail
def lQ(ops:List Oper)(g:Option (Nat×Bool)):Option (Option (Nat×Bool)):=
 match g with
 |none=>some none
 | some (j, want) => match ops[j]? with
  |some o=>match o.dst with
   |some t=>some (some (t,want))
   |none=>none
  |none=>none
def P4(n:Nat):Option Nat->Bool
 |none=>true
 |some t=>Nat.blt t n
def wl(P:Program)(n:Nat)(all:List Oper):List Oper->Option (List aS)
 |[]=>some []
 |o::l=>yX (P4 n o.dst) (o2 (cOp P o.op) λa=>o2 (lQ all o.guard) λg=>o2 (wl P n all l) λr=>some (⟨o.dst,a,g⟩::r))
def lR:nh->Bool
 | .store _ _ _=>false
 | .append _ _ _ _=>false
 | .uf _ _ _ _ _=>false
 | .copy _ _ _=>false
 | .pS _ _ _=>false
 | .M8 _ _ _=>false
 | .mnz _=>false
 | .clr _ _ _=>false
 | .mkf _ _=>false
 | .P0 _ _=>false
 | .pU _ _ _ _ _=>false
 | _=>true
def nh.xs:nh->List X
 | .mv x| .un _ x| .conv _ x| .Jy x| .box _ x| .load _ x| .nt x| .b7 _ x _| .field _ x _| .ext x _| .len x| .zF x| .XE x| .s2b x=>[x]
 | .pick c a b=>[c,a,b]
 | .bin _ x y| .Xe _ _ x y| .beq _ x y| .store _ x y| .wg _ _ x y| .eO _ x y| .index _ _ x y| .ue x y| .append _ _ x y| .uf _ _ _ x y| .copy _ x y=>[x,y]
 | .alloc _ _=>[]
 | .build _ _ ps| .cP _ _ _ ps=>ps.map (·.2)
 | .zE _ _ x lo hi mx| .slice _ x lo hi mx=>x::(lo.toList++hi.toList++mx.toList)
 | .CQ x lo hi=>x::(lo.toList++hi.toList)
 | .mks _ _ _ l c=>[l,c]
 | .wh _ l=>l
 | .call _ l=>l
 | .pS _ x l=>x::l
 | .fail=>[]
 | .yU _ x y| .M8 _ x y=>[x,y]
 | .s2a _ _ x| .PZ _ x=>[x]
 | .mnz x| .mkf _ x| .clr _ _ x=>[x]
 | .P0 x y=>[x,y]
 | .mkm _ _=>[]
 | .pU _ _ m x v=>[m,x,v]
 | .M9 _ _ _ _ m x=>[m,x]
def gz:Op->Bool
 | .store _ _ _=>false
 | .mapUpdate _ _ _ _=>false
 | .call c=>match c.callee with
  | .builtin .append=>false
  | .builtin .copy=>false
  | .builtin .clear=>false
  | _=>true
 | _=>true
def v7(ops:List Oper)(i j:Nat):Bool:=
 match ops[i]? with
 |some o=>o.after.toList.any λe=>Region.binds .any e&&e.on==j
 |none=>false
def wm:List X->List Nat
 |[]=>[]
 | .tmp t::l=>t::wm l
 | _::l=>wm l
def ov(o:aS):List Nat:=wm o.op.xs++(match o.guard with|some (t,_)=>[t]|none=>[])
def bz(al:List aS)(j:Nat):Option Nat:=match al[j]? with|some o=>o.dst|none=>none
def dOK(ops:List Oper)(al:List aS)(m:Nat):Bool:=
 Nat.ble m ops.length&&
 (List.range ops.length).all (λi=>match ops[i]? with
  |some o=>o.after.toList.all λe=>!Region.binds .any e||Nat.blt e.on i
  |none=>true)&&
 (List.range m).all (λi=>match al[i]?,ops[i]? with
  |some x,some o=>lR x.op&&gz o.op&&
   (List.range m).all (λj=>j==i||x.dst.isNone||bz al j !=x.dst)&&
   (ov x).all λt=>(List.range m).all λj=>bz al j !=some t||v7 ops i j
  | _,_=>false)&&
 (List.range ops.length).all (λi=>Nat.blt i m||(List.range i).all λj=>v7 ops i j||(List.range i).any λk=>Nat.blt j k&&v7 ops k j)
def P5(ops:List Oper)(al:List aS):Bool:=(List.range (ops.length+1)).any λm=>dOK ops al m
def I3(ops:List Oper):Nat->Nat->Nat->Bool
 |0,_,_=>false
 |n+1,i,j=>v7 ops i j||(List.range i).any λk=>v7 ops i k&&I3 ops n k j
def dly(ops:List Oper)(m i:Nat):List Nat:=(List.range m).filter λj=>!I3 ops 2 i j
def UN (ops : List Oper) (al : List aS) (m : Nat) : Bool :=
 Nat.ble m ops.length&&
 (List.range ops.length).all (λi=>match ops[i]? with
  |some o=>o.after.toList.all λe=>!Region.binds .any e||Nat.blt e.on i
  |none=>true)&&
 (List.range m).all (λi=>match al[i]?,ops[i]? with
  |some x,some o=>lR x.op&&gz o.op&&
   (List.range m).all (λj=>j==i||x.dst.isNone||bz al j !=x.dst)&&
   (ov x).all λt=>(List.range m).all λj=>bz al j !=some t||v7 ops i j
  | _,_=>false)&&
 (List.range ops.length).all (λi=>Nat.blt i m||(match al[i]? with
  | some x => (List.range i).all λj => I3 ops 2 i j || (Nat.blt j m && (match al[j]? with
   |some y=>y.guard.isNone&&(match y.dst with
    |some t=>x.dst !=some t&&!(ov x).contains t
    |none=>false)
   |none=>false))
  |none=>false))
def XJ:List Oper->List aS->Nat
 |o::ops,x::al=>bif lR x.op&&gz o.op then XJ ops al+1 else 0
 | _,_=>0
def mQ(ops:List Oper)(al:List aS):Nat:=((List.range (XJ ops al+1)).reverse.find? λm=>UN ops al m).getD 0
def Eg(ops:List Oper)(al:List aS)(m:Nat):Nat->Nat->List (aS×List aS)
 | _,0=>[]
 |k,n+1=>match al[k]? with
  |some x=>(x,(dly ops m k).filterMap λj=>al[j]?)::Eg ops al m (k+1) n
  |none=>[]
def drawC(ops:List Oper)(al:List aS)(m:Nat):aA:= .draw (al.take m) ((dly ops m m).filterMap λj=>al[j]?) (Eg ops al m m (ops.length-m))
def XK(al:List aS):Bool:=al.any λx=>match x.op with| .call _ _=>true| _=>false
def KV(ops:List Oper)(al:List aS):Option Nat:=(List.range (ops.length+1)).find? λm=>dOK ops al m
def Gc(ops:List Oper)(al:List aS):aA:=match KV ops al with
 |some m=>bif XK (al.drop m)then .AL (al.take m) (al.drop m)else .region true al
 |none=> .region true al
mutual
def E6:D->Bool
 | .raw _=>true
 | .agg _ l=>SV l
 | _=>false
def SV:List D->Bool
 |[]=>true
 |d::l=>E6 d&&SV l
end
def CV:nh->Bool
 | .alloc _ z=>E6 z
 | .cP s _ _ _=>s.pure
 | .call _ _=>false
 |o=>lR o
def plainA:nh->Bool
 | .alloc _ _=>false
 | .cP _ _ _ _=>false
 | _=>true
def ordF:List Nat:=[30]
def hasF(al:List aS):Bool:=al.any λx=>match x.op with| .call f _=>ordF.contains f| _=>false
def fOK(ops:List Oper)(al:List aS)(i:Nat):Bool:=match ops[i]?,al[i]? with
 |some o,some x=>CV x.op&&gz o.op&&(x.guard.isNone||plainA x.op&&hasF al)&&x.dst.isSome
 | _,_=>false
def okF1(ops:List Oper)(al:List aS)(prev:Option Nat)(F:List Nat)(i:Nat):Bool:=
 fOK ops al i&&!F.contains i&&F.all (λj=>bz al j !=bz al i)&&(match prev with
  |some c=>I3 ops 2 i c
  |none=>true)&&(match al[i]? with
  |some x=>(ov x).all λt=>(List.range ops.length).all λj=>bz al j !=some t||v7 ops i j
  |none=>false)
def CW(ops:List Oper)(al:List aS)(prev:Option Nat):List Nat->List Nat->Bool
 | _,[]=>true
 |F,i::l=>okF1 ops al prev F i&&CW ops al prev (F++[i]) l
def okC(ops:List Oper)(al:List aS)(prev:Option Nat)(F:List Nat)(c:Nat):Bool:=
 !F.contains c&&(match prev with
  |some p=>I3 ops 2 c p
  |none=>true)&&(match al[c]? with
  |some x=>F.all λf=>I3 ops 2 c f||(match bz al f with
   |some t=>x.dst !=some t&&!(ov x).contains t
   |none=>false)
  |none=>false)
def Xf(ops:List Oper)(al:List aS):Option Nat->List Nat->List (Nat×List Nat)->Bool
 | _,_,[]=>true
 |prev,F,(c,fl)::gs=>okC ops al prev F c&&gs.all (λg=>g.1 !=c)&&!fl.contains c&&CW ops al (some c) F fl&&Xf ops al (some c) (F++fl) gs
def IW(gs:List (Nat×List Nat))(i:Nat):Bool:=gs.any λg=>g.1==i||g.2.contains i
def UO(ops:List Oper)(al:List aS)(f0:List Nat)(gs:List (Nat×List Nat)):Bool:=
 (List.range ops.length).all (λi=>match ops[i]? with
  |some o=>o.after.toList.all λe=>!Region.binds .any e||Nat.blt e.on i
  |none=>true)&&
 (List.range ops.length).all (λi=>f0.contains i||IW gs i)&&CW ops al none [] f0&&Xf ops al none f0 gs
def plan0(ops:List Oper)(al:List aS):List Nat:=(List.range ops.length).foldl (λF i=>bif fOK ops al i&&(List.range i).all (λj=>!v7 ops i j||F.contains j)then F++[i]else F) []
def SW(ops:List Oper)(al:List aS):List Nat->Option (Nat×List Nat)->List (Nat×List Nat)
 |[],none=>[]
 |[],some g=>[g]
 |i::l,none=>SW ops al l (some (i,[]))
 |i::l,some (c,fl)=>bif fOK ops al i&&I3 ops 2 i c then SW ops al l (some (c,fl++[i]))else(c,fl)::SW ops al l (some (i,[]))
def atL(al:List aS)(l:List Nat):List aS:=l.filterMap λj=>al[j]?
def Nf(ops:List Oper)(F:List Nat)(c:Nat):List Nat:=F.filter λj=>!I3 ops 2 c j
def noG(x:aS):aS:=⟨x.dst,x.op,none⟩
def atU(al:List aS)(l:List Nat):List aS:=(atL al l).map noG
def Gd(ops:List Oper)(al:List aS):List Nat->List (Nat×List Nat)->List (aS×List aS×List aS)
 | _,[]=>[]
 |F,(c,fl)::gs=>match al[c]? with
  |some x=>(x,atU al fl,atL al (Nf ops F c++fl))::Gd ops al (Nf ops F c++fl) gs
  |none=>[]
def drawF(ops:List Oper)(al:List aS)(f0:List Nat)(gs:List (Nat×List Nat)):aA:= .SS (atU al f0) (atL al f0) (Gd ops al f0 gs)
def E7(ops:List Oper)(al:List aS):List Nat×List (Nat×List Nat):=(plan0 ops al,SW ops al ((List.range ops.length).filter λi=>!(plan0 ops al).contains i) none)
def XL:aA:= .region false [⟨none,.fail,none⟩]
def comp(P:Program)(n:Nat):Code->Option aA
 | .skip=>some .skip
 | .region _ ops draw => match wl P n ops.toList ops.toList with
  |some l=>bif !draw then some (.region false l)else
   bif hasF l&&(P.follows .mixedOrders&&UO ops.toList l (E7 ops.toList l).1 (E7 ops.toList l).2)then some (drawF ops.toList l (E7 ops.toList l).1 (E7 ops.toList l).2)else
   bif P.follows .mixedOrders&&P5 ops.toList l then some (Gc ops.toList l)else
   bif P.follows .mixedOrders&&UN ops.toList l (mQ ops.toList l)then some (drawC ops.toList l (mQ ops.toList l))else
   bif P.follows .mixedOrders&&UO ops.toList l (E7 ops.toList l).1 (E7 ops.toList l).2 then some (drawF ops.toList l (E7 ops.toList l).1 (E7 ops.toList l).2)else some XL
  |none=>some XL
 | .seq a b=>o2 (comp P n a) λa=>o2 (comp P n b) λb=>some (.seq a b)
 | .cond c a b=>o2 (cX c) λc=>o2 (comp P n a) λa=>o2 (comp P n b) λb=>some (.cond c a b)
 | .block id a=>o2 (comp P n a) λa=>some (.block id a)
 | .loop a=>o2 (comp P n a) λa=>some (.loop a)
 | .exit id=>some (.exit id)
 | .ret=>some .ret
 | _=>some XL
end Go.Am
namespace Go.Am
structure aW {α β:Type} (R:α->β->Prop) (l:List α) (m:List β):Prop where
 len:l.length=m.length
 at_:∀(i:Nat) (a:α) (b:β),l[i]?=some a->m[i]?=some b->R a b
theorem aW.nil{α β:Type}{R:α->β->Prop}:aW R [] []:=⟨rfl,by simp⟩
theorem aW.mono{α β:Type}{R S:α->β->Prop}{l:List α}{m:List β}(h:aW R l m)(hs:∀a b,R a b->S a b):aW S l m:=
 ⟨h.len,λi a b ha hb=>hs _ _ (h.at_ i a b ha hb)⟩
theorem aW.append{α β:Type}{R:α->β->Prop}{l l':List α}{m m':List β}(h:aW R l m)(h':aW R l' m'):aW R (l++l') (m++m'):=by
 refine⟨by simp[h.len,h'.len],λi a b ha hb=>?_⟩
 rw[adY]at ha hb
 have hl:=h.len
 by_cases hi:i<l.length
 ·rw[aaM hi]at ha
  rw[aaM (by omega)]at hb
  exact h.at_ i a b ha hb
 ·rw[aaE hi]at ha
  rw[aaE (by omega)]at hb
  exact h'.at_ (i-l.length) a b ha (by rw[hl];exact hb)
theorem aW.take{α β:Type}{R:α->β->Prop}{l:List α}{m:List β}(h:aW R l m)(n:Nat):aW R (l.take n) (m.take n):=by
 refine⟨by simp[h.len],λi a b ha hb=>?_⟩
 rw[abA]at ha hb
 split at ha
 ·rename_i hi
  rw[aaM hi]at hb
  exact h.at_ i a b ha hb
 ·cases ha
theorem aW.drop{α β:Type}{R:α->β->Prop}{l:List α}{m:List β}(h:aW R l m)(n:Nat):aW R (l.drop n) (m.drop n):=by
 refine⟨by simp[h.len],λi a b ha hb=>?_⟩
 rw[abh]at ha hb
 exact h.at_ _ a b ha hb
theorem aW.left{α β:Type}{R:α->β->Prop}{l l':List α}{m m':List β}(h:aW R (l++l') (m++m'))(hl:l.length=m.length):aW R l m:=by
 have:=h.take l.length
 rwa [aa3,hl,aa3]at this
theorem aW.right{α β:Type}{R:α->β->Prop}{l l':List α}{m m':List β}(h:aW R (l++l') (m++m'))(hl:l.length=m.length):aW R l' m':=by
 have:=h.drop l.length
 rwa [abi,hl,abi]at this
theorem aW.single{α β:Type}{R:α->β->Prop}{a:α}{b:β}(h:R a b):aW R [a] [b]:=by
 refine⟨rfl,λi x y hx hy=>?_⟩
 cases i with
 |zero=>simp at hx hy;subst hx;subst hy;exact h
 |succ i=>simp at hx
theorem aW.cons{α β:Type}{R:α->β->Prop}{a:α}{b:β}{l:List α}{m:List β}(h:R a b)(h':aW R l m):aW R (a::l) (b::m):=
 (aW.single h).append h'
theorem aW.head{α β:Type}{R:α->β->Prop}{a:α}{b:β}{l:List α}{m:List β}(h:aW R (a::l) (b::m)):R a b:=h.at_ 0 a b rfl rfl
theorem aW.tail{α β:Type}{R:α->β->Prop}{a:α}{b:β}{l:List α}{m:List β}(h:aW R (a::l) (b::m)):aW R l m:=
 aW.right (l:=[a]) (m:=[b]) h rfl
theorem aW.some{α β:Type}{R:α->β->Prop}{l:List α}{m:List β}(h:aW R l m){i:Nat}{a:α}(ha:l[i]?=some a):∃b,m[i]?=some b/\R a b:=by
 have hi:i<l.length:=by
  rcases aa1 i l.length with h'|h'
  ·exact h'
  ·simp[abk h']at ha
 have hm:i<m.length:=by have:=h.len;omega
 exact⟨m[i],aaw hm,h.at_ i a _ ha (aaw hm)⟩
theorem dJ(l m:List D):au (l++m)=au l++au m:=by
 induction l with
 |nil=>simp[au]
 |cons d l ih=>simp[au,ih]
theorem fT{l:List D}{i:Nat}{d:D}(h:l[i]?=some d):au l=au (l.take i)++(d.flat++au (l.drop (i+1))):=by
 have hi:i<l.length:=by
  rcases aa1 i l.length with h'|h'
  ·exact h'
  ·simp[abk h']at h
 have hd:l[i]=d:=by rw[aaw hi]at h;exact abe h
 have zI:l=l.take i++d::l.drop (i+1):=by
  rw[<-hd,<-abF hi,abq]
 calc au l=au (l.take i++d::l.drop (i+1)):=by rw[<-zI]
  _=_:=by rw[dJ];simp[au]
theorem CX{l:List D}{i:Nat}{d:D}(h:i<l.length):au (l.set i d)=au (l.take i)++(d.flat++au (l.drop (i+1))):=by
 have h1:(l.set i d)[i]?=some d:=by simp[h]
 rw[fT h1]
 congr 2
 ·rw[List.take_set_of_le (aaL _)]
 ·rw[List.drop_set_of_lt (by omega)]
theorem KW:∀(s:Sh) (l:List D),s.isAgg=true->l.length=s.count->(∀i e d,s.sub i=some e->l[i]?=some d->d.flat.length=e.size)->
  (au l).length=s.size/\∀i,i<=l.length->(au (l.take i)).length=s.j8 i\/(i=l.length)
 | .nil,l,_,hl,_=>by
  simp[Sh.count]at hl
  subst hl
  simp[au,Sh.size]
 | .cons a b,[],_,hl,_=>by simp[Sh.count]at hl
 | .cons a b, x :: l, ha, hl, h => by
  have hb:=KW b l (by simpa[Sh.isAgg]using ha) (by simpa[Sh.count]using hl) (λi e d hs hd=>h (i+1) e d (by simpa[Sh.sub]using hs) (by simpa using hd))
  have h0:=h 0 a x rfl rfl
  refine⟨by simp[au,Sh.size,h0,hb.1],λi hi=>?_⟩
  cases i with
  |zero=>left;simp[au,Sh.j8]
  |succ i=>
   rcases hb.2 i (by simpa using hi)with h1|h1
   ·left;simp[au,Sh.j8,h0,h1]
   ·right;simp[h1]
 | .ar n s, l, _, hl, h => by
  have mC:l.length=n:=hl
  have key:∀(m:List D) (k:Nat),(∀d,d∈m->d.flat.length=s.size)->(au m).length=m.length*s.size:=by
   intro m k hm
   induction m with
   |nil=>simp[au]
   |cons d m ih=>
    have h1:=hm d (by simp)
    have h2:=ih (λe he=>hm e (by simp[he]))
    simp[au,h1,h2,acM,aep]
  have bN:∀d,d∈l->d.flat.length=s.size:=by
   intro d hd
   obtain⟨i,hi,rfl⟩:=aa8.1 hd
   exact h i s _ (by simp[Sh.sub];omega) (aaw hi)
  refine⟨by rw[key l 0 bN,mC];rfl,λi hi=> .inl ?_⟩
  rw[key (l.take i) 0 (λd hd=>bN d (aa5 hd)),aaF,abK hi]
  rfl
 | .leaf _,_,h,_,_=>by simp[Sh.isAgg]at h
 | .ref,_,h,_,_=>by simp[Sh.isAgg]at h
theorem Ge{v:Value}{k:Sc}(h:nQ v k=true):v.oneCell'=true:=by
 cases v<;>cases k<;>simp_all[nQ,Value.oneCell']
theorem b9{d:D}(h:d.eN=true):d.flat=[d]:=by
 cases d<;>simp_all[D.eN,D.flat]
theorem aL.len{s:Sh}{d:D}(h:aL s d):d.flat.length=s.size:=by
 induction h with
 |leaf k v hv=>simp[D.flat,Sh.size]
 |ref d hd=>simp[b9 hd,Sh.size]
 |agg s l ha hl fG ih=>simpa[D.flat]using(KW s l ha hl ih).1
theorem aL.jl{s:Sh}{d:D}(h:aL s d)(ha:s.isAgg=true):∃l,d= .agg s l/\l.length=s.count/\∀i e d,s.sub i=some e->l[i]?=some d->aL e d:=by
 cases h with
 |leaf k v hv=>simp[Sh.isAgg]at ha
 |ref d hd=>simp[Sh.isAgg]at ha
 |agg s l _ hl fG=>exact⟨l,rfl,hl,fG⟩
theorem aL.pW{s:Sh}{d:D}(h:aL s d)(ha:s.isAgg=false):d.eN=true:=by
 cases h with
 |leaf k v hv=>simp[D.eN];exact Ge hv
 |ref d hd=>exact hd
 |agg s l h _ _=>simp[h]at ha
theorem Jz:∀{s:Sh} {i:Nat} {e:Sh},s.sub i=some e->s.isAgg=true\/s.isAgg=false->i<s.count
 | .cons a b,0,e,h,_=>by simp[Sh.count]
 | .cons a b,i+1,e,h,_=>by
  have:=Jz (s:=b) (i:=i) (e:=e) (by simpa[Sh.sub]using h) (by cases b.isAgg<;>simp)
  simp[Sh.count];omega
 | .ar n s,i,e,h,_=>by
  simp only[Sh.sub]at h
  split at h
  ·simpa[Sh.count]
  ·cases h
 | .leaf _,_,_,h,_=>by simp[Sh.sub]at h
 | .ref,_,_,h,_=>by simp[Sh.sub]at h
 | .nil,_,_,h,_=>by simp[Sh.sub]at h
theorem sub_lt{s:Sh}{i:Nat}{e:Sh}(h:s.sub i=some e):i<s.count:=Jz h (by cases s.isAgg<;>simp)
theorem lY:∀{s:Sh} {i:Nat},i<s.count->∃e,s.sub i=some e
 | .cons a b,0,_=>⟨a,rfl⟩
 | .cons a b,i+1,h=>by
  obtain⟨e,he⟩:=lY (s:=b) (i:=i) (by simp[Sh.count]at h;omega)
  exact⟨e,by simpa[Sh.sub]using he⟩
 | .ar n s,i,h=>⟨s,by simp[Sh.sub];simpa[Sh.count]using h⟩
 | .leaf _,_,h=>by simp[Sh.count]at h
 | .ref,_,h=>by simp[Sh.count]at h
 | .nil,_,h=>by simp[Sh.count]at h
theorem aL.part{s:Sh}{l:List D}(h:aL s (.agg s l))(ha:s.isAgg=true){i:Nat}{e:Sh}(hs:s.sub i=some e):
  ∃d,l[i]?=some d/\aL e d/\(au (l.take i)).length=s.j8 i:=by
 obtain⟨l',mC,hlen,fG⟩:=h.jl ha
 cases mC
 have hi:i<l.length:=by rw[hlen];exact sub_lt hs
 refine⟨l[i],aaw hi,fG i e _ hs (aaw hi),?_⟩
 rcases(KW s l ha hlen (λi e d h1 h2=>(fG i e d h1 h2).len)).2 i (by omega)with h1|h1
 ·exact h1
 ·omega
theorem aL.SX{s:Sh}{l:List D}(h:aL s (.agg s l))(ha:s.isAgg=true){i:Nat}{e:Sh}{d:D}(hs:s.sub i=some e)(hd:aL e d):aL s (.agg s (l.set i d)):=by
 obtain⟨l',mC,hlen,fG⟩:=h.jl ha
 cases mC
 refine .agg s _ ha (by simp[hlen]) λj e' d' hj jP=>?_
 rw[ac5]at jP
 split at jP
 ·rename_i UP
  subst UP
  split at jP
  ·cases jP
   rw[hs]at hj
   cases hj
   exact hd
  ·cases jP
 ·exact fG j e' d' hj jP
theorem Ng{s:Sh}{i:Nat}{p:List Nat}{e:Sh}{d:D}(hd:aL s d)(h:s.at (i::p)=some e):∃u l,s.sub i=some u/\u.at p=some e/\s.isAgg=true/\d= .agg s l:=by
 simp only[Sh.at]at h
 cases hs:s.sub i with
 |none=>simp[hs]at h
 | some u =>
  simp only[hs]at h
  have ha:s.isAgg=true:=by
   cases hd with
   |leaf k v hv=>simp[Sh.sub]at hs
   |ref d hd=>simp[Sh.sub]at hs
   |agg s l h _ _=>exact h
  obtain⟨l,rfl,_⟩:=hd.jl ha
  exact⟨u,l,rfl,h,ha,rfl⟩
theorem Nh:∀(p:List Nat) {s e:Sh} {d:D},aL s d->s.at p=some e->
  ∃d' pre post,d.get p=some d'/\aL e d'/\d.flat=pre++(d'.flat++post)/\pre.length=s.off p
 |[],s,e,d,h,he=>by
  simp[Sh.at]at he
  subst he
  exact⟨d,[],[],by simp[D.get],h,by simp,by simp[Sh.off]⟩
 | i :: p, s, e, d, h, he => by
  obtain⟨u,l,hs,hu,ha,rfl⟩:=Ng h he
  obtain⟨x,hx,P6,nV⟩:=h.part ha hs
  obtain⟨d',pre,post,hg,jP,hf,hp⟩:=Nh p P6 hu
  refine⟨d',au (l.take i)++pre,post++au (l.drop (i+1)),by simp[D.get,hx,hg],jP,?_,?_⟩
  ·simp only[D.flat]
   rw[fT hx,hf]
   simp
  ·simp[Sh.off,hs,nV,hp]
theorem Ni:∀(p:List Nat) {s e:Sh} {d x:D},aL s d->s.at p=some e->aL e x->
  ∃d' o pre post,d.set p x=some d'/\aL s d'/\d.flat=pre++(o++post)/\d'.flat=pre++(x.flat++post)/\pre.length=s.off p/\o.length=x.flat.length
 |[],s,e,d,x,h,he,hx=>by
  simp[Sh.at]at he
  subst he
  exact⟨x,d.flat,[],[],by simp[D.set],hx,by simp,by simp,by simp[Sh.off],by rw[h.len,hx.len]⟩
 | i :: p, s, e, d, x, h, he, hx => by
  obtain⟨u,l,hs,hu,ha,rfl⟩:=Ng h he
  obtain⟨y,hy,hys,nV⟩:=h.part ha hs
  obtain⟨d',o,pre,post,hg,jP,hf,hf',hp,ho⟩:=Ni p hys hu hx
  have hi:i<l.length:=by
   rcases aa1 i l.length with h'|h'
   ·exact h'
   ·simp[abk h']at hy
  refine⟨.agg s (l.set i d'),o,au (l.take i)++pre,post++au (l.drop (i+1)),by simp[D.set,hy,hg],h.SX ha hs jP,?_,?_,?_,ho⟩
  ·simp only[D.flat]
   rw[fT hy,hf]
   simp
  ·simp only[D.flat]
   rw[CX hi,hf']
   simp
  ·simp[Sh.off,hs,nV,hp]
theorem xX:∀(p:List Nat) {s e:Sh} (i:Nat),s.at p=some e->s.at (p++[i])=e.sub i
 |[],s,e,i,h=>by
  simp[Sh.at]at h
  subst h
  simp only[abr,Sh.at]
  cases s.sub i<;>rfl
 |j::p,s,e,i,h=>by
  simp only[Sh.at,acI]at h⊢
  cases hs:s.sub j with
  |none=>simp[hs]at h
  |some u=>simp only[hs]at h⊢;exact xX p i h
theorem Nj:∀(p:List Nat) {s e:Sh} (i:Nat),s.at p=some e->s.off (p++[i])=s.off p+e.j8 i
 |[],s,e,i,h=>by
  simp[Sh.at]at h
  subst h
  simp only[abr,Sh.off]
  cases s.sub i<;>simp[Sh.off]
 | j :: p, s, e, i, h => by
  simp only[Sh.at,Sh.off,acI]at h⊢
  cases hs:s.sub j with
  |none=>simp[hs]at h
  |some u=>
   simp only[hs]at h⊢
   rw[Nj p i h]
   omega
theorem bb{s:Sh}:∀{l:List D},(∀d∈l,aL s d)->(au l).length=l.length*s.size
 |[],_=>by simp[au]
 |d::l,h=>by
  have h1:=(h d (by simp)).len
  have h2:=bb (l:=l) (λe he=>h e (by simp[he]))
  simp[au,h1,h2,acM,aep]
theorem bH{α:Type}{l:List α}{i:Nat}{d:α}(h:l[i]?=some d):d∈l:=abR h
theorem cU{α:Type}{l:List α}{i:Nat}{d:α}(h:l[i]?=some d):i<l.length:=by
 rcases aa1 i l.length with h'|h'
 ·exact h'
 ·simp[abk h']at h
theorem wo{s e:Sh}{els:List D}{i:Nat}{p:List Nat}{d:D}(h:∀d∈els,aL s d)(he:s.at p=some e)(hg:cF els (i::p)=some d):
  aL e d/\i<els.length/\∃pre post,au els=pre++(d.flat++post)/\pre.length=i*s.size+s.off p:=by
 simp only[cF]at hg
 cases hx:els[i]? with
 |none=>simp[hx]at hg
 |some x=>
  simp only[hx]at hg
  obtain⟨d',pre,post,h1,h2,h3,h4⟩:=Nh p (h x (bH hx)) he
  rw[hg]at h1
  cases h1
  refine⟨h2,cU hx,au (els.take i)++pre,post++au (els.drop (i+1)),?_,?_⟩
  ·rw[fT hx,h3];simp
  ·rw[aax,h4,bb (λd hd=>h d (aa5 hd)),aaF,abK (aeq (cU hx))]
theorem Eh{s e:Sh}{els els':List D}{i:Nat}{p:List Nat}{x:D}(h:∀d∈els,aL s d)(he:s.at p=some e)(hx:aL e x)(hg:lO els (i::p) x=some els'):
  (∀d∈els',aL s d)/\els'.length=els.length/\i<els.length/\∃pre o post,au els=pre++(o++post)/\au els'=pre++(x.flat++post)/\pre.length=i*s.size+s.off p/\o.length=x.flat.length:=by
 simp only[lO]at hg
 cases hy:els[i]? with
 |none=>simp[hy]at hg
 | some y =>
  simp only[hy]at hg
  obtain⟨d',o,pre,post,h1,h2,h3,h4,h5,h6⟩:=Ni p (h y (bH hy)) he hx
  simp only[h1]at hg
  cases hg
  have hi:=cU hy
  refine⟨λd hd=>?_,by simp,hi,au (els.take i)++pre,o,post++au (els.drop (i+1)),?_,?_,?_,h6⟩
  ·rcases adz hd with h'|h'
   ·exact h d h'
   ·exact h'▸h2
  ·rw[fT hy,h3];simp
  ·rw[CX hi,h4];simp
  ·rw[aax,h5,bb (λd hd=>h d (aa5 hd)),aaF,abK (aeq hi)]
end Go.Am
namespace Go.Am
structure Loc where
 b:Nat
 sh:Sh
 room:Nat
 mp:Bool
def Loc.at(L:Loc):List Nat->Option Sh
 |[]=>none
 |i::p=>bif L.mp then none else L.sh.at p
theorem Loc.Gf{L:Loc}{p:List Nat}{s:Sh}(h:L.at p=some s):L.mp=false:=by
 cases p with
 |nil=>simp[Loc.at]at h
 |cons i p=>cases hm:L.mp<;>simp[Loc.at,hm]at h⊢
theorem Loc.xY{L:Loc}{i:Nat}{p:List Nat}(h:L.mp=false):L.at (i::p)=L.sh.at p:=by simp[Loc.at,h]
def Loc.off(L:Loc):List Nat->Nat
 |[]=>0
 |i::p=>i*L.sh.size+L.sh.off p
abbrev Pl:=Nat->Option Loc
def firstM:List D->Value->Value->Prop
 |[],_,_=>False
 |d::l,k,v=>match Ee d with
  |some (k',v')=>(kv k'=k/\v'=v)\/(kv k'≠k/\firstM l k v)
  |none=>False
structure pX (s:Sh) (l:List D) (es:Array MapEntry):Prop where
 pure:s.pure=true
 key:∀e∈es.toList,∃kd ks,s.sub 0=some ks/\aL ks kd/\e.key=kv kd
 jQ:es.toList.Pairwise (λa b=>a.key≠b.key)
 at_:∀k v,(∃e∈es.toList,e.key=k/\e.val=v)↔firstM l k v
inductive LR (ρ:Pl) (w:World) (T:Nat->Prop):D->Value->Prop where
 |raw (v:Value):v.oneCell'=true->LR ρ w T (.raw v) v
 |ptr (s:Sh) (r:Nat) (p:List Nat) (L:Loc):ρ r=some L->L.at p=some s->LR ρ w T (.ptr s r p) (.pointer (some ⟨L.b,L.off p,none⟩))
 | sl (s : Sh) (r : Nat) (p : List Nat) (off len : Nat) (ex : Bool) (L : Loc) (cap : Nat) : ρ r = some L -> len <= cap -> (ex = true -> cap = len) ->
   ((p=[]/\s=L.sh/\L.mp=false/\(off+cap)*s.size<=L.room)\/∃n,L.at p=some (.ar n s)/\off+cap<=n)->
   LR ρ w T (.sl s r p off len ex) (.slice (some ⟨L.b,L.off p+off*s.size,none⟩) len cap)
 |AE (s:Sh) (r:Nat) (p:List Nat) (off:Nat) (ex:Bool) (a:Option Addr):LR ρ w T (.sl s r p off 0 ex) (.slice a 0 0)
 | nk (n : Nat) (s : Sh) (r : Nat) (p : List Nat) (off : Nat) (L : Loc) : ρ r = some L -> ((p = [] /\ s = L.sh /\ L.mp = false /\ (off + n) * s.size <= L.room) \/ ∃ m, L.at p = some (.ar m s) /\ off + n <= m) ->
   LR ρ w T (.nk n s r p off) (.pointer (some ⟨L.b,L.off p+off*s.size,none⟩))
 |pq (s:Sh) (ex:Bool) (a:Option Addr) (cap:Nat):(ex=true->cap=0)->(a=none->cap=0)->LR ρ w T (.cD s [] ex) (.slice a 0 cap)
 | cD (s : Sh) (l : List D) (ex : Bool) (b o cap : Nat) (f : Nat -> Value) : (∀ d ∈ l, aL s d) -> T b ->
   (∀i d,(au l)[i]?=some d->w.cell? ⟨b,o+i,none⟩=some (f i))->(∀i d,(au l)[i]?=some d->LR ρ w T d (f i))->
   l.length<=cap->(ex=true->cap=l.length)->LR ρ w T (.cD s l ex) (.slice (some ⟨b,o,none⟩) l.length cap)
 | b5 (s : Sh) (d : D) (b o : Nat) (f : Nat -> Value) : aL s d -> T b ->
   (∀i x,d.flat[i]?=some x->w.cell? ⟨b,o+i,none⟩=some (f i))->(∀i x,d.flat[i]?=some x->LR ρ w T x (f i))->
   LR ρ w T (.b5 d) (.pointer (some ⟨b,o,none⟩))
 |mp (r:Nat) (L:Loc):ρ r=some L->L.mp=true->LR ρ w T (.mp r) (.map (some L.b))
 |Ed (f:Nat) (s:Sh) (r:Nat) (p:List Nat) (L:Loc):ρ r=some L->L.at p=some s->LR ρ w T (.Ed f s r p) (.func (.func f) #[] #[.pointer (some ⟨L.b,L.off p,none⟩)])
 |om (s:Sh) (l:List D) (b:Nat) (es:Array MapEntry) (clock:Nat):(∀d∈l,aL s d)->T b->w.heap[b]?=some (.map es clock)->pX s l es->LR ρ w T (.om s l) (.map (some b))
theorem LR.Gg{s:Sh}{p:List Nat}{c n:Nat}{L:Loc}(h:(p=[]/\s=L.sh/\L.mp=false/\c<=L.room)\/∃n',L.at p=some (.ar n' s)/\n<=n'):L.mp=false:=by
 rcases h with⟨_,_,h,_⟩|⟨_,h,_⟩
 ·exact h
 ·exact Loc.Gf h
theorem LR.mono{ρ ρ':Pl}{w w':World}{T T':Nat->Prop}{d:D}{v:Value}(h:LR ρ w T d v)(hρ:∀r L,ρ r=some L->ρ' r=some L)
  (hw:∀b,T b->w'.heap[b]?=w.heap[b]?)(hT:∀b,T b->T' b):LR ρ' w' T' d v:=by
 induction h with
 |raw v hv=>exact .raw v hv
 |ptr s r p L hL hp=>exact .ptr s r p L (hρ _ _ hL) hp
 |sl s r p off len ex L cap hL h1 h2 h3=>exact .sl s r p off len ex L cap (hρ _ _ hL) h1 h2 h3
 |AE s r p off ex a=>exact .AE s r p off ex a
 |nk n s r p off L hL h1=>exact .nk n s r p off L (hρ _ _ hL) h1
 |pq s ex a cap h1 h2=>exact .pq s ex a cap h1 h2
 |cD s l ex b o cap f h1 hb h2 _ h4 h5 ih=>exact .cD s l ex b o cap f h1 (hT b hb) (λi d hd=>(World.cell?_of_block (a:=⟨b,o+i,none⟩) (hw b hb)).trans (h2 i d hd)) ih h4 h5
 |b5 s d b o f h1 hb h2 _ ih=>exact .b5 s d b o f h1 (hT b hb) (λi x hx=>(World.cell?_of_block (a:=⟨b,o+i,none⟩) (hw b hb)).trans (h2 i x hx)) ih
 |mp r L h1 h2=>exact .mp r L (hρ _ _ h1) h2
 |Ed f s r p L hL hp=>exact .Ed f s r p L (hρ _ _ hL) hp
 |om s l b es clock h1 hb h2 h3=>exact .om s l b es clock h1 (hT b hb) ((hw b hb).trans h2) h3
theorem LR.one{ρ:Pl}{w:World}{T:Nat->Prop}{d:D}{v:Value}(h:LR ρ w T d v):v.oneCell'=true:=by
 cases h<;>first|assumption|rfl
theorem LR.leaf{ρ:Pl}{w:World}{T:Nat->Prop}{d:D}{v:Value}(h:LR ρ w T d v):d.eN=true:=by
 cases h<;>first|rfl|(simpa[D.eN])
def qU(ρ:Pl)(w:World)(T:Nat->Prop)(d:D)(v:Value):Prop:=
 match d with
 | .agg s l=>∃cs:Array Value,v= .agg cs/\aL s (.agg s l)/\aW (LR ρ w T) (au l) cs.toList
 |d=>LR ρ w T d v
def VR(ρ:Pl)(w:World)(T:Nat->Prop)(d:D)(v:Value):Prop:=
 match d with
 | .cB l=>∃vs:Array Value,v= .tuple vs/\aW (qU ρ w T) l vs.toList
 |d=>qU ρ w T d v
theorem qU.mono{ρ ρ':Pl}{w w':World}{T T':Nat->Prop}{d:D}{v:Value}(h:qU ρ w T d v)(hρ:∀r L,ρ r=some L->ρ' r=some L)
  (hw:∀b,T b->w'.heap[b]?=w.heap[b]?)(hT:∀b,T b->T' b):qU ρ' w' T' d v:=by
 cases d with
 |agg s l=>
  obtain⟨cs,rfl,h1,h2⟩:=h
  exact⟨cs,rfl,h1,h2.mono λa b h=>h.mono hρ hw hT⟩
 | _=>exact LR.mono h hρ hw hT
theorem VR.mono{ρ ρ':Pl}{w w':World}{T T':Nat->Prop}{d:D}{v:Value}(h:VR ρ w T d v)(hρ:∀r L,ρ r=some L->ρ' r=some L)
  (hw:∀b,T b->w'.heap[b]?=w.heap[b]?)(hT:∀b,T b->T' b):VR ρ' w' T' d v:=by
 cases d with
 |cB l=>
  obtain⟨vs,rfl,h1⟩:=h
  exact⟨vs,rfl,h1.mono λa b h=>qU.mono h hρ hw hT⟩
 |agg s l=>exact qU.mono (d:= .agg s l) h hρ hw hT
 | _=>exact LR.mono h hρ hw hT
theorem xZ{v:Value}(h:v.oneCell'=true):v.cells=#[v]:=by cases v<;>simp_all[Value.oneCell',Value.cells]
theorem VR.cells{ρ:Pl}{w:World}{T:Nat->Prop}{d:D}{v:Value}{s:Sh}(h:VR ρ w T d v)(hf:d.fits s=true):
  aL s d/\aW (LR ρ w T) d.flat v.cells.toList/\(s.isAgg=true->∃cs,v= .agg cs)/\(s.isAgg=false->v.oneCell'=true):=by
 cases d with
 |agg t l=>
  simp[D.fits]at hf
  subst hf
  obtain⟨cs,rfl,h1,h2⟩:=h
  refine⟨h1,by simpa[D.flat,Value.cells]using h2,λ_=>⟨cs,rfl⟩,λha=>?_⟩
  have:=h1.pW ha
  simp[D.eN]at this
 |cB l=>cases s<;>simp[D.fits]at hf
 |raw x=>
  have h':LR ρ w T (.raw x) v:=h
  have h1:=h'.one
  have hl:=h'.leaf
  cases s<;>simp[D.fits]at hf
  ·exact⟨.leaf _ x hf,by rw[xZ h1,b9 hl];exact aW.single h',by simp[Sh.isAgg],λ_=>h1⟩
  ·exact⟨.ref _ hl,by rw[xZ h1,b9 hl];exact aW.single h',by simp[Sh.isAgg],λ_=>h1⟩
 | _=>
  have h':LR ρ w T _ v:=h
  have h1:=h'.one
  have hl:=h'.leaf
  cases s<;>simp[D.fits]at hf
  exact⟨.ref _ hl,by rw[xZ h1,b9 hl];exact aW.single h',by simp[Sh.isAgg],λ_=>h1⟩
theorem qU.Nk{ρ:Pl}{w:World}{T:Nat->Prop}{d:D}{s:Sh}{cs:Array Value}(h:aL s d)(ha:s.isAgg=true)(hc:aW (LR ρ w T) d.flat cs.toList):qU ρ w T d (.agg cs):=by
 obtain⟨l,rfl,_⟩:=h.jl ha
 exact⟨cs,rfl,h,by simpa[D.flat]using hc⟩
theorem qU.bB{ρ:Pl}{w:World}{T:Nat->Prop}{d:D}{v:Value}(hc:LR ρ w T d v):qU ρ w T d v:=by
 cases d<;>first|exact hc|cases hc
theorem VR.yZ{ρ:Pl}{w:World}{T:Nat->Prop}{d:D}{v:Value}(hc:qU ρ w T d v):VR ρ w T d v:=by
 cases d<;>first|exact hc|(cases hc)
theorem VR.bB{ρ:Pl}{w:World}{T:Nat->Prop}{d:D}{v:Value}(hc:LR ρ w T d v):VR ρ w T d v:=VR.yZ (qU.bB hc)
theorem VR.raw{ρ:Pl}{w:World}{T:Nat->Prop}{v:Value}(h:v.oneCell'=true):VR ρ w T (.raw v) v:=VR.bB (.raw v h)
theorem VR.ofRaw{ρ:Pl}{w:World}{T:Nat->Prop}{v x:Value}(h:VR ρ w T (.raw x) v):v=x:=by
 have h':LR ρ w T (.raw x) v:=h
 cases h'
 rfl
theorem VR.AS{ρ:Pl}{w:World}{T:Nat->Prop}{d:D}{v:Value}(h:VR ρ w T d v)(hl:d.eN=true):LR ρ w T d v:=by
 cases d<;>first|exact h|simp[D.eN]at hl
def FrOK(n:Nat)(fr:Nat×Nat):Prop:=fr=(0,0)\/n<=fr.1
def ow(w:World)(b:Nat)(cur:Array Value)(t:TypeId):Prop:=∃fr,w.heap[b]?=some (.cells cur t fr)/\FrOK cur.size fr
theorem ow.same{w w':World}{b:Nat}{cur:Array Value}{t:TypeId}(h:ow w b cur t)(hb:w'.heap[b]?=w.heap[b]?):ow w' b cur t:=by
 obtain⟨fr,h1,h2⟩:=h
 exact⟨fr,hb.trans h1,h2⟩
theorem ow.XM{w:World}{b:Nat}{cur pw:Array Value}{t t':TypeId}(h:ow w b cur t)(h':ow w b pw t'):cur=pw/\t=t':=by
 obtain⟨fr,h1,_⟩:=h
 obtain⟨fr',h2,_⟩:=h'
 rw[h1]at h2
 cases h2
 exact⟨rfl,rfl⟩
theorem ow.setRow{w:World}{b:Nat}{cur pw:Array Value}{t:TypeId}(h:ow w b cur t)(hs:pw.size=cur.size):ow (w.setRow b pw) b pw t:=by
 obtain⟨fr,h1,h2⟩:=h
 exact⟨fr,setRow_heap w b cur pw t fr h1,by rw[hs];exact h2⟩
theorem FrOK.not{w:World}{b o:Nat}{cur:Array Value}{t:TypeId}{fr:Nat×Nat}(h1:w.heap[b]?=some (.cells cur t fr))(h2:FrOK cur.size fr)(ho:o<cur.size):w.frozen? ⟨b,o,none⟩=false:=by
 obtain⟨lo,hi⟩:=fr
 rcases h2 with h2|h2
 ·cases h2
  simp[World.frozen?,h1]
 ·simp only[World.frozen?,h1]
  simp at h2
  simp
  omega
def sn(w w':World)(b:Nat):Prop:=∃cur t fr fr',w.heap[b]?=some (.cells cur t fr)/\w'.heap[b]?=some (.cells cur t fr')/\FrOK cur.size fr'
theorem sn.row{w w':World}{b:Nat}{cur:Array Value}{t:TypeId}(h:sn w w' b)(hr:ow w b cur t):ow w' b cur t:=by
 obtain⟨c,t',fr,fr',h1,h2,h3⟩:=h
 obtain⟨fr0,h4,_⟩:=hr
 rw[h1]at h4
 cases h4
 exact⟨fr',h2,h3⟩
structure mF (ρ:Pl) (row:Row) (L:Loc) (w:World) (T:Nat->Prop):Prop where
 sh:L.sh=row.sh
 nu:¬T L.b
 els:∀d∈row.els,aL row.sh d
 cells:L.mp=false->∃cur t,ow w L.b cur t/\L.room<=cur.size/\(au row.els).length<=L.room/\aW (LR ρ w T) (au row.els) (cur.toList.take (au row.els).length)
 pY:L.mp=true->∃es clock,w.heap[L.b]?=some (.map es clock)/\pX row.sh row.els es
def QH(ρ:Pl)(rows:Rows)(w w':World):Prop:=∀b,b<w.heap.size->w'.heap[b]?=w.heap[b]?\/(sn w w' b/\∃r row L,live rows r=some row/\ρ r=some L/\L.b=b)
structure jB (ρ:Pl) (rows:Rows) (w:World) (T:Nat->Prop):Prop where
 row:∀r row L,live rows r=some row->ρ r=some L->mF ρ row L w T
 jQ:∀r r' row row' L L',live rows r=some row->live rows r'=some row'->ρ r=some L->ρ r'=some L'->r≠r'->L.b≠L'.b
theorem mF.lt{ρ:Pl}{row:Row}{L:Loc}{w:World}{T:Nat->Prop}(h:mF ρ row L w T):L.b<w.heap.size:=by
 cases hm:L.mp with
 |false=>
  obtain⟨cur,t,⟨_,hh,_⟩,_⟩:=h.cells hm
  exact(aaZ.1 hh).1
 |true=>
  obtain⟨es,clock,hh,_⟩:=h.pY hm
  exact(aaZ.1 hh).1
theorem mF.mono{ρ ρ':Pl}{row:Row}{L:Loc}{w w':World}{T T':Nat->Prop}(h:mF ρ row L w T)(hρ:∀r L,ρ r=some L->ρ' r=some L)
  (hw:∀b,T b->w'.heap[b]?=w.heap[b]?)(hT:∀b,T b->T' b)(hb:w'.heap[L.b]?=w.heap[L.b]?)(hn:¬T' L.b):mF ρ' row L w' T':=by
 refine⟨h.sh,hn,h.els,λhm=>?_,λhm=>?_⟩
 ·obtain⟨cur,t,h1,h2,h3,h4⟩:=h.cells hm
  exact⟨cur,t,h1.same hb,h2,h3,h4.mono λa b h=>h.mono hρ hw hT⟩
 ·obtain⟨es,clock,h1,h2⟩:=h.pY hm
  exact⟨es,clock,hb.trans h1,h2⟩
theorem mF.XN{ρ ρ':Pl}{row:Row}{L:Loc}{w w':World}{T T':Nat->Prop}(h:mF ρ row L w T)(hρ:∀r L,ρ r=some L->ρ' r=some L)
  (hw:∀b,T b->w'.heap[b]?=w.heap[b]?)(hT:∀b,T b->T' b)(hb:w'.heap[L.b]?=w.heap[L.b]?\/sn w w' L.b)(hn:¬T' L.b):mF ρ' row L w' T':=by
 refine⟨h.sh,hn,h.els,λhm=>?_,λhm=>?_⟩
 ·obtain⟨cur,t,h1,h2,h3,h4⟩:=h.cells hm
  refine⟨cur,t,?_,h2,h3,h4.mono λa b h=>h.mono hρ hw hT⟩
  rcases hb with hb|hb
  ·exact h1.same hb
  ·exact hb.row h1
 ·obtain⟨es,clock,h1,h2⟩:=h.pY hm
  rcases hb with hb|⟨cur,t,fr,fr',h3,_⟩
  ·exact⟨es,clock,hb.trans h1,h2⟩
  ·rw[h1]at h3;cases h3
def Gh(ρ:Pl)(w:World)(T:Nat->Prop)(env:Env)(tmps:Array Value):Prop:=∀t d,look env t=some d->VR ρ w T d (tmps.getD t undef)
theorem Gh.mono{ρ ρ':Pl}{w w':World}{T T':Nat->Prop}{env:Env}{tmps:Array Value}(h:Gh ρ w T env tmps)(hρ:∀r L,ρ r=some L->ρ' r=some L)
  (hw:∀b,T b->w'.heap[b]?=w.heap[b]?)(hT:∀b,T b->T' b):Gh ρ' w' T' env tmps:=λt d hd=>(h t d hd).mono hρ hw hT
theorem Gh.put{ρ:Pl}{w:World}{T:Nat->Prop}{env:Env}{a:Act}{dst:Option Nat}{d:D}{v:Value}(h:Gh ρ w T env a.tmps)(hv:VR ρ w T d v)
  (hd:∀t,dst=some t->t<a.tmps.size):Gh ρ w T (Am.put dst d env) (a.put dst v).tmps:=by
 cases dst with
 |none=>exact h
 | some t =>
  intro t' d' hl
  have ht:=hd t rfl
  simp only[Am.put,look]at hl
  simp only[Act.put]
  cases hb:(t==t')with
  |true=>
   have:t=t':=by simpa using hb
   subst this
   simp[hb]at hl
   subst hl
   simpa[Array.getD,ht]using hv
  |false=>
   have hne:t≠t':=by simpa using hb
   simp[hb]at hl
   have:=h t' d' hl
   simpa[Array.getElem?_setIfInBounds,hne]using this
structure Step (ρ:Pl) (T:Nat->Prop) (rows:Rows) (w:World) (ρ':Pl) (T':Nat->Prop) (aa:Rows) (w':World):Prop where
 pl:∀r L,ρ r=some L->ρ' r=some L
 tt:∀b,T b->T' b
 vK:∀b,T' b->T b\/w.heap.size<=b\/∃r row L,live rows r=some row/\ρ r=some L/\L.b=b
 size:w.heap.size<=w'.heap.size
 keep:∀b,b<w.heap.size->(∀r row L,live rows r=some row->ρ r=some L->L.b≠b)->w'.heap[b]?=w.heap[b]?
 fresh:∀r row L,live aa r=some row->ρ' r=some L->(∃r0 pZ L0,live rows r0=some pZ/\ρ r0=some L0/\L0.b=L.b)\/w.heap.size<=L.b
 os:w'.os=w.os
 tape:w'.tape=w.tape
 output:w'.output=w.output
 len:rows.length<=aa.length
 same:∀r,r<rows.length->ρ' r=ρ r
theorem Step.refl(ρ:Pl)(T:Nat->Prop)(rows:Rows)(w:World):Step ρ T rows w ρ T rows w:=
 ⟨λ_ _ h=>h,λ_ h=>h,λ_ h=> .inl h,aaL _,λ_ _ _=>rfl,λr row L h1 h2=> .inl ⟨r,row,L,h1,h2,rfl⟩,rfl,rfl,rfl,aaL _,λ_ _=>rfl⟩
theorem Step.trans{ρ ρ' XO:Pl}{T T' Xg:Nat->Prop}{rows aa Gi:Rows}{w w' w'':World}(h:Step ρ T rows w ρ' T' aa w')(h':Step ρ' T' aa w' XO Xg Gi w''):
  Step ρ T rows w XO Xg Gi w'':=by
 refine⟨λr L hr=>h'.pl r L (h.pl r L hr),λb hb=>h'.tt b (h.tt b hb),λb hb=>?_,abg h.size h'.size,λb hb hn=>?_,λr row L h1 h2=>?_,
  h'.os.trans h.os,h'.tape.trans h.tape,h'.output.trans h.output,abg h.len h'.len,λr hr=>(h'.same r (ab2 hr h.len)).trans (h.same r hr)⟩
 ·rcases h'.vK b hb with h1|h1|⟨r,row,L,h1,h2,h3⟩
  ·exact h.vK b h1
  ·exact .inr (.inl (abg h.size h1))
  ·rcases h.fresh r row L h1 h2 with⟨r0,pZ,L0,h4,h5,h6⟩|h4
   ·exact .inr (.inr ⟨r0,pZ,L0,h4,h5,h6.trans h3⟩)
   ·exact .inr (.inl (by omega))
 ·rw[h'.keep b (ab2 hb h.size),h.keep b hb hn]
  intro r row L h1 h2 he
  rcases h.fresh r row L h1 h2 with⟨r0,pZ,L0,h3,h4,h5⟩|h3
  ·exact hn r0 pZ L0 h3 h4 (h5.trans he)
  ·omega
 ·rcases h'.fresh r row L h1 h2 with⟨r0,pZ,L0,h3,h4,h5⟩|h3
  ·rcases h.fresh r0 pZ L0 h3 h4 with⟨r1,E8,L1,h6,h7,h8⟩|h6
   ·exact .inl ⟨r1,E8,L1,h6,h7,h8.trans h5⟩
   ·exact .inr (h5▸h6)
  ·exact .inr (abg h.size h3)
structure eA (n:Nat) (ρ:Pl) (T:Nat->Prop) (env:Env) (rows:Rows) (a:Act) (w:World):Prop where
 bw:jB ρ rows w T
 env:Gh ρ w T env a.tmps
 size:a.tmps.size=n
 vL:∀b,T b->b<w.heap.size
 vM:∀r,rows.length<=r->ρ r=none
 defers:a.defers=[]
theorem eA.put{n:Nat}{ρ:Pl}{T:Nat->Prop}{env:Env}{rows:Rows}{a:Act}{w:World}(h:eA n ρ T env rows a w){dst:Option Nat}{d:D}{v:Value}(hv:VR ρ w T d v)
  (hd:∀t,dst=some t->t<n):eA n ρ T (Am.put dst d env) rows (a.put dst v) w:=
 ⟨h.bw,h.env.put hv (λt ht=>by rw[h.size];exact hd t ht),by cases dst<;>simp[Act.put,h.size],h.vL,h.vM,by cases dst<;>simp[Act.put,h.defers]⟩
def tX(ρ:Pl)(r:Nat)(L:Loc):Pl:=λr'=>if r'=r then some L else ρ r'
theorem Gj{ρ:Pl}{r:Nat}{L:Loc}(h:ρ r=none):∀r' L',ρ r'=some L'->tX ρ r L r'=some L':=by
 intro r' L' h'
 unfold tX
 split
 ·rename_i e;subst e;simp[h]at h'
 ·exact h'
theorem eA.build{n:Nat}{ρ ρ':Pl}{T:Nat->Prop}{env:Env}{rows aa:Rows}{a:Act}{w w':World}(h:eA n ρ T env rows a w)(B:Nat)(r0:Nat)(pZ:Row)(L0:Loc)
  (hρ:∀r L,ρ r=some L->ρ' r=some L)(hB:¬T B)(XP:L0.b=B)(hρ0:ρ' r0=some L0)(hsz:w.heap.size<=w'.heap.size)
  (hw:∀b,b≠B->b<w.heap.size->w'.heap[b]?=w.heap[b]?)(hos:w'.os=w.os)(wq:w'.tape=w.tape)(hout:w'.output=w.output)
  (hrow0:mF ρ' pZ L0 w' T)(XQ:(∃r row L,live rows r=some row/\ρ r=some L/\L.b=B)\/w.heap.size<=B)
  (rn:∀r row,live aa r=some row->(r=r0/\row=pZ)\/(r≠r0/\live rows r=some row/\∀L,ρ' r=some L->ρ r=some L/\L.b≠B))
  (lS:∀r,aa.length<=r->ρ' r=none)(hlen:rows.length<=aa.length)(hsame:∀r,r<rows.length->ρ' r=ρ r):eA n ρ' T env aa a w'/\Step ρ T rows w ρ' T aa w':=by
 have hTw:∀b,T b->w'.heap[b]?=w.heap[b]?:=λb hb=>hw b (λe=>hB (e▸hb)) (h.vL b hb)
 refine⟨⟨⟨?_,?_⟩,h.env.mono hρ hTw (λ_ h=>h),h.size,λb hb=>ab2 (h.vL b hb) hsz,lS,h.defers⟩,
  ⟨hρ,λ_ h=>h,λ_ h=> .inl h,hsz,?_,?_,hos,wq,hout,hlen,hsame⟩⟩
 ·intro r row L h1 h2
  rcases rn r row h1 with⟨rfl,rfl⟩|⟨hr,h3,h4⟩
  ·rw[hρ0]at h2;cases h2;exact hrow0
  ·obtain⟨h5,h6⟩:=h4 L h2
   have:=h.bw.row r row L h3 h5
   exact this.mono hρ hTw (λ_ h=>h) (hw _ h6 this.lt) this.nu
 ·intro r r' row row' L L' h1 h2 h3 h4 hne
  rcases rn r row h1 with⟨rfl,rfl⟩|⟨hr,h5,h6⟩
  ·rw[hρ0]at h3;cases h3
   rcases rn r' row' h2 with⟨rfl,rfl⟩|⟨tY,h7,h8⟩
   ·exact absurd rfl hne
   ·rw[XP];exact λe=>(h8 L' h4).2 e.symm
  ·rcases rn r' row' h2 with⟨rfl,rfl⟩|⟨tY,h7,h8⟩
   ·rw[hρ0]at h4;cases h4
    rw[XP];exact(h6 L h3).2
   ·exact h.bw.jQ r r' row row' L L' h5 h7 (h6 L h3).1 (h8 L' h4).1 hne
 ·intro b hb hn
  refine hw b ?_ hb
  rintro rfl
  rcases XQ with⟨r,row,L,h1,h2,h3⟩|h1
  ·exact hn r row L h1 h2 h3
  ·omega
 ·intro r row L h1 h2
  rcases rn r row h1 with⟨rfl,rfl⟩|⟨hr,h3,h4⟩
  ·rw[hρ0]at h2;cases h2
   rcases XQ with⟨r,row,L,h1,h2,h3⟩|h1
   ·exact .inl ⟨r,row,L,h1,h2,by rw[h3,XP]⟩
   ·exact .inr (by rw[XP];exact h1)
  ·exact .inl ⟨r,row,L,h3,(h4 L h2).1,rfl⟩
theorem eA.heap{n:Nat}{ρ:Pl}{T:Nat->Prop}{env:Env}{rows:Rows}{a:Act}{w w':World}(h:eA n ρ T env rows a w)(hh:w'.heap=w.heap):eA n ρ T env rows a w':=by
 have hT:∀b,T b->w'.heap[b]?=w.heap[b]?:=λb _=>by rw[hh]
 refine⟨⟨λr row L h1 h2=>?_,h.bw.jQ⟩,h.env.mono (λ_ _ h=>h) hT (λ_ h=>h),h.size,λb hb=>by rw[hh];exact h.vL b hb,h.vM,h.defers⟩
 exact(h.bw.row r row L h1 h2).mono (λ_ _ h=>h) hT (λ_ h=>h) (by rw[hh]) (h.bw.row r row L h1 h2).nu
theorem uV(rows:Rows)(row:Row):live (rows++[some row]) rows.length=some row:=by simp[live]
theorem rq{rows:Rows}{row row':Row}{r:Nat}(h:live (rows++[some row']) r=some row):(r=rows.length/\row=row')\/(r<rows.length/\live rows r=some row):=by
 unfold live at h⊢
 rcases adL r rows.length with h1|h1|h1
 ·right
  rw[aaQ h1]at h
  exact⟨h1,h⟩
 ·left
  subst h1
  simp at h
  exact⟨rfl,h.symm⟩
 ·rw[aaT (by omega)]at h
  have:r-rows.length≠0:=by omega
  obtain⟨k,hk⟩:=Nat.exists_eq_succ_of_ne_zero this
  rw[hk]at h
  simp at h
theorem a9{rows:Rows}{r:Nat}{row:Row}(h:live rows r=some row):r<rows.length:=by
 unfold live at h
 split at h
 ·rename_i hh;exact cU hh
 ·cases h
theorem AT{rows:Rows}{x:Option Row}{r r':Nat}{row:Row}(h:live (rows.set r x) r'=some row):(r'=r/\x=some row)\/(r'≠r/\live rows r'=some row):=by
 unfold live at h⊢
 rw[ac5]at h
 by_cases hr:r=r'
 ·subst hr
  left
  simp only[ab6]at h
  by_cases hl:r<rows.length
  ·simp only[hl,ab6]at h
   cases x with
   |none=>simp at h
   |some y=>simp at h;exact⟨rfl,by rw[h]⟩
  ·simp[hl]at h
 ·right
  simp only[hr,ab1]at h
  exact⟨λe=>hr e.symm,h⟩
theorem od{rows:Rows}{r:Nat}{row row':Row}(h:live rows r=some row):live (rows.set r (some row')) r=some row':=by
 simp[live,a9 h]
theorem eA.push{n:Nat}{ρ:Pl}{T:Nat->Prop}{env:Env}{rows:Rows}{a:Act}{w w':World}(h:eA n ρ T env rows a w)(row:Row)(cur:Array Value)(t:TypeId)
  (hw':w'.heap=w.heap.push (.cells cur t))(hos:w'.os=w.os)(wq:w'.tape=w.tape)(hout:w'.output=w.output)
  (gJ:∀d∈row.els,aL row.sh d)(hlen:(au row.els).length<=cur.size)(hc:aW (LR ρ w T) (au row.els) (cur.toList.take (au row.els).length)):
  eA n (tX ρ rows.length ⟨w.heap.size,row.sh,cur.size,false⟩) T env (rows++[some row]) a w'/\Step ρ T rows w (tX ρ rows.length ⟨w.heap.size,row.sh,cur.size,false⟩) T (rows++[some row]) w':=by
 have hnT:¬T w.heap.size:=λhT=>Nat.lt_irrefl _ (h.vL _ hT)
 have Gk:=Gj (L:=(⟨w.heap.size,row.sh,cur.size,false⟩:Loc)) (h.vM rows.length (aaL _))
 have hold:∀b,b≠w.heap.size->b<w.heap.size->w'.heap[b]?=w.heap[b]?:=by
  intro b hb _
  rw[hw',adg,aaE hb]
 refine h.build w.heap.size rows.length row ⟨w.heap.size,row.sh,cur.size,false⟩ Gk hnT rfl (by simp[tX]) (by simp[hw']) hold hos wq hout ?_ (.inr (aaL _)) ?_ ?_ (by simp) (λr hr=>by unfold tX;rw[aaE (by omega)])
 ·exact⟨rfl,hnT,gJ,λ_=>⟨cur,t,⟨(0,0),by simp[hw'],.inl rfl⟩,aaL _,hlen,hc.mono λa b h'=>h'.mono Gk (λb hb=>hold b (λe=>hnT (e▸hb)) (h.vL b hb)) (λ_ h=>h)⟩,λh=>by cases h⟩
 ·intro r row' hl
  rcases rq hl with⟨rfl,rfl⟩|⟨h1,h2⟩
  ·exact .inl ⟨rfl,rfl⟩
  ·refine .inr ⟨by omega,h2,λL hL=>?_⟩
   have:ρ r=some L:=by
    unfold tX at hL
    rw[aaE (by omega)]at hL
    exact hL
   exact⟨this,λe=>by have:=(h.bw.row r row' L h2 this).lt;omega⟩
 ·intro r hr
  simp at hr
  unfold tX
  rw[aaE (by omega)]
  exact h.vM r (by omega)
theorem eA.write{n:Nat}{ρ:Pl}{T:Nat->Prop}{env:Env}{rows:Rows}{a:Act}{w:World}(h:eA n ρ T env rows a w){r:Nat}{row:Row}{L:Loc}(hl:live rows r=some row)(hL:ρ r=some L)
  (els:List D)(cur pw:Array Value)(t:TypeId)(hmp:L.mp=false)(P7:ow w L.b cur t)(hsz:pw.size=cur.size)(gJ:∀d∈els,aL row.sh d)
  (hlen:(au els).length<=L.room)(hc:aW (LR ρ w T) (au els) (pw.toList.take (au els).length)):
  eA n ρ T env (rows.set r (some ⟨row.sh,els⟩)) a (w.setRow L.b pw)/\Step ρ T rows w ρ T (rows.set r (some ⟨row.sh,els⟩)) (w.setRow L.b pw):=by
 have hrow:=h.bw.row r row L hl hL
 have hold:∀b,b≠L.b->b<w.heap.size->(w.setRow L.b pw).heap[b]?=w.heap[b]?:=λb hb _=>setRow_other w L.b b pw hb
 obtain⟨cur0,t0,hc0,hroom,_,_⟩:=hrow.cells hmp
 obtain⟨rfl,rfl⟩:=P7.XM hc0
 refine h.build L.b r ⟨row.sh,els⟩ L (λ_ _ h=>h) hrow.nu rfl hL (by simp) hold rfl rfl rfl ?_ (.inl ⟨r,row,L,hl,hL,rfl⟩) ?_ ?_ (by simp) (λ_ _=>rfl)
 ·exact⟨hrow.sh,hrow.nu,gJ,λ_=>⟨pw,t,P7.setRow hsz,by omega,hlen,
   hc.mono λa b h'=>h'.mono (λ_ _ h=>h) (λb hb=>hold b (λe=>hrow.nu (e▸hb)) (h.vL b hb)) (λ_ h=>h)⟩,λhm=>by rw[hmp]at hm;cases hm⟩
 ·intro r' row' mC
  rcases AT mC with⟨rfl,he⟩|⟨h1,h2⟩
  ·cases he;exact .inl ⟨rfl,rfl⟩
  ·exact .inr ⟨h1,h2,λL' KX=>⟨KX,h.bw.jQ r' r row' row L' L h2 hl KX hL h1⟩⟩
 ·intro r' tY
  simp at tY
  exact h.vM r' tY
theorem eA.kill{n:Nat}{ρ:Pl}{T:Nat->Prop}{env:Env}{rows:Rows}{a:Act}{w:World}(h:eA n ρ T env rows a w)(r:Nat):
  eA n ρ T env (rows.set r none) a w/\Step ρ T rows w ρ T (rows.set r none) w:=by
 have hk:∀r' row,live (rows.set r none) r'=some row->live rows r'=some row:=by
  intro r' row hl
  rcases AT hl with⟨_,he⟩|⟨_,h2⟩
  ·cases he
  ·exact h2
 refine⟨⟨⟨λr' row L h1 h2=>h.bw.row r' row L (hk _ _ h1) h2,λr1 r2 E8 oP L1 L2 h1 h2=>h.bw.jQ r1 r2 E8 oP L1 L2 (hk _ _ h1) (hk _ _ h2)⟩,h.env,h.size,h.vL,λr' tY=>h.vM r' (by simpa using tY),h.defers⟩,?_⟩
 exact⟨λ_ _ h=>h,λ_ h=>h,λ_ h=> .inl h,aaL _,λ_ _ _=>rfl,λr' row L h1 h2=> .inl ⟨r',row,L,hk _ _ h1,h2,rfl⟩,rfl,rfl,rfl,by simp,λ_ _=>rfl⟩
theorem eA.move{n:Nat}{ρ:Pl}{T:Nat->Prop}{env:Env}{rows:Rows}{a:Act}{w:World}(h:eA n ρ T env rows a w){r:Nat}{row:Row}{L:Loc}(hl:live rows r=some row)(hL:ρ r=some L)
  (els:List D)(cur pw:Array Value)(t:TypeId)(hmp:L.mp=false)(P7:ow w L.b cur t)(hsz:pw.size=cur.size)(gJ:∀d∈els,aL row.sh d)
  (hlen:(au els).length<=L.room)(hc:aW (LR ρ w T) (au els) (pw.toList.take (au els).length)):
  eA n (tX ρ rows.length L) T env (rows.set r none++[some ⟨row.sh,els⟩]) a (w.setRow L.b pw)/\Step ρ T rows w (tX ρ rows.length L) T (rows.set r none++[some ⟨row.sh,els⟩]) (w.setRow L.b pw):=by
 have hrow:=h.bw.row r row L hl hL
 have hold:∀b,b≠L.b->b<w.heap.size->(w.setRow L.b pw).heap[b]?=w.heap[b]?:=λb hb _=>setRow_other w L.b b pw hb
 have Gk:=Gj (L:=L) (h.vM rows.length (aaL _))
 obtain⟨cur0,t0,hc0,hroom,_,_⟩:=hrow.cells hmp
 obtain⟨rfl,rfl⟩:=P7.XM hc0
 refine h.build L.b rows.length ⟨row.sh,els⟩ L Gk hrow.nu rfl (by simp[tX]) (by simp) hold rfl rfl rfl ?_ (.inl ⟨r,row,L,hl,hL,rfl⟩) ?_ ?_ (by simp) (λr hr=>by unfold tX;rw[aaE (by omega)])
 ·exact⟨hrow.sh,hrow.nu,gJ,λ_=>⟨pw,t,P7.setRow hsz,by omega,hlen,
   hc.mono λa b h'=>h'.mono Gk (λb hb=>hold b (λe=>hrow.nu (e▸hb)) (h.vL b hb)) (λ_ h=>h)⟩,λhm=>by rw[hmp]at hm;cases hm⟩
 ·intro r' row' mC
  rcases rq mC with⟨h1,rfl⟩|⟨h1,h2⟩
  ·exact .inl ⟨by simpa using h1,rfl⟩
  ·simp at h1
   rcases AT h2 with⟨_,he⟩|⟨h3,h4⟩
   ·cases he
   ·refine .inr ⟨by omega,h4,λL' KX=>?_⟩
    have hL'':ρ r'=some L':=by
     unfold tX at KX
     rw[aaE (by omega)]at KX
     exact KX
    exact⟨hL'',h.bw.jQ r' r row' row L' L h4 hl hL'' hL h3⟩
 ·intro r' tY
  simp at tY
  unfold tX
  rw[aaE (by omega)]
  exact h.vM r' (by omega)
theorem eA.grow{n:Nat}{ρ:Pl}{T:Nat->Prop}{env:Env}{rows:Rows}{a:Act}{w w':World}(h:eA n ρ T env rows a w)(o:Obj)
  (hw':w'.heap=w.heap.push o)(hos:w'.os=w.os)(wq:w'.tape=w.tape)(hout:w'.output=w.output):
  eA n ρ (λb=>T b\/b=w.heap.size) env rows a w'/\Step ρ T rows w ρ (λb=>T b\/b=w.heap.size) rows w':=by
 have hold:∀b,b<w.heap.size->w'.heap[b]?=w.heap[b]?:=by
  intro b hb
  rw[hw',adg,aaE (by omega)]
 have hT:∀b,T b->w'.heap[b]?=w.heap[b]?:=λb hb=>hold b (h.vL b hb)
 refine⟨⟨⟨λr row L h1 h2=>?_,h.bw.jQ⟩,h.env.mono (λ_ _ h=>h) hT (λ_ h=> .inl h),h.size,?_,h.vM,h.defers⟩,
  ⟨λ_ _ h=>h,λ_ h=> .inl h,?_,by simp[hw'],λb hb _=>hold b hb,λr row L h1 h2=> .inl ⟨r,row,L,h1,h2,rfl⟩,hos,wq,hout,aaL _,λ_ _=>rfl⟩⟩
 ·have hr:=h.bw.row r row L h1 h2
  refine hr.mono (λ_ _ h=>h) hT (λ_ h=> .inl h) (hold _ hr.lt) ?_
  rintro(h3|h3)
  ·exact hr.nu h3
  ·have:=hr.lt;omega
 ·rintro b (h1|h1)
  ·have:=h.vL b h1;simp[hw'];omega
  ·simp[hw'];omega
 ·rintro b (h1|h1)
  ·exact .inl h1
  ·exact .inr (.inl (by omega))
theorem eA.pushMap{n:Nat}{ρ:Pl}{T:Nat->Prop}{env:Env}{rows:Rows}{a:Act}{w w':World}(h:eA n ρ T env rows a w)(s:Sh)(hp:s.pure=true)
  (hw':w'.heap=w.heap.push (.map #[] 0))(hos:w'.os=w.os)(wq:w'.tape=w.tape)(hout:w'.output=w.output):
  eA n (tX ρ rows.length ⟨w.heap.size,s,0,true⟩) T env (rows++[some ⟨s,[]⟩]) a w'/\Step ρ T rows w (tX ρ rows.length ⟨w.heap.size,s,0,true⟩) T (rows++[some ⟨s,[]⟩]) w':=by
 have hnT:¬T w.heap.size:=λhT=>Nat.lt_irrefl _ (h.vL _ hT)
 have Gk:=Gj (L:=(⟨w.heap.size,s,0,true⟩:Loc)) (h.vM rows.length (aaL _))
 have hold:∀b,b≠w.heap.size->b<w.heap.size->w'.heap[b]?=w.heap[b]?:=by
  intro b hb _
  rw[hw',adg,aaE hb]
 refine h.build w.heap.size rows.length ⟨s,[]⟩ ⟨w.heap.size,s,0,true⟩ Gk hnT rfl (by simp[tX]) (by simp[hw']) hold hos wq hout ?_ (.inr (aaL _)) ?_ ?_ (by simp) (λr hr=>by unfold tX;rw[aaE (by omega)])
 ·refine⟨rfl,hnT,λ_ hd=>by simp at hd,λhm=>(by cases hm),λ_=>⟨#[],0,by simp[hw'],⟨hp,λe he=>by simp at he,by simp,λk v=>?_⟩⟩⟩
  simp[firstM]
 ·intro r row' hl
  rcases rq hl with⟨rfl,rfl⟩|⟨h1,h2⟩
  ·exact .inl ⟨rfl,rfl⟩
  ·refine .inr ⟨by omega,h2,λL hL=>?_⟩
   have:ρ r=some L:=by
    unfold tX at hL
    rw[aaE (by omega)]at hL
    exact hL
   exact⟨this,λe=>by have:=(h.bw.row r row' L h2 this).lt;omega⟩
 ·intro r hr
  simp at hr
  unfold tX
  rw[aaE (by omega)]
  exact h.vM r (by omega)
theorem eA.XR{n:Nat}{ρ:Pl}{T:Nat->Prop}{env:Env}{rows:Rows}{a:Act}{w w':World}(h:eA n ρ T env rows a w){r:Nat}{row:Row}{L:Loc}(hl:live rows r=some row)(hL:ρ r=some L)
  (els:List D)(es:Array MapEntry)(clock:Nat)(hmp:L.mp=true)(gJ:∀d∈els,aL row.sh d)(hR:pX row.sh els es)
  (hb:w'.heap[L.b]?=some (.map es clock))(hold:∀b,b≠L.b->w'.heap[b]?=w.heap[b]?)(hsz:w'.heap.size=w.heap.size)(hos:w'.os=w.os)(wq:w'.tape=w.tape)(hout:w'.output=w.output):
  eA n ρ T env (rows.set r (some ⟨row.sh,els⟩)) a w'/\Step ρ T rows w ρ T (rows.set r (some ⟨row.sh,els⟩)) w':=by
 have hrow:=h.bw.row r row L hl hL
 refine h.build L.b r ⟨row.sh,els⟩ L (λ_ _ h=>h) hrow.nu rfl hL (by omega) (λb hb _=>hold b hb) hos wq hout ?_ (.inl ⟨r,row,L,hl,hL,rfl⟩) ?_ ?_ (by simp) (λ_ _=>rfl)
 ·exact⟨hrow.sh,hrow.nu,gJ,λhm=>(by rw[hmp]at hm;cases hm),λ_=>⟨es,clock,hb,hR⟩⟩
 ·intro r' row' mC
  rcases AT mC with⟨rfl,he⟩|⟨h1,h2⟩
  ·cases he;exact .inl ⟨rfl,rfl⟩
  ·exact .inr ⟨h1,h2,λL' KX=>⟨KX,h.bw.jQ r' r row' row L' L h2 hl KX hL h1⟩⟩
 ·intro r' tY
  simp at tY
  exact h.vM r' tY
theorem Step.tnew0{ρ ρ':Pl}{T T':Nat->Prop}{aa:Rows}{w w':World}(h:Step ρ T [] w ρ' T' aa w'):∀b,T' b->T b\/w.heap.size<=b:=by
 intro b hb
 rcases h.vK b hb with h1|h1|⟨r,row,L,h1,_⟩
 ·exact .inl h1
 ·exact .inr h1
 ·simp[live]at h1
theorem eA.mark{n:Nat}{ρ:Pl}{T:Nat->Prop}{env:Env}{rows:Rows}{a:Act}{w w':World}{r:Nat}{row:Row}{L:Loc}(h:eA n ρ T env rows a w)(hl:live rows r=some row)(hL:ρ r=some L)
  (hsz:w'.heap.size=w.heap.size)(hw:∀b,b≠L.b->w'.heap[b]?=w.heap[b]?)(pI:sn w w' L.b)(hos:w'.os=w.os)(wq:w'.tape=w.tape)(hout:w'.output=w.output):
  eA n ρ T env rows a w'/\Step ρ T rows w ρ T rows w':=by
 have hr:=h.bw.row r row L hl hL
 have hT:∀b,T b->w'.heap[b]?=w.heap[b]?:=λb hb=>hw b (λe=>hr.nu (e▸hb))
 refine⟨⟨⟨λr' row' L' h1 h2=>?_,h.bw.jQ⟩,h.env.mono (λ_ _ h=>h) hT (λ_ h=>h),h.size,λb hb=>by rw[hsz];exact h.vL b hb,h.vM,h.defers⟩,
  ⟨λ_ _ h=>h,λ_ h=>h,λ_ h=> .inl h,by omega,λb hb hn=>hw b (λe=>hn r row L hl hL e.symm),λr' row' L' h1 h2=> .inl ⟨r',row',L',h1,h2,rfl⟩,hos,wq,hout,aaL _,λ_ _=>rfl⟩⟩
 have tY:=h.bw.row r' row' L' h1 h2
 refine tY.XN (λ_ _ h=>h) hT (λ_ h=>h) ?_ tY.nu
 by_cases e:L'.b=L.b
 ·rw[e];exact .inr pI
 ·exact .inl (hw _ e)
end Go.Am
namespace Go.Am
theorem aW.seg{α β:Type}{R:α->β->Prop}{pre m post:List α}{cur:List β}{N:Nat}(h:aW R (pre++(m++post)) (cur.take N)):
  aW R m ((cur.drop pre.length).take m.length)/\pre.length+m.length<=cur.length:=by
 have hl:=h.len
 simp only[aax,aaF]at hl
 have h1:=(h.drop pre.length).take m.length
 rw[abi,aa3]at h1
 refine⟨?_,by omega⟩
 have:((cur.take N).drop pre.length).take m.length=(cur.drop pre.length).take m.length:=by
  rw[aeA,acR,abK (by omega)]
 rwa [this]at h1
theorem mG(b o j:Nat):(⟨b,o,none⟩:Addr).add j=⟨b,o+j,none⟩:=by
 unfold Addr.add
 split
 ·rename_i h;subst h;rfl
 ·rfl
def At(w:World)(b o:Nat)(cs:List Value):Prop:=∀(j:Nat) (x:Value),cs[j]?=some x->w.cell? ⟨b,o+j,none⟩=some x
theorem At.take{w:World}{b o:Nat}{cs:List Value}(h:At w b o cs)(n:Nat):At w b o (cs.take n):=by
 intro j x hx
 rw[abA]at hx
 split at hx
 ·exact h j x hx
 ·cases hx
theorem At.drop{w:World}{b o:Nat}{cs:List Value}(h:At w b o cs)(n:Nat):At w b (o+n) (cs.drop n):=by
 intro j x hx
 rw[abh]at hx
 rw[acN]
 exact h _ x hx
theorem P8{w:World}{b o n:Nat}{cur:Array Value}{t:TypeId}(hg:ow w b cur t):At w b o ((cur.toList.drop o).take n):=by
 obtain⟨fr,hg,_⟩:=hg
 intro j x hx
 rw[abA]at hx
 split at hx
 ·rw[abh]at hx
  rw[cell_of_row w b (o+j) cur t fr hg]
  simpa using hx
 ·cases hx
variable {C:aX} {P:Program} {n:Nat} {ρ:Pl} {T:Nat->Prop} {env:Env} {rows:Rows} {a:Act} {w:World}
theorem jB.KY(h:jB ρ rows w T){s:Sh}{r:Nat}{p:List Nat}{v:Value}{row:Row}{d:D}(hv:LR ρ w T (.ptr s r p) v)(hl:live rows r=some row)(hg:cF row.els p=some d):
  ∃b o cs,v= .pointer (some ⟨b,o,none⟩)/\aL s d/\aW (LR ρ w T) d.flat cs/\At w b o cs:=by
 cases hv with
 | ptr _ _ _ L hL hp =>
  have hr:=h.row r row L hl hL
  obtain⟨cur,t,h1,h2,h3,h4⟩:=hr.cells (Loc.Gf hp)
  cases p with
  |nil=>simp[Loc.at]at hp
  |cons i p=>
   rw[Loc.xY (Loc.Gf hp),hr.sh]at hp
   obtain⟨h5,h6,pre,post,h7,h8⟩:=wo hr.els hp hg
   rw[h7]at h4
   have h9:=h4.seg
   refine⟨L.b,L.off (i::p),_,rfl,h5,h9.1,?_⟩
   have he:L.off (i::p)=pre.length:=by simp[Loc.off,hr.sh,h8]
   rw[he]
   exact P8 h1
theorem AU{d:D}{ls:List D}{b o:Nat}{f:Nat->Value}(h1:∀i d,ls[i]?=some d->w.cell? ⟨b,o+i,none⟩=some (f i))(h2:∀i d,ls[i]?=some d->LR ρ w T d (f i)):
  aW (LR ρ w T) ls ((List.range ls.length).map f)/\At w b o ((List.range ls.length).map f):=by
 refine⟨⟨by simp,λi x y hx hy=>?_⟩,λj x hx=>?_⟩
 ·simp only[abl]at hy
  rw[acW (cU hx)]at hy
  simp at hy
  subst hy
  exact h2 i x hx
 ·have hj:=cU hx
  simp at hj
  simp only[abl,acW hj]at hx
  simp at hx
  subst hx
  exact h1 j _ (aaw hj)
theorem LR.AV{d:D}{v:Value}(hv:LR ρ w T (.b5 d) v):∃b o cs s,v= .pointer (some ⟨b,o,none⟩)/\aL s d/\T b/\aW (LR ρ w T) d.flat cs/\At w b o cs:=by
 cases hv with
 |b5 s d b o f h1 hb h2 h3=>exact⟨b,o,_,s,rfl,h1,hb,(AU (d:=d) h2 h3).1,(AU (d:=d) h2 h3).2⟩
theorem LR.zJ{d:D}{b o:Nat}{cs:List Value}{s:Sh}(h1:aL s d)(hb:T b)(h2:aW (LR ρ w T) d.flat cs)(h3:At w b o cs):LR ρ w T (.b5 d) (.pointer (some ⟨b,o,none⟩)):=by
 refine .b5 s d b o (λi=>cs.getD i undef) h1 hb (λi x hx=>?_) (λi x hx=>?_)
 ·obtain⟨y,hy,_⟩:=h2.some hx
  rw[h3 i y hy]
  simp[List.getD,hy]
 ·obtain⟨y,hy,hr⟩:=h2.some hx
  simpa[List.getD,hy]using hr
theorem LR.Nl{l:List D}{b o cap:Nat}{cs:List Value}{s:Sh}{ex:Bool}(h1:∀d∈l,aL s d)(hb:T b)(h2:aW (LR ρ w T) (au l) cs)(h3:At w b o cs)
  (h4:l.length<=cap)(h5:ex=true->cap=l.length):LR ρ w T (.cD s l ex) (.slice (some ⟨b,o,none⟩) l.length cap):=by
 refine .cD s l ex b o cap (λi=>cs.getD i undef) h1 hb (λi x hx=>?_) (λi x hx=>?_) h4 h5
 ·obtain⟨y,hy,_⟩:=h2.some hx
  rw[h3 i y hy]
  simp[List.getD,hy]
 ·obtain⟨y,hy,hr⟩:=h2.some hx
  simpa[List.getD,hy]using hr
def P9(ρ:Pl)(T:Nat->Prop)(rows:Rows)(b:Nat):Prop:=T b\/∃r row L,live rows r=some row/\ρ r=some L/\L.b=b
structure JA (rows:Rows) (ρ:Pl) (w:World) (T:Nat->Prop) (s:Sh) (l:List D) (v:Value) (k:Nat) (ad:Option Addr) (cap:Nat) (cs:List Value):Prop where
 hv:v= .slice ad k cap
 els:∀d∈l,aL s d
 len:l.length=k
 hcap:k<=cap
 hcs:aW (LR ρ w T) (au l) cs
 at_:∀(j:Nat) (x:Value),cs[j]?=some x->∃b o,ad=some ⟨b,o,none⟩/\w.cell? ⟨b,o+j,none⟩=some x
 nil:ad=none->cap=0
 adr:k≠0->∃b o,ad=some ⟨b,o,none⟩/\P9 ρ T rows b
theorem ug{s:Sh}{l:List D}{off len:Nat}(h:∀d∈l,aL s d)(hl:off+len<=l.length):
  ∃pre post,au l=pre++(au ((l.drop off).take len)++post)/\pre.length=off*s.size:=by
 refine⟨au (l.take off),au ((l.drop off).drop len),?_,?_⟩
 ·rw[<-dJ,abq,<-dJ,abq]
 ·rw[bb (λd hd=>h d (aa5 hd)),aaF,abK (by omega)]
theorem jB.holds(h:jB ρ rows w T){s:Sh}{d:D}{v:Value}{l:List D}{k:Nat}(hv:LR ρ w T d v)(he:elems rows d=some l)(hk:dP d=some k)(Gl:l.length=k)(hs:fh s d=true):
  ∃ad cap cs,JA rows ρ w T s l v k ad cap cs:=by
 cases hv with
 | raw v hv =>
  cases v with
  |slice a len cap=>
   cases a<;>cases len<;>cases cap<;>simp[elems,dP]at he hk
   subst he;subst hk
   exact⟨none,0,[],rfl,by simp,rfl,aaL _,by simpa[au]using aW.nil,by simp,λ_=>rfl,by simp⟩
  | _=>simp[elems]at he
 |ptr _ _ _ _ _ _=>simp[elems]at he
 |b5 _ _ _ _ _ _ _ _ _=>simp[elems]at he
 |nk _ _ _ _ _ _ _ _=>simp[elems]at he
 |Ed=>simp[elems]at he
 |mp=>simp[elems]at he
 |om=>simp[elems]at he
 |AE t r p off ex ad=>
  simp[dP]at hk
  subst hk
  have Qa:l=[]:=aaN Gl
  subst Qa
  exact⟨ad,0,[],rfl,by simp,rfl,aaL _,by simpa[au]using aW.nil,by simp,λ_=>rfl,by simp⟩
 |pq t ex ad cap h1 h2=>
  simp[elems,dP]at he hk
  subst he;subst hk
  exact⟨ad,cap,[],rfl,by simp,rfl,by omega,by simpa[au]using aW.nil,by simp,h2,by simp⟩
 |cD t l' ex b o cap f h1 hb h2 h3 h4 h5=>
  simp[elems,dP]at he hk
  subst he;subst hk
  simp[fh]at hs
  subst hs
  obtain⟨h6,h7⟩:=AU (d:=default) h2 h3
  exact⟨some ⟨b,o,none⟩,cap,_,rfl,h1,rfl,h4,h6,λj x hx=>⟨b,o,rfl,h7 j x hx⟩,by simp,λ_=>⟨b,o,rfl,.inl hb⟩⟩
 | sl t r p off len ex L cap hL h1 h2 h3 =>
  simp[dP]at hk
  subst hk
  simp[fh]at hs
  subst hs
  cases p with
  | nil =>
   simp only[elems]at he
   cases hl:live rows r with
   |none=>simp[hl]at he
   | some row =>
    simp[hl]at he
    subst he
    have hr:=h.row r row L hl hL
    obtain⟨cur,t',g1,g2,g3,g4⟩:=hr.cells (LR.Gg h3)
    have hsh:s=row.sh:=by
     rcases h3 with⟨_,h3,_⟩|⟨n,h3,_⟩
     ·rw[h3,hr.sh]
     ·simp[Loc.at]at h3
    subst hsh
    have gJ:∀d∈(row.els.drop off).take len,aL row.sh d:=λd hd=>hr.els d (ab9 (aa5 hd))
    by_cases hz:len=0
    ·subst hz
     exact⟨_,cap,[],rfl,gJ,Gl,h1,by simpa[au]using aW.nil,by simp,by simp,by simp⟩
    ·simp only[aaF,aaB]at Gl
     obtain⟨pre,post,g5,g6⟩:=ug (off:=off) (len:=len) hr.els (by omega)
     rw[g5]at g4
     have g7:=g4.seg
     refine⟨_,cap,_,rfl,gJ,by simp;omega,h1,g7.1,λj x hx=>⟨L.b,_,rfl,?_⟩,by simp,λ_=>⟨L.b,_,rfl,.inr ⟨r,row,L,hl,hL,rfl⟩⟩⟩
     have:=P8 (o:=pre.length) (n:=(au ((row.els.drop off).take len)).length) g1 j x hx
     simpa[Loc.off,g6]using this
  | cons i p =>
   simp only[elems]at he
   cases hl:live rows r with
   |none=>simp[hl]at he
   | some row =>
    simp only[hl]at he
    have hr:=h.row r row L hl hL
    obtain⟨cur,t',g1,g2,g3,g4⟩:=hr.cells (LR.Gg h3)
    rcases h3 with⟨h3,_⟩|⟨m,h3,h4⟩
    ·simp at h3
    ·rw[Loc.xY (Loc.Gf h3),hr.sh]at h3
     cases hg:cF row.els (i::p)with
     |none=>simp[hg]at he
     | some d =>
      obtain⟨g5,g6,pre,post,g7,g8⟩:=wo hr.els h3 hg
      obtain⟨l',rfl,mC,fG⟩:=g5.jl rfl
      simp[hg]at he
      subst he
      have bN:∀d∈l',aL s d:=by
       intro d hd
       obtain⟨q,hq,rfl⟩:=aa8.1 hd
       exact fG q s _ (by simp[Sh.sub];simp[Sh.count]at mC;omega) (aaw hq)
      have gJ:∀d∈(l'.drop off).take len,aL s d:=λd hd=>bN d (ab9 (aa5 hd))
      by_cases hz:len=0
      ·subst hz
       exact⟨_,cap,[],rfl,gJ,Gl,h1,by simpa[au]using aW.nil,by simp,by simp,by simp⟩
      ·simp only[aaF,aaB]at Gl
       obtain⟨Nm,Nn,g9,g10⟩:=ug (off:=off) (len:=len) bN (by omega)
       simp only[D.flat]at g7
       rw[g7,g9]at g4
       have e:pre++(Nm++(au ((l'.drop off).take len)++Nn)++post)=(pre++Nm)++(au ((l'.drop off).take len)++(Nn++post)):=by simp
       rw[e]at g4
       have g11:=g4.seg
       refine⟨_,cap,_,rfl,gJ,by simp;omega,h1,g11.1,λj x hx=>⟨L.b,_,rfl,?_⟩,by simp,λ_=>⟨L.b,_,rfl,.inr ⟨r,row,L,hl,hL,rfl⟩⟩⟩
       have:=P8 (o:=(pre++Nm).length) (n:=(au ((l'.drop off).take len)).length) g1 j x hx
       simpa[Loc.off,hr.sh,g8,g10]using this
theorem JA.first{s:Sh}{l:List D}{v:Value}{k cap:Nat}{ad:Option Addr}{cs:List Value}(h:JA rows ρ w T s l v k ad cap cs){w':World}(hw:w'.heap=w.heap)(m:Nat)(hm:m<=k):
  (Builtin.firstCells s.size m v).run P w'= .ok (cs.take (m*s.size)).toArray w':=by
 have hl:cs.length=k*s.size:=by rw[<-h.hcs.len,bb h.els,h.len]
 have hlt:(cs.take (m*s.size)).length=m*s.size:=by
  rw[aaF,hl]
  exact abK (abH _ hm)
 have hcell:∀ad,w'.cell? ad=w.cell? ad:=λad=>World.cell?_of_block (by rw[hw])
 rw[h.hv]
 cases Xh:ad with
 |none=>
  have hk:=h.nil Xh
  have hc0:=h.hcap
  have KZ:m=0:=by omega
  subst KZ
  simp[Builtin.firstCells]
 | some x =>
  refine run_firstCells_some (P:=P) w' s.size m x k cap _ hlt λj u hu=>?_
  rw[abA]at hu
  split at hu
  ·obtain⟨b,o,h1,h2⟩:=h.at_ j u hu
   rw[Xh]at h1
   cases h1
   rw[mG,hcell]
   exact h2
  ·cases hu
theorem JA.Gm{s:Sh}{l:List D}{v:Value}{k cap:Nat}{ad:Option Addr}{cs:List Value}(h:JA rows ρ w T s l v k ad cap cs):cs.length=k*s.size:=by
 rw[<-h.hcs.len,bb h.els,h.len]
theorem gK(P:Program)(g o:Nat)(t:TypeId):∀(vs:List Value) (i:Nat) (cur:Array Value) (w:World),ow w g cur t->o+i+vs.length<=cur.size->(∀v∈vs,v.oneCell'=true)->
  (storeCells ⟨g,o,none⟩ vs i).run P w= .ok () (w.setRow g (cur.toList.take (o+i)++vs++cur.toList.drop (o+i+vs.length)).toArray)
 |[],i,cur,w,hg,_,_=>by
  obtain⟨fr,hg,_⟩:=hg
  simp only[storeCells,aa4,aba,adm,abq,Array.toArray_toList]
  rw[setRow_self w g cur t fr hg]
  rfl
 | v :: rest, i, cur, w, hg, hl, h1 => by
  have hi:o+i<cur.size:=by simp at hl;omega
  obtain⟨fr,Qb,pI⟩:=hg
  have hadd:(⟨g,o,none⟩:Addr).add i=⟨g,o+i,none⟩:=by unfold Addr.add;split<;>simp_all
  have hcell:w.cell? ⟨g,o+i,none⟩=some cur[o+i]:=by simp[World.cell?,Qb,hi]
  have hfro:w.frozen? ⟨g,o+i,none⟩=false:=pI.not Qb hi
  have hst:(store ((⟨g,o,none⟩:Addr).add i) v).run P w= .ok () (w.setRow g (cur.setIfInBounds (o+i) v)):=by
   rw[hadd,run_store P w _ v _ (h1 v (by simp)),hcell]
   simp[hfro,setCell_eq_setRow w g (o+i) cur t fr v Qb]
  have ih:=gK P g o t rest (i+1) (cur.setIfInBounds (o+i) v) (w.setRow g (cur.setIfInBounds (o+i) v)) (ow.setRow ⟨fr,Qb,pI⟩ (by simp)) (by simp at hl⊢;omega) (λx hx=>h1 x (by simp[hx]))
  simp only[storeCells,Sem.run_bind,hst,Result.andThen_ok,ih,setRow_setRow]
  congr 3
  have e:=list_seg_step cur.toList (o+i) v rest (by simp at hl⊢;omega)
  simpa[Array.toList_setIfInBounds,acN]using e
end Go.Am
namespace Go.Am
theorem ak{α:Type}{x:Option α}{k:α->Prop}(h:bf x k):∃a,x=some a/\k a:=by
 cases x with
 |none=>exact h.elim
 |some a=>exact⟨a,rfl,h⟩
theorem aD{α β:Type}{x:Option α}{f:α->Option β}{y:β}(h:o2 x f=some y):∃a,x=some a/\f a=some y:=by
 cases x with
 |none=>simp[o2]at h
 |some a=>exact⟨a,rfl,h⟩
theorem cx{α:Type}{b:Bool}{x:Option α}{y:α}(h:yX b x=some y):b=true/\x=some y:=by
 cases b with
 |false=>simp[yX]at h
 |true=>exact⟨rfl,h⟩
variable {C:aX} {P:Program} {n:Nat} {ρ:Pl} {T:Nat->Prop} {env:Env} {rows:Rows} {a:Act} {w:World}
def sN(C:aX)(ρ:Pl)(w:World)(T:Nat->Prop):Prop:=∀g d,C.aY g=some d->LR ρ w T (.b5 d) (.pointer (some ⟨g,0,none⟩))
def Runs(P:Program)(o:Oper)(a:Act)(w:World)(v:Value)(w':World):Prop:=
 (execOp a.eval o).run P w= .ok (.value v) w'\/((execOp a.eval o).run P w= .ok .skip w'/\v=undef)
def bI(P:Program)(n:Nat)(o:Oper)(ρ:Pl)(T:Nat->Prop)(env:Env)(rows:Rows)(a:Act)(w:World)(k:D->Rows->Prop):Prop:=
 ∃d aa ρ' T' v w',k d aa/\eA n ρ' T' env aa a w'/\Step ρ T rows w ρ' T' aa w'/\VR ρ' w' T' d v/\Runs P o a w v w'/\(gz o.op=true->QH ρ rows w w'/\∀b,T' b->T b\/w.heap.size<=b)
theorem bI.here{o:Oper}{k:D->Rows->Prop}(hs:eA n ρ T env rows a w){d:D}{v:Value}(hk:k d rows)(hv:VR ρ w T d v)(hr:(execOp a.eval o).run P w= .ok (.value v) w):
  bI P n o ρ T env rows a w k:=⟨d,rows,ρ,T,v,w,hk,hs,Step.refl _ _ _ _,hv,.inl hr,λ_=>⟨λ_ _=> .inl rfl,λ_ h=> .inl h⟩⟩
theorem bD{x:Operand}{y:X}{d:D}(hc:cX x=some y)(he:ev C env y=some d)(hs:eA n ρ T env rows a w)(hG:sN C ρ w T):VR ρ w T d (a.eval x):=by
 cases x with
 |tmp t=>
  simp[cX]at hc
  subst hc
  exact hs.env t d he
 | const v =>
  simp only[cX]at hc
  cases hv:v.oneCell' with
  |false=>simp[hv]at hc
  |true=>
   simp[hv]at hc
   subst hc
   simp[ev]at he
   subst he
   exact VR.raw hv
 | global g =>
  simp[cX]at hc
  subst hc
  simp only[ev]at he
  cases hg:C.aY g with
  |none=>simp[hg]at he
  |some d'=>
   simp[hg]at he
   subst he
   exact VR.bB (hG g d' hg)
 |func f=>
  simp[cX]at hc
  subst hc
  simp[ev]at he
  subst he
  exact VR.raw rfl
theorem eP{x:Operand}{y:X}{v:Value}(hc:cX x=some y)(he:ev C env y=some (.raw v))(hs:eA n ρ T env rows a w)(hG:sN C ρ w T):a.eval x=v:=
 VR.ofRaw (bD hc he hs hG)
theorem int_beq(x y:Int):(x==y)=decide (x=y):=rfl
theorem run_equal_bool{t:TypeId}(ht:P.underlying t=some .bool)(x y:Bool)(w:World):(Op.equal t (.bool x) (.bool y)).run P w= .ok (x==y) w:=by
 have e:Op.maxDepth=9999+1:=rfl
 rw[Op.equal,e,Op.equalIn]
 simp only[Sem.run_bind,run_underlying ht,Result.andThen_ok,Sem.run_pure]
section ops
variable (hs:eA n ρ T env rows a w) (hG:sN C ρ w T) {o:Oper} {k:D->Rows->Prop}
include hs hG
theorem op_mv{x:Operand}{y:X}(ho:o.op= .move x\/o.op= .assign x)(hc:cX x=some y)(h:dA C env rows (.mv y) k):bI P n o ρ T env rows a w k:=by
 obtain⟨d,he,hk⟩:=ak h
 refine .here hs hk (bD hc he hs hG) ?_
 rcases ho with ho|ho<;>simp[execOp,ho]
theorem op_pick{c x y:Operand}{c' x' y':X}(ho:o.op= .pick c x y)(h1:cX c=some c')(h2:cX x=some x')(h3:cX y=some y')(h:dA C env rows (.pick c' x' y') k):bI P n o ρ T env rows a w k:=by
 obtain⟨d,he,hk⟩:=ak h
 split at hk
 ·rename_i t
  have hct:=eP h1 he hs hG
  obtain⟨d,he,Qc⟩:=ak hk
  cases t with
  |true=>
   simp at he
   refine .here hs Qc (bD h2 he hs hG) ?_
   simp[execOp,ho,hct,asBool]
  |false=>
   simp at he
   refine .here hs Qc (bD h3 he hs hG) ?_
   simp[execOp,ho,hct,asBool]
 ·exact hk.elim
theorem XS {op : BinOp} {t u : TypeId} {x y : Operand} {x' y' : X} (ho : o.op = .binOp op t x y u) (h1 : cX x = some x') (h2 : cX y = some y') (h : dA C env rows (.bin op x' y') k) : bI P n o ρ T env rows a w k := by
  obtain⟨d,he,hk⟩:=ak h
  split at hk
  · rename_i av
    obtain⟨d2,uW,hk⟩:=ak hk
    split at hk
    · rename_i bv
      have hx:=eP h1 he hs hG
      have hy:=eP h2 uW hs hG
      unfold cz at hk
      split at hk
      all_goals first
        |exact hk.elim
        | (refine .here hs hk (VR.raw rfl) ?_
           simp[execOp,ho,hx,hy,eqGuard,binOp,Op.stringOp]
           done)
        | (obtain ⟨g1, hk⟩ := hk
           refine .here hs hk (VR.raw rfl) ?_
           subst g1
           simp[execOp,ho,hx,hy,eqGuard,binOp,Op.intArith,Op.intBits,Op.intCmp,bne,int_beq]
           done)
        | (obtain ⟨g1, hk⟩ := hk
           refine .here hs hk (VR.raw rfl) ?_
           simp[execOp,ho,hx,hy,eqGuard,binOp,Op.shift,aer.2 g1]
           done)
        | (obtain ⟨g1, g2, hk⟩ := hk
           refine .here hs hk (VR.raw rfl) ?_
           subst g1
           simp[execOp,ho,hx,hy,eqGuard,binOp,Op.intDiv,g2]
           done)
        | (obtain ⟨g1, hk⟩ := hk
           refine .here hs hk (VR.raw rfl) ?_
           have e:IntKind.i64.max=9223372036854775807:=by decide
           simp only[execOp,ho,hx,hy,eqGuard,binOp,Op.stringOp]
           simp
           omega)
    · exact hk.elim
  · exact hk.elim
theorem XT{neg:Bool}{op:BinOp}{t u:TypeId}{x y:Operand}{x' y':X}(ho:o.op= .binOp op t x y u)(hop:op=bif neg then .neq else .eql)(ht:P.underlying t=some .bool)(h1:cX x=some x')(h2:cX y=some y')
  (h:dA C env rows (.beq neg x' y') k):bI P n o ρ T env rows a w k:=by
 obtain⟨d,he,hk⟩:=ak h
 split at hk
 ·obtain⟨d2,uW,hk⟩:=ak hk
  split at hk
  ·have hx:=eP h1 he hs hG
   have hy:=eP h2 uW hs hG
   refine .here hs hk (VR.raw rfl) ?_
   cases neg<;>simp at hop<;>subst hop<;>simp only[execOp,ho,hx,hy,binOp]<;>simp[eqGuard,run_equal_bool ht]
  ·exact hk.elim
 ·exact hk.elim
theorem op_un{op:UnOp}{t:TypeId}{x:Operand}{x':X}(ho:o.op= .unOp op t x)(h1:cX x=some x')(h:dA C env rows (.un op x') k):bI P n o ρ T env rows a w k:=by
  obtain⟨d,he,hk⟩:=ak h
  split at hk
  · have hx := eP h1 he hs hG
    unfold aUn at hk
    split at hk
    all_goals first
      |exact hk.elim
      | (refine .here hs hk (VR.raw rfl) ?_
         simp[execOp,ho,hx,Op.unary,Op.intArith,Op.intBits])
  · exact hk.elim
theorem op_conv{s t:TypeId}{x:Operand}{x':X}{j kd:IntKind}(ho:o.op= .convert s t x)(hsrc:P.underlying s=some (.int j))(ht:P.underlying t=some (.int kd))(h1:cX x=some x')
  (h:dA C env rows (.conv kd x') k):bI P n o ρ T env rows a w k:=by
 obtain⟨d,he,hk⟩:=ak h
 split at hk
 ·have hx:=eP h1 he hs hG
  refine .here hs hk (VR.raw rfl) ?_
  simp[execOp,ho,hx,convert,run_underlying hsrc,run_underlying ht,Conv.intToInt]
 ·exact hk.elim
theorem XU{s t:TypeId}{x:Operand}{x':X}(ho:o.op= .convert s t x)(hsrc:P.underlying s=some .string)(ht:P.underlying t=some .string)(h1:cX x=some x')
  (h:dA C env rows (.Jy x') k):bI P n o ρ T env rows a w k:=by
 obtain⟨d,he,hk⟩:=ak h
 split at hk
 ·have hx:=eP h1 he hs hG
  refine .here hs hk (VR.raw rfl) ?_
  simp[execOp,ho,hx,convert,run_underlying hsrc,run_underlying ht]
 ·exact hk.elim
theorem op_nilc{x:Operand}{x':X}(ho:o.op= .nilCheck x)(h1:cX x=some x')(h:dA C env rows (.nt x') k):bI P n o ρ T env rows a w k:=by
 obtain⟨d,he,hk⟩:=ak h
 have hv:=bD h1 he hs hG
 split at hk
 ·have lZ:=hv
  have hl:LR ρ w T _ _:=hv
  generalize hx:a.eval x=v at hl lZ
  cases hl with
  |ptr _ _ _ L hL hp=>
   refine .here hs hk lZ ?_
   simp[execOp,ho,hx]
 ·have lZ:=hv
  obtain⟨b,o',cs,s,hx,_⟩:=LR.AV (show LR ρ w T _ _ from hv)
  refine .here hs hk lZ ?_
  simp[execOp,ho,hx]
 ·exact hk.elim
theorem op_ext{x:Operand}{x':X}{i:Nat}(ho:o.op= .extract x i)(h1:cX x=some x')(h:dA C env rows (.ext x' i) k):bI P n o ρ T env rows a w k:=by
 obtain⟨d,he,hk⟩:=ak h
 have hv:=bD h1 he hs hG
 split at hk
 ·obtain⟨vs,hx,bN⟩:=hv
  obtain⟨y,hy,hk⟩:=ak hk
  obtain⟨u,hu,hyu⟩:=bN.some hy
  have hu':vs[i]?=some u:=by simpa using hu
  refine .here hs hk (VR.yZ hyu) ?_
  simp[execOp,ho,hx,Instr.extract,hu']
 ·exact hk.elim
end ops
end Go.Am
namespace Go.Am
variable {C:aX} {P:Program} {n:Nat} {ρ:Pl} {T:Nat->Prop} {env:Env} {rows:Rows} {a:Act} {w:World}
theorem x5{t:TypeId}{s:Sh}(h:sh P t=some s):∃i,P.info? t=some i/\i.size=s.size:=by
 unfold sh at h
 split at h
 ·split at h
  ·rename_i i hi
   cases hb:(i.size==_)with
   |false=>rw[hb]at h;simp at h
   |true=>
    rw[hb]at h
    simp at h
    subst h
    exact⟨i,hi,by simpa using hb⟩
  ·cases h
 ·cases h
theorem run_sizeOf{t:TypeId}{s:Sh}(h:sh P t=some s)(w:World):(sizeOf t).run P w= .ok s.size w:=by
 obtain⟨i,hi,hs⟩:=x5 h
 simp[sizeOf,typeInfo,hi,hs]
theorem No{t:TypeId}{s:Sh}(h:lP P t s=true):∃d,P.underlying t=some d/\P2 d=s.isAgg:=by
 unfold lP at h
 split at h
 ·rename_i d hd
  exact⟨d,hd,by simpa using h⟩
 ·cases h
theorem x6{t:TypeId}{s:Sh}(h:lP P t s=true)(w:World):(isAgg t).run P w= .ok s.isAgg w:=by
 obtain⟨d,hd,he⟩:=No h
 rw[<-he]
 cases d<;>simp[isAgg,run_underlying hd,P2]
def gO(s:Sh)(cs:List Value):Value:=if s.isAgg then .agg cs.toArray else cs.headD undef
theorem mH{t:TypeId}{s:Sh}(h:sh P t=some s)(hl:lP P t s=true){b o:Nat}{cs:List Value}(IX:At w b o cs)(hlen:cs.length=s.size)(hone:s.isAgg=false->cs.length=1):
  (loadVar t ⟨b,o,none⟩).run P w= .ok (gO s cs) w:=by
 cases hs:s.isAgg with
 |true=>
  have hc:=run_loadCells_list (P:=P) w ⟨b,o,none⟩ cs (λj v hv=>by rw[mG];exact IX j v hv)
  rw[hlen]at hc
  simp[loadVar,x6 hl,run_sizeOf h,hs,gO,hc]
 | false =>
  have h1:=hone hs
  match cs,h1 with
  |[x],_=>
   have:=IX 0 x rfl
   simp at this
   simp[loadVar,x6 hl,hs,gO,this]
theorem VR.gO{s:Sh}{d:D}{cs:List Value}(h:aL s d)(hc:aW (LR ρ w T) d.flat cs):VR ρ w T d (Am.gO s cs):=by
 unfold Am.gO
 cases hs:s.isAgg with
 |true=>exact VR.yZ (qU.Nk h hs (by simpa using hc))
 |false=>
  have hl:=h.pW hs
  rw[b9 hl]at hc
  have:=hc.len
  match cs,this with
  |[x],_=>exact VR.bB hc.head
theorem p7{s:Sh}{d:D}{cs:List Value}(h:aL s d)(hc:aW (LR ρ w T) d.flat cs):s.isAgg=false->cs.length=1:=by
 intro hs
 rw[<-hc.len,b9 (h.pW hs)]
 rfl
theorem oQ{s t:Sh}{l:List D}(h:aL s (.agg t l)):s=t/\s.isAgg=true:=by
 cases h with
 |ref _ h=>simp[D.eN]at h
 |agg _ _ h _ _=>exact⟨rfl,h⟩
theorem fits_sh{s t:Sh}{d:D}(h:aL t d)(hf:d.fits s=true):aL s d:=by
 cases d with
 |agg u l=>
  simp[D.fits]at hf
  subst hf
  obtain⟨rfl,_⟩:=oQ h
  exact h
 |cB l=>cases s<;>simp[D.fits]at hf
 |raw v=>
  cases s<;>simp[D.fits]at hf
  ·exact .leaf _ v hf
  ·exact .ref _ hf
 | _=>cases s<;>simp[D.fits]at hf;exact .ref _ hf
theorem Loc.xX{L:Loc}{p:List Nat}{s:Sh}(h:L.at p=some s)(i:Nat):L.at (p++[i])=s.sub i/\L.off (p++[i])=L.off p+s.j8 i:=by
 cases p with
 |nil=>simp[Loc.at]at h
 |cons j p=>
  have hm:=Loc.Gf h
  rw[Loc.xY hm]at h
  refine⟨by simp only[acI,Loc.xY hm];exact Am.xX p i h,?_⟩
  simp only[acI,Loc.off]
  rw[Nj p i h]
  omega
theorem JB{s e:Sh}{l:List D}{i:Nat}{d:D}{v:Value}(hv:LR ρ w T (.b5 (.agg s l)) v)(fG:s.sub i=some e)(hd:l[i]?=some d):
  ∃b o',v= .pointer (some ⟨b,o',none⟩)/\LR ρ w T (.b5 d) (.pointer (some ⟨b,o'+s.j8 i,none⟩)):=by
 obtain⟨b,o',cs,s',hx,g1,hT,g2,g3⟩:=LR.AV hv
 obtain⟨rfl,ha⟩:=oQ g1
 obtain⟨d',jP,sJ,nV⟩:=g1.part ha fG
 rw[hd]at jP
 cases jP
 simp only[D.flat]at g2
 rw[fT hd]at g2
 refine⟨b,o',hx,.zJ (cs:=(cs.drop (au (l.take i)).length).take d.flat.length) sJ hT ?_ ?_⟩
 ·have:=(g2.drop (au (l.take i)).length).take d.flat.length
  rwa [abi,aa3]at this
 ·rw[<-nV]
  exact(g3.drop _).take _
theorem Gn{t:TypeId}{s:Sh}{cs:Array Value}{o':Nat}{ms:List Value}(hsh:sh P t=some s)(hl:lP P t s=true)(hlen:ms.length=s.size)(hone:s.isAgg=false->ms.length=1)
  (qW:(cs.toList.drop o').take ms.length=ms):(part t cs o').run P w= .ok (Am.gO s ms) w:=by
 cases hsa:s.isAgg with
 | true =>
  have:cs.extract o' (o'+s.size)=ms.toArray:=by
   apply aca
   rw[Array.toList_extract]
   simp only[List.extract]
   rw[show o'+s.size-o'=ms.length by omega,qW]
  simp[part,x6 hl,hsa,run_sizeOf hsh,gO,this]
 | false =>
  have h1:=hone hsa
  match ms,h1 with
  | [x], _ =>
   have hx:cs[o']?=some x:=by
    have:=abt (λl=>l[0]?) qW
    simpa[abA]using this
   simp[part,x6 hl,hsa,gO,hx]
theorem ia{o:Oper}{c:Call}{b:Builtin}(ho:o.op= .call c)(hc:c.callee= .builtin b):
  execOp a.eval o=builtin b c.argTypes o.type (c.args.map fun| .const _=>true| _=>false) (c.args.map a.eval):=by
 simp only[execOp,ho,resolve,hc]
 rfl
section ops
variable (hs:eA n ρ T env rows a w) (hG:sN C ρ w T) {o:Oper} {k:D->Rows->Prop}
include hs hG
theorem op_load{t:TypeId}{x:Operand}{x':X}{s:Sh}(ho:o.op= .load t x)(hsh:sh P t=some s)(hl:lP P t s=true)(h1:cX x=some x')(h:dA C env rows (.load s x') k):bI P n o ρ T env rows a w k:=by
 obtain⟨d,he,hk⟩:=ak h
 have hv:=bD h1 he hs hG
 split at hk
 ·obtain⟨rfl,hk⟩:=hk
  obtain⟨row,rn,hk⟩:=ak hk
  obtain⟨d,hg,hk⟩:=ak hk
  obtain⟨b,o',cs,hx,g1,g2,g3⟩:=hs.bw.KY hv rn hg
  refine .here hs hk (VR.gO g1 g2) ?_
  have hlen:=g2.len
  rw[g1.len]at hlen
  simp[execOp,ho,hx,Instr.loadAt,Instr.sureAddr,mH hsh hl g3 hlen.symm (p7 g1 g2)]
 ·obtain⟨hf,hk⟩:=hk
  obtain⟨b,o',cs,s',hx,g1,_,g2,g3⟩:=LR.AV hv
  have g1':=fits_sh g1 hf
  refine .here hs hk (VR.gO g1' g2) ?_
  have hlen:cs.length=Sh.size s:=by rw[<-g2.len,g1'.len]
  simp[execOp,ho,hx,Instr.loadAt,Instr.sureAddr,mH hsh hl g3 hlen (p7 g1' g2)]
 ·rename_i m t r p off
  obtain⟨rfl,hk⟩:=hk
  obtain⟨l,mC,hk⟩:=ak hk
  obtain⟨hlen,hk⟩:=hk
  have lZ:LR ρ w T (.nk m t r p off) _:=hv
  generalize hx:a.eval x=v at lZ
  cases lZ with
  | nk _ _ _ _ _ L hL h2 =>
   have j7:LR ρ w T (.sl t r p off m false) (.slice (some ⟨L.b,L.off p+off*t.size,none⟩) m m):= .sl t r p off m false L m hL (aaL _) (by simp) h2
   obtain⟨ad,cap,cs,hH⟩:=hs.bw.holds (s:=t) j7 mC rfl hlen (by simp[fh])
   have IX:At w L.b (L.off p+off*t.size) cs:=by
    intro j y hy
    obtain⟨b,o',e1,e2⟩:=hH.at_ j y hy
    have e3:=hH.hv
    rw[e1]at e3
    cases e3
    exact e2
   have hsh':aL (.ar m t) (.agg (.ar m t) l):= .agg _ l rfl (by simp[Sh.count,hlen]) (λi e d hi hd=>by
    simp only[Sh.sub]at hi
    split at hi
    ·cases hi;exact hH.els d (bH hd)
    ·cases hi)
   have PJ:aW (LR ρ w T) (D.agg (.ar m t) l).flat cs:=by simpa[D.flat]using hH.hcs
   have jF:cs.length=Sh.size (.ar m t):=by rw[<-PJ.len,hsh'.len]
   refine .here hs hk (VR.gO hsh' PJ) ?_
   simp[execOp,ho,hx,Instr.loadAt,Instr.sureAddr,mH hsh hl IX jF (p7 hsh' PJ)]
 ·exact hk.elim
theorem XV{t:TypeId}{x:Operand}{x':X}{s e:Sh}{i:Nat}{fs:Array Field}{f:Field}{inf:TypeInfo}(ho:o.op= .fieldAddr t x i)(hu:P.underlying t=some (.struct fs))(hf:fs[i]?=some f)
  (he':s.sub i=some e)(nV:f.offset=s.j8 i)(hinf:P.info? f.type=some inf)(hsz:inf.size=e.size)(hne:e.size≠0)(h1:cX x=some x')(h:dA C env rows (.b7 s x' i) k):bI P n o ρ T env rows a w k:=by
 obtain⟨d,he,hk⟩:=ak h
 have hv:=bD h1 he hs hG
 have oR:∀b o':Nat,(Instr.fieldAt t (.pointer (some ⟨b,o',none⟩)) i).run P w= .ok (.pointer (some ⟨b,o'+s.j8 i,none⟩)) w:=by
  intro b o'
  simp[Instr.fieldAt,run_underlying hu,hf,Instr.sureAddr,fieldPlace,sizeOf,typeInfo,hinf,hsz,hne,nV,mG]
 split at hk
 ·obtain⟨rfl,hk⟩:=hk
  obtain⟨e2,uW,hk⟩:=ak hk
  have hl:LR ρ w T _ _:=hv
  generalize hx:a.eval x=v at hl
  cases hl with
  |ptr _ _ _ L hL hp=>
   obtain⟨g1,g2⟩:=L.xX hp i
   refine .here hs hk (VR.bB (.ptr _ _ _ L hL (g1.trans uW))) ?_
   rw[g2]
   simp[execOp,ho,hx,oR]
 ·obtain⟨rfl,hk⟩:=hk
  obtain⟨d2,AF,hk⟩:=ak hk
  obtain⟨b,o',hx,g1⟩:=JB (show LR ρ w T _ _ from hv) he' AF
  refine .here hs hk (VR.bB g1) ?_
  simp[execOp,ho,hx,oR]
 ·exact hk.elim
theorem XW{t:TypeId}{x:Operand}{x':X}{s e:Sh}{i:Nat}{fs:Array Field}{f:Field}(ho:o.op= .field t x i)(hu:P.underlying t=some (.struct fs))(hf:fs[i]?=some f)
  (he':s.sub i=some e)(nV:f.offset=s.j8 i)(hsh:sh P f.type=some e)(hl:lP P f.type e=true)(h1:cX x=some x')(h:dA C env rows (.field s x' i) k):bI P n o ρ T env rows a w k:=by
 obtain⟨d,he,hk⟩:=ak h
 have hv:=bD h1 he hs hG
 split at hk
 ·rename_i u l
  obtain⟨rfl,hk⟩:=hk
  obtain⟨d2,AF,hk⟩:=ak hk
  obtain⟨cs,hx,g1,g2⟩:=hv
  obtain⟨_,ha⟩:=oQ g1
  obtain⟨d',jP,sJ,XX⟩:=g1.part ha he'
  rw[AF]at jP
  cases jP
  rw[fT AF]at g2
  have g3:=(g2.drop (au (List.take i l)).length).take d2.flat.length
  rw[abi,aa3,XX]at g3
  refine .here hs hk (VR.gO sJ g3) ?_
  have hlen:=g3.len
  have:=Gn (w:=w) (o':=f.offset) (ms:=(cs.toList.drop (Sh.j8 u i)).take d2.flat.length) hsh hl (by rw[<-hlen,sJ.len]) (p7 sJ g3) (by rw[<-hlen,nV])
  simp[execOp,ho,hx,Instr.field,run_underlying hu,hf,asAgg,this]
 ·exact hk.elim
theorem UQ{t e:TypeId}{x i:Operand}{x' i':X}{s:Sh}{m:Nat}(ho:o.op= .indexAddr t x i)(hu:P.underlying t=some (.array m e))(hsh:sh P e=some s)(h1:cX x=some x')(h2:cX i=some i')
  (h:dA C env rows (.wg m s x' i') k):bI P n o ρ T env rows a w k:=by
 obtain⟨d,he,hk⟩:=ak h
 obtain⟨d2,uW,hk⟩:=ak hk
 have hv:=bD h1 he hs hG
 split at hk
 ·rename_i kd j
  have hi:=eP h2 uW hs hG
  have oR:∀b o':Nat,0<=j->j<(m:Int)->(Instr.indexAt t (.pointer (some ⟨b,o',none⟩)) (.int kd j)).run P w= .ok (.pointer (some ⟨b,o'+j.toNat*s.size,none⟩)) w:=by
   intro b o' g1 g2
   simp[Instr.indexAt,asIntOf,run_underlying hu,Instr.sureAddr,g1,g2,run_sizeOf hsh,mG]
  split at hk
  ·rename_i t' r p
   obtain⟨rfl,g1,g2,hk⟩:=hk
   have hl:LR ρ w T _ _:=hv
   generalize hx:a.eval x=v at hl
   cases hl with
   |ptr _ _ _ L hL hp=>
    obtain⟨g3,g4⟩:=L.xX hp j.toNat
    have g5:(Sh.ar m s).sub j.toNat=some s:=by simp[Sh.sub];omega
    refine .here hs hk (VR.bB (.ptr _ _ _ L hL (g3.trans g5))) ?_
    rw[g4]
    simp only[Sh.j8]
    simp[execOp,ho,hx,hi,oR _ _ g1 g2]
  ·rename_i t' l
   obtain⟨rfl,g1,g2,hk⟩:=hk
   obtain⟨d3,K1,hk⟩:=ak hk
   have g5:(Sh.ar m s).sub j.toNat=some s:=by simp[Sh.sub];omega
   obtain⟨b,o',hx,g6⟩:=JB (show LR ρ w T _ _ from hv) g5 K1
   refine .here hs hk (VR.bB g6) ?_
   simp only[Sh.j8]
   simp[execOp,ho,hx,hi,oR _ _ g1 g2]
  ·exact hk.elim
 ·exact hk.elim
theorem UR{t e:TypeId}{x i:Operand}{x' i':X}{s:Sh}(ho:o.op= .indexAddr t x i)(hu:P.underlying t=some (.slice e))(hsh:sh P e=some s)(h1:cX x=some x')(h2:cX i=some i')
  (h:dA C env rows (.eO s x' i') k):bI P n o ρ T env rows a w k:=by
 obtain⟨d,he,hk⟩:=ak h
 obtain⟨d2,uW,hk⟩:=ak hk
 have hv:=bD h1 he hs hG
 split at hk
 ·rename_i kd j
  have hi:=eP h2 uW hs hG
  have oR:∀b o' len cap:Nat,0<=j->j<(len:Int)->(Instr.indexAt t (.slice (some ⟨b,o',none⟩) len cap) (.int kd j)).run P w= .ok (.pointer (some ⟨b,o'+j.toNat*s.size,none⟩)) w:=by
   intro b o' len cap g1 g2
   simp[Instr.indexAt,asIntOf,run_underlying hu,Instr.sureAddr,g1,g2,run_sizeOf hsh,mG]
  split at hk
  ·rename_i t' r p off len ex hq
   obtain⟨rfl,g1,g2,hk⟩:=hk
   have hl:LR ρ w T _ _:=hv
   generalize hx:a.eval x=v at hl
   cases hl with
   |AE=>simp at g2;omega
   | sl _ _ _ _ _ _ L cap hL c1 c2 c3 =>
    have key:L.at (p++[off+j.toNat])=some t'/\L.off (p++[off+j.toNat])=L.off p+off*t'.size+j.toNat*t'.size:=by
     rcases c3 with⟨rfl,rfl,hm,_⟩|⟨m,c3,c4⟩
     ·refine⟨by simp[Loc.at,Sh.at,hm],?_⟩
      simp[Loc.off,Sh.off,adI]
     ·obtain⟨g3,g4⟩:=L.xX c3 (off+j.toNat)
      refine⟨g3.trans (by simp[Sh.sub];omega),?_⟩
      rw[g4]
      simp[Sh.j8,adI]
      omega
    refine .here hs hk (VR.bB (.ptr _ _ _ L hL key.1)) ?_
    rw[key.2]
    simp[execOp,ho,hx,hi,oR _ _ _ _ g1 g2]
  ·rename_i t' l ex hq
   obtain⟨rfl,g1,g2,hk⟩:=hk
   obtain⟨d3,K1,hk⟩:=ak hk
   have hl:LR ρ w T _ _:=hv
   generalize hx:a.eval x=v at hl
   cases hl with
   |pq=>simp at g2;omega
   | cD _ _ _ b o' cap f c1 hb c2 c3 c4 c5 =>
    obtain⟨cs,c6,c7⟩:∃cs,aW (LR ρ w T) (au l) cs/\At w b o' cs:=⟨_,AU (d:=default) c2 c3⟩
    rw[fT K1]at c6
    have c8:=(c6.drop (au (l.take j.toNat)).length).take d3.flat.length
    rw[abi,aa3]at c8
    have nV:(au (l.take j.toNat)).length=j.toNat*t'.size:=by
     rw[bb (λd hd=>c1 d (aa5 hd)),aaF,abK (aeq (cU K1))]
    refine .here hs hk (VR.bB (.zJ (c1 _ (bH K1)) hb c8 ((c7.drop _).take _))) ?_
    rw[nV]
    simp[execOp,ho,hx,hi,oR _ _ _ _ g1 g2]
  ·exact hk.elim
 ·exact hk.elim
theorem XY{t e:TypeId}{x i:Operand}{x' i':X}{s:Sh}{m:Nat}(ho:o.op= .index t x i)(hu:P.underlying t=some (.array m e))(hsh:sh P e=some s)(hlf:lP P e s=true)(h1:cX x=some x')(h2:cX i=some i')
  (h:dA C env rows (.index m s x' i') k):bI P n o ρ T env rows a w k:=by
 obtain⟨d,he,hk⟩:=ak h
 have hv:=bD h1 he hs hG
 split at hk
 ·rename_i t' l
  obtain⟨d2,uW,hk⟩:=ak hk
  split at hk
  ·rename_i kd j
   have hi:=eP h2 uW hs hG
   obtain⟨rfl,g1,g2,hk⟩:=hk
   obtain⟨d3,K1,hk⟩:=ak hk
   obtain⟨cs,hx,q1,q2⟩:=hv
   have g5:(Sh.ar m s).sub j.toNat=some s:=by simp[Sh.sub];omega
   obtain⟨d',jP,sJ,XX⟩:=q1.part rfl g5
   rw[K1]at jP
   cases jP
   rw[fT K1]at q2
   have g3:=(q2.drop (au (List.take j.toNat l)).length).take d3.flat.length
   rw[abi,aa3,XX]at g3
   refine .here hs hk (VR.gO sJ g3) ?_
   have hlen:=g3.len
   have:=Gn (w:=w) (o':=j.toNat*s.size) (ms:=(cs.toList.drop (Sh.j8 (.ar m s) j.toNat)).take d3.flat.length) hsh hlf (by rw[<-hlen,sJ.len]) (p7 sJ g3) (by rw[<-hlen];rfl)
   simp[execOp,ho,hx,hi,Instr.index,asIntOf,run_underlying hu,g1,g2,run_sizeOf hsh,this]
  ·exact hk.elim
 ·exact hk.elim
theorem US{t:TypeId}{x i:Operand}{x' i':X}(ho:o.op= .index t x i)(hu:P.underlying t=some .string)(h1:cX x=some x')(h2:cX i=some i')
  (h:dA C env rows (.ue x' i') k):bI P n o ρ T env rows a w k:=by
 obtain⟨d,he,hk⟩:=ak h
 split at hk
 ·rename_i b
  obtain⟨d2,uW,hk⟩:=ak hk
  split at hk
  ·rename_i kd j
   have hx:=eP h1 he hs hG
   have hi:=eP h2 uW hs hG
   obtain⟨g1,hk⟩:=hk
   obtain⟨c,hc,hk⟩:=ak hk
   refine .here hs hk (VR.raw rfl) ?_
   have eI:b[j.toNat]?=some c:=by
    have hlt:=cU hc
    have XZ:j.toNat<b.size:=by simpa using hlt
    rw[aaw hlt]at hc
    simp at hc
    rw[getElem?_pos b j.toNat XZ]
    simp[<-hc]
    rfl
   simp[execOp,ho,hx,hi,Instr.index,asIntOf,run_underlying hu,g1,eI]
  ·exact hk.elim
 ·exact hk.elim
end ops
end Go.Am

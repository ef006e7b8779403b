import Derived.Test.YtgcejocgnfkciaaGreatDoorKg4
import Derived.Test.YtgcejocgnfkciaaGreatDoorRows
import Derived.OpenShut
import Derived.WalkKit
import Derived.ProofKit
import Derived.JoinedCond
import Derived.Carry
import Derived.Lib.LaidTab
set_option linter.unusedSimpArgs false
set_option linter.unusedVariables false
namespace Go.Am
def u8(x:BitVec 8):Value:= .int .u8 (x.toNat:Int)
def u16(x:BitVec 16):Value:= .int .u16 (x.toNat:Int)
def u32(x:BitVec 32):Value:= .int .u32 (x.toNat:Int)
def u64(x:BitVec 64):Value:= .int .u64 (x.toNat:Int)
def it(n:Int):Value:= .int .i64 n
def wz(n:Int):Int:=IntKind.i64.wrap n
theorem aZ{n:Int}(h:-9223372036854775808<=n/\n<9223372036854775808):wz n=n:=by
 unfold wz IntKind.wrap
 have e1:(2:Int)^IntKind.i64.bits=18446744073709551616:=by decide
 have e2:(2:Int)^(IntKind.i64.bits-1)=9223372036854775808:=by decide
 simp only[e1,e2]
 rcases Int.lt_or_le n 0 with h0|h0
 ·have:n %18446744073709551616=n+18446744073709551616:=by omega
  rw[this,aaI (by simp[IntKind.signed];omega)]
  omega
 ·have:n %18446744073709551616=n:=by omega
  rw[this,aaA (by simp[IntKind.signed];omega)]
def asMp:D->Option Nat
 | .mp r=>some r
 | _=>none
def mres(vs:Sh)(ok:Bool)(z:D):Option Value->D
 |some v=>bif ok then .cA [dV vs v,.raw (.bool true)]else dV vs v
 |none=>bif ok then .cA [z,.raw (.bool false)]else z
def asIt:D->Option Int
 | .raw (.int .i64 n)=>some n
 | _=>none
def Zp:D->Option Int
 | .raw (.int _ n)=>some n
 | _=>none
def GW(kd:IntKind):D->Option Value
 | .raw (.int _ n)=>some (.int kd (kd.wrap n))
 | _=>none
def kSeq(C:bf)(b:aC)(Q:fI->Env->Rows->Prop):fI->Env->Rows->Prop:=λe env rows=>match e with
 | .normal=>aw C b Q env rows
 |e=>Q e env rows
def SO(id:Nat)(Q:fI->Env->Rows->Prop):fI->Env->Rows->Prop:=λe env rows=>match e with
 | .exit i=>(i=id->Q .normal env rows)/\(i≠id->Q (.exit i) env rows)
 |e=>Q e env rows
def Ie(C:bf)(a b:aC)(Q:fI->Env->Rows->Prop)(env:Env)(rows:Rows):D->Prop
 | .raw (.bool t)=>(t=true->aw C a Q env rows)/\(t=false->aw C b Q env rows)
 | _=>False
def Zq(C:bf)(dst:Option Nat)(o:nY)(want:Bool)(os:List aY)(env:Env)(rows:Rows)(K:Env->Rows->Prop):D->Prop
 | .raw (.bool t)=>(t=want->dW C env rows o λd rows=>ec C os (put dst d env) rows K)/\(t=!want->ec C os (put dst (.cA []) env) rows K)
 | .cA []=>ec C os (put dst (.cA []) env) rows K
 | _=>False
def kOp(C:bf)(dst:Option Nat)(os:List aY)(env:Env)(K:Env->Rows->Prop):D->Rows->Prop:=λd rows=>ec C os (put dst d env) rows K
def Vj(C:bf)(a b:X)(env:Env)(rows:Rows)(k:D->Rows->Prop):D->Prop
 | .raw (.bool t)=>bn (bif t then ev C env a else ev C env b) λd=>k d rows
 | _=>False
def aI(A:Fn)(rows:Rows)(k:D->Rows->Prop)(ds:List D):Prop:=
 (aW ds=true->bn (dU (view rows 9) ds) λds'=>bn (A ds' []) λr=>(cj r.1&&be r.2)=true/\k (shift rows.length r.1) (rows++ab rows.length r.2))/\
   (aW ds=false->bn (A ds []) λr=>k (shift rows.length r.1) (rows++ab rows.length r.2))
def kFn(C:bf)(rows:Rows)(f:FuncId)(k:D->Rows->Prop):Option Fn->List D->Prop
 |some A,ds=>aI A rows k ds
 |none,ds=>bn (C.O1 f) λA=>A ds rows k
theorem Vk{C rows f ds k}:BA C rows f ds k=kFn C rows f k (C.fn f) ds:=by unfold BA;cases C.fn f<;>rfl
theorem dj{C rows f k}{o o':Option Fn}{d d':List D}(h:o=o')(h2:d=d'):kFn C rows f k o d=kFn C rows f k o' d':=by rw[h,h2]
def Nm:D->D->Option Bool
 | .raw (.pointer none),.raw (.pointer none)=>some true
 | .ptr _ _ _,.raw (.pointer none)=>some false
 | .cd _,.raw (.pointer none)=>some false
 | _,_=>none
def eqA(s:Sh):D->D->Option Bool
 | .agg s1 l,.agg s2 l'=>bif s1==s&&s2==s then yz l l' else none
 | _,_=>none
def kTail(C:bf)(tl:List aY)(K:Env->Rows->Prop):Env->Rows->Prop:=λenv rows=>ec C tl env rows K
def kStab(C:bf)(dl:List aY)(K:Env->Rows->Prop):Env->Rows->Prop:=λenv rows=>tX C env rows dl/\K env rows
def kSt1(env:Env)(rows:Rows)(t:Nat):D->Rows->Prop:=λd r=>look env t=some d/\r=rows
def Nn(C:bf)(dl:List aY)(K:Env->Rows->Prop):Env->Rows->Prop:=λenv rows=>qL C env rows dl/\K env rows
def kIntF(C:bf)(fl dl:List aY)(K:Env->Rows->Prop):Env->Rows->Prop:=λenv rows=>ec C fl env rows (Nn C dl K)
def kSlF(env:Env)(rows:Rows)(s:Sh)(n t:Nat)(l:List D):Prop:=bn (look env t) (isSl s n l rows)
def oH(s:Sh)(n:Int)(rows:Rows)(k:D->Rows->Prop):D->Prop
 | .sl t r p off len _=>t=s/\0<=n/\n<(len:Int)/\k (.ptr s r (p++[off+n.toNat])) rows
 | .cI t l _=>t=s/\0<=n/\n<(l.length:Int)/\bn (l[n.toNat]?) λd=>k (.cd d) rows
 | _=>False
def If (s : Sh) (l h c : Option Int) (rows : Rows) (k : D -> Rows -> Prop) (dx : D) : Prop :=
 bn (dQ dx) λn=>nt (l.getD 0) (h.getD n) (c.getD (h.getD n)) n λl h' c'=>match dx with
    | .raw (.slice none 0 0)=>k (.raw (.slice none 0 0)) rows
    | .sl t r p off len e=>t=s/\k (.sl s r p (off+l) (h'-l) (qJ c h' c' len e)) rows
    | .cI t els e=>t=s/\k (.cI s ((els.drop l).take (h'-l)) (qJ c h' c' els.length e)) rows
    | _=>False
def KC(kq:List aS)(K:D->Rows->Prop):fI->Env->Rows->Prop:=λe env rows=>(e= .normal\/e= .ret)/\bn (AU env rows kq) λl=>K (xA l) rows
theorem ag{C:bf}{np:Nat}{kq:List aS}{ac:aC}{ds:List D}{rows:Rows}{K:D->Rows->Prop}(h1:ds.length=np)(h2:aw C ac (KC kq K) (pL 0 ds) rows):aQ C np kq ac ds rows K:=⟨h1,h2⟩
def pM:D->Option D
 | .cA _=>none
 |d=>some d
def LG(C:bf)(a:aC)(Q:fI->Env->Rows->Prop)(env:Env)(rows:Rows):Prop:=∃n,ku (aw C a) Q n env rows
theorem dq{α:Type}{x y:Option α}{k:α->Prop}(h:x=y):bn x k=bn y k:=by rw[h]
theorem bW{C a b Q env rows}{d d':D}(h:d=d'):Ie C a b Q env rows d=Ie C a b Q env rows d':=by rw[h]
theorem dt{C dst o want os env rows K}{d d':D}(h:d=d'):Zq C dst o want os env rows K d=Zq C dst o want os env rows K d':=by rw[h]
theorem bX{C a b env rows k}{d d':D}(h:d=d'):Vj C a b env rows k d=Vj C a b env rows k d':=by rw[h]
theorem bY{A rows k}{d d':List D}(h:d=d'):aI A rows k d=aI A rows k d':=by rw[h]
theorem cB{s}{n n':Int}{rows aa:Rows}{k}{d d':D}(h1:n=n')(h2:rows=aa)(h3:d=d'):oH s n rows k d=oH s n' aa k d':=by rw[h1,h2,h3]
theorem bI{s}{l l' h h' c c':Option Int}{rows aa:Rows}{k}{d d':D}(h0:l=l')(h1:h=h')(hc:c=c')(h2:rows=aa)(h3:d=d'):If s l h c rows k d=If s l' h' c' aa k d':=by rw[h0,h1,hc,h2,h3]
theorem bZ{C a Q env env'}{rows aa:Rows}(h:env=env')(h':rows=aa):LG C a Q env rows=LG C a Q env' aa:=by rw[h,h']
theorem b5{α:Type}{c d:Bool}{a b:α}(h:c=d):cond c a b=cond d a b:=by rw[h]
theorem cC{op}{a a' b b':Value}{k}(h:a=a')(h2:b=b'):cF op a b k=cF op a' b' k:=by rw[h,h2]
theorem bu{l l' h h' m m':Int}{n n':Nat}{k}(h1:l=l')(h2:h=h')(h3:m=m')(h4:n=n'):nt l h m n k=nt l' h' m' n' k:=by rw[h1,h2,h3,h4]
theorem cD{rows aa:Rows}{s bytes}{a a':D}{l l':List D}{k}(h1:rows=aa)(h2:a=a')(h3:l=l'):wW rows s bytes a l k=wW aa s bytes a' l' k:=by rw[h1,h2,h3]
theorem b6{rows aa:Rows}{s}{a a':D}{l l':List D}{k}(h1:rows=aa)(h2:a=a')(h3:l=l'):o5 rows s a l k=o5 aa s a' l' k:=by rw[h1,h2,h3]
def pkO(t:Bool)(x y:Option D):Option D:=bif t then x else y
section eqs
variable (C:bf) (env:Env) (rows:Rows) (Q:fI->Env->Rows->Prop) (k:D->Rows->Prop) (K:Env->Rows->Prop)
theorem q_skip:aw C .skip Q env rows=Q .normal env rows:=aay rfl rfl
theorem q_region(ops):aw C (.region false ops) Q env rows=ec C ops env rows (Q .normal):=aay rfl rfl
theorem Xt(ops):aw C (.region true ops) Q env rows=ec C.quiet ops env rows (Q .normal):=aay rfl rfl
theorem q_draw1(pre tail):aw C (.UP pre tail) Q env rows=ec C.quiet pre env rows (kTail C tail (Q .normal)):=aay rfl rfl
theorem q_draw(pre dl tail):aw C (.draw pre dl tail) Q env rows=ec C.quiet pre env rows (kStab C.quiet dl λenv rows=>wY C.quiet tail env rows (Q .normal)):=aay rfl rfl
theorem q_tail(tl):kTail C tl K env rows=ec C tl env rows K:=aay rfl rfl
theorem q_stab(dl):kStab C dl K env rows=(tX C env rows dl/\K env rows):=aay rfl rfl
theorem q_st0:tX C env rows []=True:=aay rfl rfl
theorem q_st1(t o g l):tX C env rows (⟨some t,o,g⟩::l)=(dW C env rows o (kSt1 env rows t)/\tX C env rows l):=by
 simp only[tX]
 congr 1
theorem q_st2(t d r):kSt1 env rows t d r=(look env t=some d/\r=rows):=aay rfl rfl
theorem q_ta0:wY C [] env rows K=K env rows:=aay rfl rfl
theorem q_ta1(x dl l):wY C ((x,dl)::l) env rows K=ec C [x] env rows (kStab C dl λenv rows=>wY C l env rows K):=aay rfl rfl
theorem q_drawf(pre dl tail):aw C (.ZD pre dl tail) Q env rows=ec C.quiet pre env rows (Nn C.quiet dl λenv rows=>zv C tail env rows (Q .normal)):=aay rfl rfl
theorem q_stabF(dl):Nn C dl K env rows=(qL C env rows dl/\K env rows):=aay rfl rfl
theorem q_intF(fl dl):kIntF C fl dl K env rows=ec C fl env rows (Nn C dl K):=aay rfl rfl
theorem q_sf0:qL C env rows []=True:=aay rfl rfl
theorem q_sf1(t o g l):qL C env rows (⟨some t,o,g⟩::l)=(mB C env rows o t/\qL C env rows l):=aay rfl rfl
theorem q_sfa(s z t):mB C env rows (.alloc s z) t=bn (look env t) (ZE s [z] rows):=aay rfl rfl
theorem q_sfb(s n z ps t):mB C env rows (.iX s n z ps) t=bn (oZ C env (Sh.ar n s).sub ps (List.replicate n z)) (kSlF env rows s n t):=aay rfl rfl
theorem q_sfm(x t):mB C env rows (.mv x) t=dW C env rows (.mv x) (kSt1 env rows t):=by
 simp only[mB]
 congr 1
theorem q_sfl(s x t):mB C env rows (.load s x) t=dW C env rows (.load s x) (kSt1 env rows t):=by
 simp only[mB]
 congr 1
theorem q_sfe(x i t):mB C env rows (.ext x i) t=dW C env rows (.ext x i) (kSt1 env rows t):=by
 simp only[mB]
 congr 1
theorem q_slf(s n t l):kSlF env rows s n t l=bn (look env t) (isSl s n l rows):=aay rfl rfl
theorem q_isp(s l s' r p):ZE s l rows (.ptr s' r p)=(s'=s/\p=[0]/\live rows r=some ⟨s,l⟩):=aay rfl rfl
theorem q_isl(s n l s' r p off len ex):isSl s n l rows (.sl s' r p off len ex)=(s'=s/\p=[]/\off=0/\len=n/\ex=true/\live rows r=some ⟨s,l⟩):=aay rfl rfl
theorem q_tf0:zv C [] env rows K=K env rows:=aay rfl rfl
theorem q_tf1(x fl dl l):zv C ((x,fl,dl)::l) env rows K=ec C [x] env rows (kIntF C.quiet fl dl λenv rows=>zv C l env rows K):=aay rfl rfl
theorem q_qfn(f):C.quiet.fn f=C.fn f:=aay rfl rfl
theorem q_qgl(f):C.quiet.aX f=C.aX f:=aay rfl rfl
theorem q_seq(a b):aw C (.seq a b) Q env rows=aw C a (kSeq C b Q) env rows:=aay rfl rfl
theorem q_cond(c a b):aw C (.cond c a b) Q env rows=bn (ev C env c) (Ie C a b Q env rows):=aay rfl rfl
theorem q_block(id a):aw C (.block id a) Q env rows=aw C a (SO id Q) env rows:=aay rfl rfl
theorem q_loop(a):aw C (.loop a) Q env rows=LG C a Q env rows:=aay rfl rfl
theorem q_exit(id):aw C (.exit id) Q env rows=Q (.exit id) env rows:=aay rfl rfl
theorem q_ret:aw C .ret Q env rows=Q .ret env rows:=aay rfl rfl
theorem q_fr(kq)(R:D->Rows->Prop):KC kq R .ret env rows=bn (AU env rows kq) λl=>R (xA l) rows:=by simp[KC]
theorem q_fn(kq)(R:D->Rows->Prop):KC kq R .normal env rows=bn (AU env rows kq) λl=>R (xA l) rows:=by simp[KC]
theorem q_a0:AU env rows []=some []:=aay rfl rfl
theorem q_a1(r l):AU env rows (r::l)=(Fz env rows r).bind λd=>(AU env rows l).map λds=>d::ds:=by
 simp only[AU]
 cases Fz env rows r with
 |none=>rfl
 |some d=>cases AU env rows l<;>rfl
theorem q_at(t):Fz env rows (.tmp t)=(look env t).bind pM:=by
 simp only[Fz]
 cases look env t with
 |none=>rfl
 |some d=>cases d<;>rfl
theorem q_ac(t s):Fz env rows (.cell t s)=match look env t with
  |some (.ptr s' r p)=>bif s'==s then(match live rows r with
   |some row=>dC row.els p
   |none=>none)else none
  | _=>none:=aay rfl rfl
theorem n_raw(v):pM (.raw v)=some (.raw v):=aay rfl rfl
theorem n_ptr(s r p):pM (.ptr s r p)=some (.ptr s r p):=aay rfl rfl
theorem n_sl(s r p o n e):pM (.sl s r p o n e)=some (.sl s r p o n e):=aay rfl rfl
theorem n_lst(s l e):pM (.cI s l e)=some (.cI s l e):=aay rfl rfl
theorem q_r1(d):xA [d]=d:=aay rfl rfl
theorem q_r0:xA []= .cA []:=aay rfl rfl
theorem q_r2(d e l):xA (d::e::l)= .cA (d::e::l):=aay rfl rfl
theorem sl_sl(s r p o n e):dQ (.sl s r p o n e)=some n:=aay rfl rfl
theorem sl_lst(s l e):dQ (.cI s l e)=some l.length:=aay rfl rfl
theorem sl_nil:dQ (.raw (.slice none 0 0))=some 0:=aay rfl rfl
theorem so_sl(s t r p o n e):sH rows s (.sl t r p o n e)=bif s==t then elems rows (.sl t r p o n e)else none:=aay rfl rfl
theorem so_lst(s t l e):sH rows s (.cI t l e)=bif s==t then some l else none:=aay rfl rfl
theorem so_nil(s):sH rows s (.raw (.slice none 0 0))=some []:=aay rfl rfl
theorem el_sl(s r off len e):elems rows (.sl s r [] off len e)=(live rows r).map λrow=>(row.els.drop off).take len:=by simp only[elems];cases live rows r<;>rfl
theorem el_lst(s l e):elems rows (.cI s l e)=some l:=aay rfl rfl
theorem lv_0(row):live (some row::rows) 0=some row:=aay rfl rfl
theorem lv_s(x n):live (x::rows) (n+1)=live rows n:=by simp[live]
theorem lv_new(row):live (rows++[some row]) rows.length=some row:=by simp[live]
theorem g_row(els:List D)(i p):dC els (i::p)=(els[i]?).bind λd=>d.get p:=by simp only[dC];cases els[i]?<;>rfl
theorem g_nil(d):D.get d []=some d:=by cases d<;>rfl
theorem g_agg(s)(l:List D)(i p):D.get (.agg s l) (i::p)=(l[i]?).bind λd=>d.get p:=by simp only[D.get];cases l[i]?<;>rfl
theorem s_row(els:List D)(i p x):mA els (i::p) x=(els[i]?).bind λd=>(d.set p x).map λd'=>els.set i d':=by
 simp only[mA]
 cases els[i]? with
 |none=>rfl
 |some d=>
  simp only[abc]
  cases D.set d p x<;>rfl
theorem s_nil(d x):D.set d [] x=some x:=by cases d<;>rfl
theorem s_agg(s)(l:List D)(i p x):D.set (.agg s l) (i::p) x=(l[i]?).bind λd=>(d.set p x).map λd'=> .agg s (l.set i d'):=by
 simp only[D.set]
 cases l[i]? with
 |none=>rfl
 |some d=>
  simp only[abc]
  cases D.set d p x<;>rfl
theorem sub_0(a b):(Sh.cons a b).sub 0=some a:=aay rfl rfl
theorem sub_s(a b i):(Sh.cons a b).sub (i+1)=b.sub i:=aay rfl rfl
theorem sub_ar(n s i):(Sh.ar n s).sub i=if i<n then some s else none:=aay rfl rfl
theorem a_nil(s bytes)(news:List D):wW rows s bytes (.raw (.slice none 0 0)) news k=(news.length*bytes<=most/\news.length<=most/\k (.sl s rows.length [] 0 news.length false) (rows++[some ⟨s,news⟩])):=by simp[wW,elems,dQ,bn,fa,isNil,kill]
theorem a_sl(s bytes t r n e)(news:List D):wW rows s bytes (.sl t r [] 0 n e) news k=bn (live rows r) λrow=>(s==t)=true/\(row.els.take n).length=n/\(n+news.length)*bytes<=most/\n+news.length<=most/\k (.sl s rows.length [] 0 (n+news.length) false) (rows.set r none++[some ⟨s,row.els.take n++news⟩]):=by
 simp only[wW,elems,dQ,fa,isNil,owned,kill]
 cases live rows r<;>simp[bn]
theorem most_eq:most=1099511627776:=rfl
theorem q_bd(l h m:Int)(n:Nat)(kk:Nat->Nat->Nat->Prop):nt l h m n kk=(0<=l/\l<=h/\h<=m/\m<=(n:Int)/\kk l.toNat h.toNat m.toNat):=aay rfl rfl
theorem q_skl(s l h c t els e):If s l h c rows k (.cI t els e)=nt (l.getD 0) (h.getD els.length) (c.getD (h.getD els.length)) els.length λl h' c'=>t=s/\k (.cI s ((els.drop l).take (h'-l)) (qJ c h' c' els.length e)) rows:=aay rfl rfl
theorem q_sks(s l h c t r p off)(n:Nat)(e):If s l h c rows k (.sl t r p off n e)=nt (l.getD 0) (h.getD n) (c.getD (h.getD n)) n λl h' c'=>t=s/\k (.sl s r p (off+l) (h'-l) (qJ c h' c' n e)) rows:=aay rfl rfl
theorem q_sn(b):kSeq C b Q .normal env rows=aw C b Q env rows:=aay rfl rfl
theorem q_sr(b):kSeq C b Q .ret env rows=Q .ret env rows:=aay rfl rfl
theorem q_se(b i):kSeq C b Q (.exit i) env rows=Q (.exit i) env rows:=aay rfl rfl
theorem q_bn(id):SO id Q .normal env rows=Q .normal env rows:=aay rfl rfl
theorem q_br(id):SO id Q .ret env rows=Q .ret env rows:=aay rfl rfl
theorem q_be(id i):SO id Q (.exit i) env rows=bif i==id then Q .normal env rows else Q (.exit i) env rows:=by
 simp only[SO]
 by_cases h:i=id
 ·subst h;simp
 ·have:(i==id)=false:=by simpa using h
  simp[h,this]
theorem q_ct(a b):Ie C a b Q env rows (.raw (.bool true))=aw C a Q env rows:=by simp[Ie]
theorem q_cf(a b):Ie C a b Q env rows (.raw (.bool false))=aw C b Q env rows:=by simp[Ie]
theorem q_on:ec C [] env rows K=K env rows:=aay rfl rfl
theorem q_oc(dst o os):ec C (⟨dst,o,none⟩::os) env rows K=dW C env rows o (kOp C dst os env K):=aay rfl rfl
theorem q_og(dst o g want os):ec C (⟨dst,o,some (g,want)⟩::os) env rows K=bn (look env g) (Zq C dst o want os env rows K):=aay rfl rfl
theorem q_gtt(dst o os):Zq C dst o true os env rows K (.raw (.bool true))=dW C env rows o (kOp C dst os env K):=by simp only[Zq];simp;rfl
theorem q_gtf(dst o os):Zq C dst o false os env rows K (.raw (.bool true))=ec C os (put dst (.cA []) env) rows K:=by simp[Zq]
theorem q_gft(dst o os):Zq C dst o true os env rows K (.raw (.bool false))=ec C os (put dst (.cA []) env) rows K:=by simp[Zq]
theorem q_gff(dst o os):Zq C dst o false os env rows K (.raw (.bool false))=dW C env rows o (kOp C dst os env K):=by simp only[Zq];simp;rfl
theorem q_gz(dst o want os):Zq C dst o want os env rows K (.cA [])=ec C os (put dst (.cA []) env) rows K:=aay rfl rfl
theorem q_ko(dst os d):kOp C dst os env K d rows=ec C os (put dst d env) rows K:=aay rfl rfl
theorem q_bs{α:Type}(a:α)(k:α->Prop):bn (some a) k=k a:=aay rfl rfl
theorem q_et(t):ev C env (.tmp t)=look env t:=aay rfl rfl
theorem q_ec(v):ev C env (.const v)=some (.raw v):=aay rfl rfl
theorem q_eg(g):ev C env (.aX g)=(C.aX g).map D.cd:=by
 simp only[ev]
 cases C.aX g<;>rfl
theorem q_lk(j t d):look ((j,d)::env) t=bif j==t then some d else look env t:=aay rfl rfl
theorem q_ps(t d):put (some t) d env=(t,d)::env:=aay rfl rfl
theorem q_pn(d):put none d env=env:=aay rfl rfl
theorem q_es0:OQ C env []=some []:=aay rfl rfl
theorem q_es1(x l):OQ C env (x::l)=match ev C env x with|some d=>(match OQ C env l with|some ds=>some (d::ds)|none=>none)|none=>none:=aay rfl rfl
theorem q_eo0:Km C env none=some none:=aay rfl rfl
theorem q_eo1(x):Km C env (some x)=(ev C env x).bind λd=>(Zp d).map some:=by
 show(match ev C env x with|some (.raw (.int _ n))=>some (some n)| _=>none)=_
 cases ev C env x with
 |none=>rfl
 |some d=>cases d with
  |raw v=>cases v<;>rfl
  | _=>rfl
theorem o_mv(x):dW C env rows (.mv x) k=bn (ev C env x) λd=>k d rows:=aay rfl rfl
theorem o_pick(c a b):dW C env rows (.pick c a b) k=bn (ev C env c) (Vj C a b env rows k):=aay rfl rfl
theorem o_bin(op x y):dW C env rows (.bin op x y) k=bn (ev C env x) fun
  | .raw a=>bn (ev C env y) fun
   | .raw b=>cF op a b λd=>k d rows
   | _=>False
  | _=>False:=aay rfl rfl
theorem o_eqa(s neg x y):dW C env rows (.eqa s neg x y) k=bn (ev C env x) λdx=>bn (ev C env y) λdy=>bn (eqA s dx dy) λb=>k (.raw (.bool (bif neg then !b else b))) rows:=by
 show bn _ _=_
 congr 1
 funext dx
 cases dx with
 | agg s1 l =>
  show bn _ _=_
  congr 1
  funext dy
  cases dy with
  | agg s2 l' =>
   show(s1=s/\s2=s/\_)=_
   unfold eqA
   by_cases h1:s1=s
   ·by_cases h2:s2=s
    ·simp[h1,h2]
    ·have:(s2==s)=false:=by simpa using h2
     simp[h2,this,bn]
   ·have:(s1==s)=false:=by simpa using h1
    simp[h1,this,bn]
  | _=>rfl
 | _=>
  cases ev C env y<;>rfl
theorem ea_agg(s l l'):eqA s (.agg s l) (.agg s l')=yz l l':=by simp[eqA]
theorem eL_c(a l b l'):yz (a::l) (b::l')=(y6 a b).bind λt=>(yz l l').map λu=>t&&u:=by
 simp only[yz]
 cases y6 a b with
 |none=>rfl
 |some t=>cases yz l l'<;>rfl
theorem o_un(op x):dW C env rows (.un op x) k=bn (ev C env x) fun
  | .raw a=>aUn op a λd=>k d rows
  | _=>False:=aay rfl rfl
theorem o_conv(kd x):dW C env rows (.conv kd x) k=bn (ev C env x) λd=>bn (GW kd d) λv=>k (.raw v) rows:=by
 show(bn _ _)=_
 congr 1
 funext d
 cases d with
 |raw v=>cases v<;>rfl
 | _=>rfl
theorem o_alloc(s z):dW C env rows (.alloc s z) k=k (.ptr s rows.length [0]) (rows++[some ⟨s,[z]⟩]):=aay rfl rfl
theorem o_box(s x):dW C env rows (.box s x) k=bn (ev C env x) λd=>d.fits s=true/\k (.ptr s rows.length [0]) (rows++[some ⟨s,[d]⟩]):=aay rfl rfl
theorem o_build(s z parts):dW C env rows (.build s z parts) k=bn (oZ C env s.sub parts z) λl=>k (.agg s l) rows:=aay rfl rfl
theorem o_bslice(s n z parts):dW C env rows (.iX s n z parts) k=bn (oZ C env (Sh.ar n s).sub parts (List.replicate n z)) λl=>k (.sl s rows.length [] 0 n true) (rows++[some ⟨s,l⟩]):=aay rfl rfl
theorem o_load(s x):dW C env rows (.load s x) k=bn (ev C env x) fun
  | .ptr s' r p=>s'=s/\bn (live rows r) λrow=>bn (dC row.els p) λd=>k d rows
  | .cd d=>d.fits s=true/\k d rows
  | .nX m t r p off=>s= .ar m t/\bn (elems rows (.sl t r p off m false)) λl=>l.length=m/\k (.agg s l) rows
  | _=>False:=aay rfl rfl
theorem o_store(s x v):dW C env rows (.store s x v) k=bn (ev C env x) fun
  | .ptr s' r p => bn (ev C env v) λd => d.fits s = true /\ s' = s /\ bn (live rows r) λrow => bn (mA row.els p d) λels =>
    k (.cA []) (rows.set r (some ⟨row.sh,els⟩))
  | _=>False:=aay rfl rfl
theorem o_nilc(x):dW C env rows (.pF x) k=bn (ev C env x) fun
  | .ptr s r p=>k (.ptr s r p) rows
  | .cd d=>k (.cd d) rows
  | _=>False:=aay rfl rfl
theorem o_faddr(s x i):dW C env rows (.eI s x i) k=bn (ev C env x) fun
  | .ptr s' r p=>s'=s/\bn (s.sub i) λe=>k (.ptr e r (p++[i])) rows
  | .cd (.agg s' l)=>s'=s/\bn (l[i]?) λd=>k (.cd d) rows
  | _=>False:=aay rfl rfl
theorem o_field(s x i):dW C env rows (.field s x i) k=bn (ev C env x) fun
  | .agg s' l=>s'=s/\bn (l[i]?) λd=>k d rows
  | _=>False:=aay rfl rfl
theorem o_iaddra(m s x i):dW C env rows (.wS m s x i) k=bn (ev C env x) λdx=>bn (ev C env i) λdi=>bn (Zp di) λn=>match dx with
   | .ptr t r p=>t= .ar m s/\0<=n/\n<(m:Int)/\k (.ptr s r (p++[n.toNat])) rows
   | .cd (.agg t l)=>t= .ar m s/\0<=n/\n<(m:Int)/\bn (l[n.toNat]?) λd=>k (.cd d) rows
   | _=>False:=by
 show(bn _ _)=_
 congr 1
 funext dx
 show(bn _ _)=_
 congr 1
 funext d
 cases d with
 |raw v=>cases v<;>rfl
 | _=>rfl
theorem o_iaddrs(s x i):dW C env rows (.nk s x i) k=bn (ev C env x) λdx=>bn (ev C env i) λdi=>bn (Zp di) λn=>oH s n rows k dx:=by
 show(bn _ _)=_
 congr 1
 funext dx
 show(bn _ _)=_
 congr 1
 funext d
 cases d with
 |raw v=>cases v<;>rfl
 | _=>rfl
theorem q_ixl(s n t l e):oH s n rows k (.cI t l e)=(t=s/\0<=n/\n<(l.length:Int)/\bn (l[n.toNat]?) λd=>k (.cd d) rows):=aay rfl rfl
theorem q_ixs(s n t r p off len e):oH s n rows k (.sl t r p off len e)=(t=s/\0<=n/\n<(len:Int)/\k (.ptr s r (p++[off+n.toNat])) rows):=aay rfl rfl
theorem o_index(m s x i):dW C env rows (.index m s x i) k=bn (ev C env x) fun
  | .agg t l=>bn (ev C env i) λdi=>bn (Zp di) λn=>t= .ar m s/\0<=n/\n<(m:Int)/\bn (l[n.toNat]?) λd=>k d rows
  | _=>False:=by
 show(bn _ _)=_
 congr 1
 funext dx
 cases dx with
 |agg t l=>
  show(bn _ _)=_
  congr 1
  funext d
  cases d with
  |raw v=>cases v<;>rfl
  | _=>rfl
 | _=>rfl
theorem o_sindex(x i):dW C env rows (.uZ x i) k=bn (ev C env x) fun
  | .raw (.string b)=>bn (ev C env i) λdi=>bn (Zp di) λn=>0<=n/\bn (b.data.toList[n.toNat]?) λc=>k (.raw (u8 c.toBitVec)) rows
  | _=>False:=by
 show(bn _ _)=_
 congr 1
 funext dx
 cases dx with
 | raw v => cases v with
  |string b=>
   show(bn _ _)=_
   congr 1
   funext d
   cases d with
   |raw v=>cases v<;>rfl
   | _=>rfl
  | _=>rfl
 | _=>rfl
theorem o_slicea(m s x lo hi mx):dW C env rows (.AD m s x lo hi mx) k=bn (ev C env x) λdx=>bn (Km C env lo) λl=>bn (Km C env hi) λh=>bn (Km C env mx) λc=>
   nt (l.getD 0) (h.getD m) (c.getD m) m λl h c=>match dx with
    | .ptr t r p=>t= .ar m s/\k (.sl s r p l (h-l) (h==c)) rows
    | .cd (.agg t els)=>t= .ar m s/\k (.cI s ((els.drop l).take (h-l)) (h==c)) rows
    | _=>False:=aay rfl rfl
theorem o_slice(s x lo hi mx):dW C env rows (.slice s x lo hi mx) k=bn (ev C env x) λdx=>bn (Km C env lo) λl=>bn (Km C env hi) λh=>bn (Km C env mx) λc=>If s l h c rows k dx:=aay rfl rfl
theorem o_mks(s bytes z len cap):dW C env rows (.mks s bytes z len cap) k=bn (ev C env len) λdl=>bn (Zp dl) λl=>bn (ev C env cap) λdc=>bn (Zp dc) λc=>0<=l/\l<=c/\c*bytes<=(most:Int)/\c<=(most:Int)/\
     k (.sl s rows.length [] 0 l.toNat (decide (l=c))) (rows++[some ⟨s,List.replicate l.toNat z⟩]):=by
 show(bn _ _)=_
 congr 1
 funext d
 cases d with
 | raw v => cases v with
  |int kk l=>
   show(bn _ _)=_
   congr 1
   funext d
   cases d with
   |raw v=>cases v<;>rfl
   | _=>rfl
  | _=>rfl
 | _=>rfl
theorem o_ext(x i):dW C env rows (.ext x i) k=bn (ev C env x) fun
  | .cA l=>bn (l[i]?) λd=>k d rows
  | _=>False:=aay rfl rfl
theorem o_len(x):dW C env rows (.len x) k=bn (ev C env x) λd=>bn (dQ d) λn=>k (.raw (it n)) rows:=aay rfl rfl
theorem o_strlen(x):dW C env rows (.AE x) k=bn (ev C env x) fun
  | .raw (.string b)=>k (.raw (it b.size)) rows
  | _=>False:=aay rfl rfl
theorem o_append(s bytes a b):dW C env rows (.append s bytes a b) k=bn (ev C env a) λda=>bn (ev C env b) λdb=>bn (sH rows s db) λnews=>(∀k,dQ db=some k->news.length=k)/\wW rows s bytes da news k:=aay rfl rfl
theorem Xu(s bytes z a n):dW C env rows (.u5 s bytes z a n) k=bn (ev C env a) λda=>bn (ev C env n) λdn=>bn (Zp dn) λm=>0<=m/\wW rows s bytes da (List.replicate m.toNat z) k:=by
 show(bn _ _)=_
 congr 1
 funext dx
 show(bn _ _)=_
 congr 1
 funext d
 cases d with
 |raw v=>cases v<;>rfl
 | _=>rfl
theorem o_copy(s a b):dW C env rows (.copy s a b) k=bn (ev C env a) λda=>bn (ev C env b) λdb=>bn (sH rows s db) λsrc=>(∀k,dQ db=some k->src.length=k)/\o5 rows s da src k:=aay rfl rfl
theorem o_minmax(mx l):dW C env rows (.wU mx l) k=bn (OQ C env l) λds=>bn (By mx ds) λr=>k (.raw (.int r.1 r.2)) rows:=aay rfl rfl
theorem mm_c(mx n l):By mx (.raw (it n)::l)=(oE mx .i64 n l).map λm=>(IntKind.i64,m):=by
 simp only[By,it]
 cases oE mx .i64 n l<;>rfl
theorem mf_n(mx kd n):oE mx kd n []=some n:=aay rfl rfl
theorem mf_c(mx n m l):oE mx .i64 n (.raw (it m)::l)=oE mx .i64 (bif mx then max n m else min n m) l:=by simp[oE,it]
theorem fold_it(n):Value.int .i64 n=it n:=aay rfl rfl
theorem o_b2s(x):dW C env rows (.WV x) k=bn (ev C env x) λd=>fa (.leaf tU) d=true/\bn (elems rows d) λl=>bn (dQ d) λn=>l.length=n/\bn (dU toByte l) λbs=>k (.raw (.string ⟨bs.toArray⟩)) rows:=aay rfl rfl
theorem o_s2b(x):dW C env rows (.s2b x) k=bn (ev C env x) fun
  | .raw (.string b)=>k (.cI (.leaf tU) (ofBytes b) false) rows
  | _=>False:=aay rfl rfl
theorem o_call(f args):dW C env rows (.call f args) k=bn (OQ C env args) λds=>kFn C rows f k (C.fn f) ds:=by simp only[<-Vk];exact aay rfl rfl
theorem q_fns(f A ds):kFn C rows f k (some A) ds=aI A rows k ds:=aay rfl rfl
theorem q_fnn(f ds):kFn C rows f k none ds=bn (C.O1 f) λA=>A ds rows k:=aay rfl rfl
theorem q_frq(f):C.O1 f=(C.fy f).or ((C.UQ f).map MX):=by unfold bf.O1;cases C.fy f<;>rfl
theorem q_qfr(f):C.quiet.fy f=none:=aay rfl rfl
theorem q_qfq(f):C.quiet.UQ f=C.UQ f:=aay rfl rfl
theorem q_ors(A:lI)(o:Option lI):(some A:Option lI).or o=some A:=aay rfl rfl
theorem q_orn(o:Option lI):(none:Option lI).or o=o:=by cases o<;>rfl
theorem q_qrn(q ds)(K:D->Rows->Prop):MX q ds rows K=bn (q ds rows) λr=>K r.1 (rows++r.2):=aay rfl rfl
theorem o_callv(fs x args):dW C env rows (.qH fs x args) k=bn (ev C env x) fun
  | .raw (.func (.func f) c1 c2)=>c1=#[]/\c2=#[]/\MY f fs=true/\bn (OQ C env args) λds=>kFn C rows f k (C.fn f) ds
  | .Fi f s r p=>MY f fs=true/\bn (OQ C env args) λds=>kFn C rows f k (C.fn f) (ds++[.ptr s r p])
  | _=>False:=by simp only[<-Vk];exact aay rfl rfl
theorem o_eqnil(neg x y):dW C env rows (.wV neg x y) k=bn (ev C env x) λdx=>bn (ev C env y) λdy=>bn (Nm dx dy) λb=>k (.raw (.bool (bif neg then !b else b))) rows:=by
 show bn _ _=_
 congr 1
 funext dx
 show bn _ _=_
 congr 1
 funext dy
 cases dy with
 | raw v => cases v with
  | pointer ad => cases ad with
   | none => cases dx with
    |raw v=>cases v with
     |pointer ad=>cases ad<;>cases neg<;>rfl
     | _=>rfl
    | _=>cases neg<;>rfl
   | some _ => cases dx with
    |raw v=>cases v with
     |pointer ad=>cases ad<;>rfl
     | _=>rfl
    | _=>rfl
  | _ => cases dx with
    |raw v=>cases v with
     |pointer ad=>cases ad<;>rfl
     | _=>rfl
    | _=>rfl
 | _ => cases dx with
  |raw v=>cases v with
   |pointer ad=>cases ad<;>rfl
   | _=>rfl
  | _=>rfl
theorem nb_nn:Nm (.raw (.pointer none)) (.raw (.pointer none))=some true:=aay rfl rfl
theorem nb_pn(s r p):Nm (.ptr s r p) (.raw (.pointer none))=some false:=aay rfl rfl
theorem nb_cn(d):Nm (.cd d) (.raw (.pointer none))=some false:=aay rfl rfl
theorem o_eqsn(neg x y):dW C env rows (.O0 neg x y) k=bn (ev C env x) λdx=>bn (ev C env y) fun
  | .raw (.slice none 0 0)=>match dx with
   | .raw (.slice none 0 0)=>k (.raw (.bool (!neg))) rows
   | .cI _ l _=>(l.length=0->k (.raw (.bool (!neg))) rows)/\k (.raw (.bool neg)) rows
   | .sl _ _ _ _ len _=>(len=0->k (.raw (.bool (!neg))) rows)/\k (.raw (.bool neg)) rows
   | _=>False
  | _=>False:=aay rfl rfl
theorem o_s2a(n s x):dW C env rows (.s2a n s x) k=bn (ev C env x) fun
  | .sl t r p off len _=>t=s/\n<=len/\0<n/\k (.nX n s r p off) rows
  | .cI t l _=>t=s/\n<=l.length/\0<n/\k (.cd (.agg (.ar n s) (l.take n))) rows
  | _=>False:=aay rfl rfl
theorem o_frzb(s x):dW C env rows (.Sb s x) k=bn (ev C env x) fun
  | .sl t r [] off len ex=>t=s/\0<len/\bn (live rows r) λrow=>off+len<=row.els.length/\k (.sl s r [] off len ex) rows
  | _=>False:=aay rfl rfl
theorem o_mnz(x):dW C env rows (.mnz x) k=bn (ev C env x) λdx=>bn (asIt dx) λn=>0<=n/\n<=(most:Int)/\∀l:List (BitVec 8),l.length=n.toNat->k (.sl L8 rows.length [] 0 n.toNat false) (rows++[some ⟨L8,l.map λb=> .raw (u8 b)⟩]):=by
 show(bn _ _)=_
 congr 1
 funext d
 cases d with
 |raw v=>cases v with
  |int kd n=>cases kd<;>simp only[asIt,bn,reduceCtorEq,false_and,aa2]<;>rfl
  | _=>rfl
 | _=>rfl
theorem asIt_it(n):asIt (.raw (it n))=some n:=aay rfl rfl
theorem o_mkm(ks vs):dW C env rows (.mkm ks vs) k=k (.mp rows.length) (rows++[some ⟨qK ks vs,[]⟩]):=aay rfl rfl
theorem o_mset(ks vs m x v):dW C env rows (.qI ks vs m x v) k=bn (ev C env m) λdm=>bn (asMp dm) λr=>bn (ev C env x) λkd=>bn (ev C env v) λdv=>kd.fits ks=true/\dv.fits vs=true/\bn (live rows r) λrow=>row.sh=qK ks vs/\
     k (.cA []) (rows.set r (some ⟨row.sh,.agg (qK ks vs) [kd,dv]::row.els⟩)):=by show(bn _ _)=_;congr 1;funext d;cases d<;>rfl
theorem o_mget(ks vs ok z m x):dW C env rows (.Ku ks vs ok z m x) k=bn (ev C env m) λdm=>bn (ev C env x) λkd=>kd.fits ks=true/\bn (D4 rows (qK ks vs) dm) λels=>bn (wX kd els) λo=>k (mres vs ok z o) rows:=aay rfl rfl
theorem mr_mp(r):asMp (.mp r)=some r:=aay rfl rfl
theorem me_mp(rows s r):D4 rows s (.mp r)=(live rows r).bind λrow=>bif row.sh==s then some row.els else none:=by simp only[D4];cases live rows r<;>rfl
theorem me_om(rows s t l):D4 rows s (.om t l)=bif t==s then some l else none:=aay rfl rfl
theorem mr_ft(vs z v):mres vs false z (some v)=dV vs v:=aay rfl rfl
theorem mr_tt(vs z v):mres vs true z (some v)= .cA [dV vs v,.raw (.bool true)]:=aay rfl rfl
theorem mr_fn(vs z):mres vs false z none=z:=aay rfl rfl
theorem mr_tn(vs z):mres vs true z none= .cA [z,.raw (.bool false)]:=aay rfl rfl
theorem dv_lf(c v):dV (.leaf c) v= .raw v:=aay rfl rfl
theorem o_clr(s z x):dW C env rows (.clr s z x) k=bn (ev C env x) λd=>bn (dQ d) λn=>o5 rows s d (List.replicate n z) λ_ rows=>k (.cA []) rows:=aay rfl rfl
theorem o_mkf(f x):dW C env rows (.mkf f x) k=bn (ev C env x) fun
  | .ptr s r p=>k (.Fi f s r p) rows
  | _=>False:=aay rfl rfl
theorem o_idxb(x y):dW C env rows (.Sd x y) k=bn (ev C env x) fun
  | .raw (.string b)=>bn (ev C env y) fun
   | .raw (.int .u8 c)=>k (.raw (.int .i64 (WW c b))) rows
   | _=>False
  | _=>False:=aay rfl rfl
theorem q_pk(a b t):Vj C a b env rows k (.raw (.bool t))=bn (pkO t (ev C env a) (ev C env b)) λd=>k d rows:=aay rfl rfl
theorem q_pkt(x y):pkO true x y=x:=aay rfl rfl
theorem q_pkf(x y):pkO false x y=y:=aay rfl rfl
theorem q_f0(sub z):oZ C env sub [] z=some z:=aay rfl rfl
theorem q_f1(sub z i x r):oZ C env sub ((i,x)::r) z=match ev C env x with
  |some d=>match sub i with
   |some e=>bif d.fits e then oZ C env sub r (z.set i d)else none
   |none=>none
  |none=>none:=aay rfl rfl
theorem nG(np kq ac ds):aQ C np kq ac ds rows k=(ds.length=np/\aw C ac (KC kq k) (pL 0 ds) rows):=aay rfl rfl
theorem qU(m s l):view rows (m+1) (.agg s l)=bif s.pure then some (.agg s l)else(dU (view rows m) l).map λl'=> .agg s l':=by
 simp only[view]
 cases s.pure with
 |true=>rfl
 |false=>cases dU (view rows m) l<;>rfl
theorem vw_ptr(m s r p):view rows (m+1) (.ptr s r p)=(live rows r).bind λrow=>(dC row.els p).bind λd=>bif s.pure then some (.cd d)else(view rows m d).map .cd:=by
 simp only[view]
 cases live rows r with
 |none=>rfl
 | some row =>
  simp only[abc]
  cases dC row.els p with
  |none=>rfl
  |some d=>
   simp only[abc]
   cases s.pure with
   |true=>rfl
   |false=>cases view rows m d<;>rfl
theorem Vl(m s r p o n e):view rows (m+1) (.sl s r p o n e)=(elems rows (.sl s r p o n e)).bind λl=>bif !(l.length==n)then none else bif s.pure then some (.cI s l e)else(dU (view rows m) l).map λl'=> .cI s l' e:=by
 simp only[view]
 cases elems rows (.sl s r p o n e)with
 |none=>rfl
 | some l =>
  simp only[abc]
  cases(l.length==n)with
  |false=>rfl
  |true=>
   cases s.pure with
   |true=>rfl
   |false=>cases dU (view rows m) l<;>rfl
end eqs
theorem gh{C:bf}{a:aC}{Q:fI->Env->Rows->Prop}{env:Env}{rows:Rows}(n:Nat)(h:ku (aw C a) Q n env rows):LG C a Q env rows:=⟨n,h⟩
def kLp(C:bf)(a:aC)(Q:fI->Env->Rows->Prop)(n:Nat):fI->Env->Rows->Prop:=λe env rows=>match e with
 | .normal=>ku (aw C a) Q n env rows
 |e=>Q e env rows
theorem lp_s(C:bf)(a:aC)(Q:fI->Env->Rows->Prop)(n:Nat)(env:Env)(rows:Rows):ku (aw C a) Q (n+1) env rows=aw C a (kLp C a Q n) env rows:=aay rfl rfl
theorem lp_n(C:bf)(a:aC)(Q:fI->Env->Rows->Prop)(n:Nat)(env:Env)(rows:Rows):kLp C a Q n .normal env rows=ku (aw C a) Q n env rows:=aay rfl rfl
theorem lp_r(C:bf)(a:aC)(Q:fI->Env->Rows->Prop)(n:Nat)(env:Env)(rows:Rows):kLp C a Q n .ret env rows=Q .ret env rows:=aay rfl rfl
theorem lp_e(C:bf)(a:aC)(Q:fI->Env->Rows->Prop)(n i:Nat)(env:Env)(rows:Rows):kLp C a Q n (.exit i) env rows=Q (.exit i) env rows:=aay rfl rfl
theorem asI_it(n:Int):Zp (.raw (it n))=some n:=aay rfl rfl
theorem asI_u8(x:BitVec 8):Zp (.raw (u8 x))=some (x.toNat:Int):=aay rfl rfl
theorem isSc_u8(x:BitVec 8):oD (u8 x) (.int .u8)=true:=aay rfl rfl
theorem asI_u32(x:BitVec 32):Zp (.raw (u32 x))=some (x.toNat:Int):=aay rfl rfl
theorem isSc_u32(x:BitVec 32):oD (u32 x) (.int .u32)=true:=aay rfl rfl
theorem asI_u64(x:BitVec 64):Zp (.raw (u64 x))=some (x.toNat:Int):=aay rfl rfl
theorem isSc_u64(x:BitVec 64):oD (u64 x) (.int .u64)=true:=aay rfl rfl
theorem isSc_it(n:Int):oD (it n) (.int .i64)=true:=aay rfl rfl
theorem isSc_b(b:Bool):oD (.bool b) .bool=true:=aay rfl rfl
theorem isSc_s(b:ByteArray):oD (.string b) .str=true:=aay rfl rfl
theorem fits_raw(v:Value)(k:Sc):D.fits (.raw v) (.leaf k)=oD v k:=aay rfl rfl
theorem fits_agg(s:Sh)(l:List D)(t:Sh):D.fits (.agg s l) t=(s==t):=by cases t<;>rfl
theorem sh_beq(s:Sh):(s==s)=true:=by simp
theorem fits_lst(s l e):D.fits (.cI s l e) .ref=true:=aay rfl rfl
theorem fits_sl(s r p o n e):D.fits (.sl s r p o n e) .ref=true:=aay rfl rfl
theorem fits_ptr(s r p):D.fits (.ptr s r p) .ref=true:=aay rfl rfl
theorem fits_mp(r):D.fits (.mp r) .ref=true:=aay rfl rfl
theorem fits_om(s l):D.fits (.om s l) .ref=true:=aay rfl rfl
theorem Xv:D.fits (.raw (.slice none 0 0)) .ref=true:=aay rfl rfl
theorem cv_8_32(x:BitVec 8):GW .u32 (.raw (u8 x))=some (u32 (x.setWidth 32)):=by simp only[GW,u8,u32,IntKind.wrap,IntKind.signed,IntKind.bits];have:=x.isLt;simp;try omega
theorem cv_8_64(x:BitVec 8):GW .u64 (.raw (u8 x))=some (u64 (x.setWidth 64)):=by simp only[GW,u8,u64,IntKind.wrap,IntKind.signed,IntKind.bits];have:=x.isLt;simp;try omega
theorem cv_8_it(x:BitVec 8):GW .i64 (.raw (u8 x))=some (it x.toNat):=by simp only[GW,u8,it,IntKind.wrap,IntKind.signed,IntKind.bits];have:=x.isLt;simp;try omega
theorem cv_it_8(n:Int):GW .u8 (.raw (it n))=some (u8 (BitVec.ofInt 8 n)):=by simp only[GW,u8,it,IntKind.wrap,IntKind.signed,IntKind.bits];simp[acF];try omega
theorem cv_32_8(x:BitVec 32):GW .u8 (.raw (u32 x))=some (u8 (x.setWidth 8)):=by simp only[GW,u32,u8,IntKind.wrap,IntKind.signed,IntKind.bits];have:=x.isLt;simp
theorem cv_32_64(x:BitVec 32):GW .u64 (.raw (u32 x))=some (u64 (x.setWidth 64)):=by simp only[GW,u32,u64,IntKind.wrap,IntKind.signed,IntKind.bits];have:=x.isLt;simp;try omega
theorem cv_32_it(x:BitVec 32):GW .i64 (.raw (u32 x))=some (it x.toNat):=by simp only[GW,u32,it,IntKind.wrap,IntKind.signed,IntKind.bits];have:=x.isLt;simp;try omega
theorem cv_it_32(n:Int):GW .u32 (.raw (it n))=some (u32 (BitVec.ofInt 32 n)):=by simp only[GW,u32,it,IntKind.wrap,IntKind.signed,IntKind.bits];simp[acF];try omega
theorem cv_64_8(x:BitVec 64):GW .u8 (.raw (u64 x))=some (u8 (x.setWidth 8)):=by simp only[GW,u64,u8,IntKind.wrap,IntKind.signed,IntKind.bits];have:=x.isLt;simp
theorem cv_64_32(x:BitVec 64):GW .u32 (.raw (u64 x))=some (u32 (x.setWidth 32)):=by simp only[GW,u64,u32,IntKind.wrap,IntKind.signed,IntKind.bits];have:=x.isLt;simp
theorem cv_64_it(x:BitVec 64):GW .i64 (.raw (u64 x))=some (it (wz x.toNat)):=aay rfl rfl
theorem cv_it_64(n:Int):GW .u64 (.raw (it n))=some (u64 (BitVec.ofInt 64 n)):=by simp only[GW,u64,it,IntKind.wrap,IntKind.signed,IntKind.bits];simp[acF];try omega
theorem bc{p q:Prop}[Decidable p][Decidable q]{i:IntKind}{k:D->Prop}(h:p↔q):(i=i/\k (.raw (.bool (decide p))))=k (.raw (.bool (decide q))):=by rw[aef,aa2,aeu.2 h]
theorem bcn{p q:Prop}[Decidable p][Decidable q]{i:IntKind}{k:D->Prop}(h:p↔q):(i=i/\k (.raw (.bool (!decide p))))=k (.raw (.bool (!decide q))):=by rw[aef,aa2,aeu.2 h]
theorem nz{w:Nat}(y:BitVec w):((y.toNat:Int)≠0)=(y≠0):=propext ⟨λh h2=>h (by rw[h2];rfl),λh h2=>h (aaG (by simp;omega))⟩
theorem eqn{w:Nat}{x y:BitVec w}:(x.toNat:Int)=y.toNat↔x=y:=⟨λh=>aaG (by omega),λh=>by rw[h]⟩
theorem ze_n(k:Nat):pL k []=[]:=aay rfl rfl
theorem ze_c(k:Nat)(d:D)(ds:List D):pL k (d::ds)=(k,d)::pL (k+1) ds:=aay rfl rfl
section bins
variable (k:D->Prop)
theorem wr8(n:Int):IntKind.u8.wrap n=n %256:=by
 unfold IntKind.wrap
 rw[aaA (by simp[IntKind.signed])]
 rfl
theorem lt8(x:BitVec 8):(x.toNat:Int)<256:=by have:=x.isLt;omega
theorem of8(x:BitVec 8):BitVec.ofInt IntKind.u8.bits (x.toNat:Int)=x:=by rw[aa4];exact(adI (m:=8) (x:=x)).trans (adJ _)
theorem id8(x:BitVec 8):((x.toNat:Int)) %256=x.toNat:=adp (by omega) (lt8 x)
theorem ba8{n:Int}{z:BitVec 8}{k:D->Prop}(h:n %256=(z.toNat:Int)):(IntKind.u8=IntKind.u8/\k (.raw (.int .u8 (IntKind.u8.wrap n))))=k (.raw (u8 z)):=by rw[aef,aa2,wr8,h];rfl
theorem b_sub8(x y:BitVec 8):cF .sub (u8 x) (u8 y) k=k (.raw (u8 (x-y))):=ba8 (by have h1:=x.isLt;have h2:=y.isLt;rw[ada];omega)
theorem b_and8(x y:BitVec 8):cF .and (u8 x) (u8 y) k=k (.raw (u8 (x&&&y))):=ba8 (by rw[of8,of8];exact id8 _)
theorem b_or8(x y:BitVec 8):cF .or (u8 x) (u8 y) k=k (.raw (u8 (x|||y))):=ba8 (by rw[of8,of8];exact id8 _)
theorem b_xor8(x y:BitVec 8):cF .xor (u8 x) (u8 y) k=k (.raw (u8 (x^^^y))):=ba8 (by rw[of8,of8];exact id8 _)
theorem Xw(x y:BitVec 8):cF .andNot (u8 x) (u8 y) k=k (.raw (u8 (x&&&~~~y))):=ba8 (by rw[of8,of8];exact id8 _)
theorem b_rem8(x y:BitVec 8):cF .rem (u8 x) (u8 y) k=(y≠0/\k (.raw (u8 (x %y)))):=by
 have h0:=nz y
 have h:((x.toNat:Int).tmod y.toNat)=((x %y).toNat:Int):=by
  rw[abJ,abK (by omega),<-acG]
 show(IntKind.u8=IntKind.u8/\(y.toNat:Int)≠0/\k (.raw (.int .u8 _)))=_
 rw[aef,aa2,h,h0]
 rfl
theorem b_eql8(x y:BitVec 8):cF .eql (u8 x) (u8 y) k=k (.raw (.bool (decide (x=y)))):=bc eqn
theorem b_neq8(x y:BitVec 8):cF .neq (u8 x) (u8 y) k=k (.raw (.bool (!decide (x=y)))):=bcn eqn
theorem Xx(x:BitVec 8)(c:Nat):((x.toNat:Int)*2^(min c 8)) %256=((x<<<c).toNat:Int):=by
 rw[acj,acw]
 rcases adQ c 8 with h|h
 ·rw[abV h,acG,adk,aeC];rfl
 ·rw[adb h]
  have h1:2^c=2^(c-8)*2^8:=by rw[<-aeE];congr 1;omega
  rw[h1,<-aeH,aev]
  exact aem _ _
theorem Xy(x:BitVec 8)(c:Nat):(x.toNat:Int).fdiv (2^(min c 8))=((x>>>c).toNat:Int):=by
 rw[abH,abb]
 have hp:((2:Int)^(min c 8))=((2^(min c 8):Nat):Int):=by norm_cast
 rw[hp,ace _ (abj _),<-adt]
 congr 1
 rcases adQ c 8 with h|h
 ·rw[abV h]
 ·rw[adb h]
  have h0:=x.isLt
  rw[acU h0,acU (abR h0 (abO (by omega) h))]
theorem Xz(x:BitVec 8)(n:Int):cF .shl (u8 x) (it n) k=(0<=n/\k (.raw (u8 (x<<<n.toNat)))):=by
 show(0<=n/\k (.raw (.int .u8 (IntKind.u8.wrap ((x.toNat:Int)*2^(min n.toNat 8))))))=_
 rw[wr8,Xx]
 rfl
theorem XA(x:BitVec 8)(n:Int):cF .shr (u8 x) (it n) k=(0<=n/\k (.raw (u8 (x>>>n.toNat)))):=by
 show(0<=n/\k (.raw (.int .u8 ((x.toNat:Int).fdiv (2^(min n.toNat 8))))))=_
 rw[Xy]
 rfl
theorem wr32(n:Int):IntKind.u32.wrap n=n %4294967296:=by
 unfold IntKind.wrap
 rw[aaA (by simp[IntKind.signed])]
 rfl
theorem lt32(x:BitVec 32):(x.toNat:Int)<4294967296:=by have:=x.isLt;omega
theorem No(x:BitVec 32):BitVec.ofInt IntKind.u32.bits (x.toNat:Int)=x:=by rw[aa4];exact(adI (m:=32) (x:=x)).trans (adJ _)
theorem id32(x:BitVec 32):((x.toNat:Int)) %4294967296=x.toNat:=adp (by omega) (lt32 x)
theorem SP{n:Int}{z:BitVec 32}{k:D->Prop}(h:n %4294967296=(z.toNat:Int)):(IntKind.u32=IntKind.u32/\k (.raw (.int .u32 (IntKind.u32.wrap n))))=k (.raw (u32 z)):=by rw[aef,aa2,wr32,h];rfl
theorem b_add32(x y:BitVec 32):cF .add (u32 x) (u32 y) k=k (.raw (u32 (x+y))):=SP (by rw[ab4];omega)
theorem b_sub32(x y:BitVec 32):cF .sub (u32 x) (u32 y) k=k (.raw (u32 (x-y))):=SP (by have h1:=x.isLt;have h2:=y.isLt;rw[ada];omega)
theorem b_mul32(x y:BitVec 32):cF .mul (u32 x) (u32 y) k=k (.raw (u32 (x*y))):=SP (by rw[adu,acG,adk];rfl)
theorem b_and32(x y:BitVec 32):cF .and (u32 x) (u32 y) k=k (.raw (u32 (x&&&y))):=SP (by rw[No,No];exact id32 _)
theorem b_or32(x y:BitVec 32):cF .or (u32 x) (u32 y) k=k (.raw (u32 (x|||y))):=SP (by rw[No,No];exact id32 _)
theorem b_xor32(x y:BitVec 32):cF .xor (u32 x) (u32 y) k=k (.raw (u32 (x^^^y))):=SP (by rw[No,No];exact id32 _)
theorem SQ(x y:BitVec 32):cF .andNot (u32 x) (u32 y) k=k (.raw (u32 (x&&&~~~y))):=SP (by rw[No,No];exact id32 _)
theorem b_rem32(x y:BitVec 32):cF .rem (u32 x) (u32 y) k=(y≠0/\k (.raw (u32 (x %y)))):=by
 have h0:=nz y
 have h:((x.toNat:Int).tmod y.toNat)=((x %y).toNat:Int):=by
  rw[abJ,abK (by omega),<-acG]
 show(IntKind.u32=IntKind.u32/\(y.toNat:Int)≠0/\k (.raw (.int .u32 _)))=_
 rw[aef,aa2,h,h0]
 rfl
theorem b_eql32(x y:BitVec 32):cF .eql (u32 x) (u32 y) k=k (.raw (.bool (decide (x=y)))):=bc eqn
theorem b_neq32(x y:BitVec 32):cF .neq (u32 x) (u32 y) k=k (.raw (.bool (!decide (x=y)))):=bcn eqn
theorem b_lss32(x y:BitVec 32):cF .lss (u32 x) (u32 y) k=k (.raw (.bool (decide (x<y)))):=bc (by rw[acz];omega)
theorem b_leq32(x y:BitVec 32):cF .leq (u32 x) (u32 y) k=k (.raw (.bool (decide (x<=y)))):=bc (by rw[abS];omega)
theorem b_gtr32(x y:BitVec 32):cF .gtr (u32 x) (u32 y) k=k (.raw (.bool (decide (y<x)))):=bc (by rw[acz];omega)
theorem b_geq32(x y:BitVec 32):cF .geq (u32 x) (u32 y) k=k (.raw (.bool (decide (y<=x)))):=bc (by rw[abS];omega)
theorem Ig(x:BitVec 32)(c:Nat):((x.toNat:Int)*2^(min c 32)) %4294967296=((x<<<c).toNat:Int):=by
 rw[acj,acw]
 rcases adQ c 32 with h|h
 ·rw[abV h,acG,adk,aeC];rfl
 ·rw[adb h]
  have h1:2^c=2^(c-32)*2^32:=by rw[<-aeE];congr 1;omega
  rw[h1,<-aeH,aev]
  exact aem _ _
theorem Ih(x:BitVec 32)(c:Nat):(x.toNat:Int).fdiv (2^(min c 32))=((x>>>c).toNat:Int):=by
 rw[abH,abb]
 have hp:((2:Int)^(min c 32))=((2^(min c 32):Nat):Int):=by norm_cast
 rw[hp,ace _ (abj _),<-adt]
 congr 1
 rcases adQ c 32 with h|h
 ·rw[abV h]
 ·rw[adb h]
  have h0:=x.isLt
  rw[acU h0,acU (abR h0 (abO (by omega) h))]
theorem SR(x:BitVec 32)(n:Int):cF .shl (u32 x) (it n) k=(0<=n/\k (.raw (u32 (x<<<n.toNat)))):=by
 show(0<=n/\k (.raw (.int .u32 (IntKind.u32.wrap ((x.toNat:Int)*2^(min n.toNat 32))))))=_
 rw[wr32,Ig]
 rfl
theorem SS(x:BitVec 32)(n:Int):cF .shr (u32 x) (it n) k=(0<=n/\k (.raw (u32 (x>>>n.toNat)))):=by
 show(0<=n/\k (.raw (.int .u32 ((x.toNat:Int).fdiv (2^(min n.toNat 32))))))=_
 rw[Ih]
 rfl
theorem SU(x:BitVec 32)(n:BitVec 64):cF .shl (u32 x) (u64 n) k=k (.raw (u32 (x<<<n.toNat))):=by
 show(0<=(n.toNat:Int)/\k (.raw (.int .u32 (IntKind.u32.wrap ((x.toNat:Int)*2^(min (n.toNat:Int).toNat 32))))))=_
 rw[wr32,aaB,Ig,aas (by omega:0<=(n.toNat:Int)),aa2]
 rfl
theorem SV(x:BitVec 32)(n:BitVec 64):cF .shr (u32 x) (u64 n) k=k (.raw (u32 (x>>>n.toNat))):=by
 show(0<=(n.toNat:Int)/\k (.raw (.int .u32 ((x.toNat:Int).fdiv (2^(min (n.toNat:Int).toNat 32))))))=_
 rw[aaB,Ih,aas (by omega:0<=(n.toNat:Int)),aa2]
 rfl
theorem u_not32(x:BitVec 32):aUn .xor (u32 x) k=k (.raw (u32 (~~~x))):=by
 show k (.raw (.int .u32 (IntKind.u32.wrap (BitVec.ofInt IntKind.u32.bits (if IntKind.u32.signed then-1 else IntKind.u32.max)^^^BitVec.ofInt IntKind.u32.bits (x.toNat:Int)).toNat)))=_
 have h:BitVec.ofInt IntKind.u32.bits (if IntKind.u32.signed then-1 else IntKind.u32.max)=BitVec.allOnes 32:=by kernel_rfl
 rw[h,No,wr32]
 have h2:(BitVec.allOnes 32^^^x)= ~~~x:=BitVec.allOnes_xor
 show k (.raw (.int .u32 (((BitVec.allOnes 32^^^x).toNat:Int) %4294967296)))=_
 rw[h2,id32]
 rfl
theorem wr64(n:Int):IntKind.u64.wrap n=n %18446744073709551616:=by
 unfold IntKind.wrap
 rw[aaA (by simp[IntKind.signed])]
 rfl
theorem lt64(x:BitVec 64):(x.toNat:Int)<18446744073709551616:=by have:=x.isLt;omega
theorem of64(x:BitVec 64):BitVec.ofInt IntKind.u64.bits (x.toNat:Int)=x:=by rw[aa4];exact(adI (m:=64) (x:=x)).trans (adJ _)
theorem id64(x:BitVec 64):((x.toNat:Int)) %18446744073709551616=x.toNat:=adp (by omega) (lt64 x)
theorem ba64{n:Int}{z:BitVec 64}{k:D->Prop}(h:n %18446744073709551616=(z.toNat:Int)):(IntKind.u64=IntKind.u64/\k (.raw (.int .u64 (IntKind.u64.wrap n))))=k (.raw (u64 z)):=by rw[aef,aa2,wr64,h];rfl
theorem b_add64(x y:BitVec 64):cF .add (u64 x) (u64 y) k=k (.raw (u64 (x+y))):=ba64 (by rw[ab4];omega)
theorem b_sub64(x y:BitVec 64):cF .sub (u64 x) (u64 y) k=k (.raw (u64 (x-y))):=ba64 (by have h1:=x.isLt;have h2:=y.isLt;rw[ada];omega)
theorem b_mul64(x y:BitVec 64):cF .mul (u64 x) (u64 y) k=k (.raw (u64 (x*y))):=ba64 (by rw[adu,acG,adk];rfl)
theorem b_and64(x y:BitVec 64):cF .and (u64 x) (u64 y) k=k (.raw (u64 (x&&&y))):=ba64 (by rw[of64,of64];exact id64 _)
theorem b_quo64(x y:BitVec 64):cF .quo (u64 x) (u64 y) k=(y≠0/\k (.raw (u64 (x/y)))):=by
 have h0:=nz y
 have h:((x.toNat:Int).tdiv y.toNat) %18446744073709551616=((x/y).toNat:Int):=by
  rw[adR,acf (by omega),<-adt,<-adR]
  exact id64 _
 show(IntKind.u64=IntKind.u64/\(y.toNat:Int)≠0/\k (.raw (.int .u64 _)))=_
 rw[aef,aa2,wr64,h,h0]
 rfl
theorem b_rem64(x y:BitVec 64):cF .rem (u64 x) (u64 y) k=(y≠0/\k (.raw (u64 (x %y)))):=by
 have h0:=nz y
 have h:((x.toNat:Int).tmod y.toNat)=((x %y).toNat:Int):=by
  rw[abJ,abK (by omega),<-acG]
 show(IntKind.u64=IntKind.u64/\(y.toNat:Int)≠0/\k (.raw (.int .u64 _)))=_
 rw[aef,aa2,h,h0]
 rfl
theorem b_gtr64(x y:BitVec 64):cF .gtr (u64 x) (u64 y) k=k (.raw (.bool (decide (y<x)))):=bc (by rw[acz];omega)
theorem b_geq64(x y:BitVec 64):cF .geq (u64 x) (u64 y) k=k (.raw (.bool (decide (y<=x)))):=bc (by rw[abS];omega)
theorem SW(x:BitVec 64)(c:Nat):((x.toNat:Int)*2^(min c 64)) %18446744073709551616=((x<<<c).toNat:Int):=by
 rw[acj,acw]
 rcases adQ c 64 with h|h
 ·rw[abV h,acG,adk,aeC];rfl
 ·rw[adb h]
  have h1:2^c=2^(c-64)*2^64:=by rw[<-aeE];congr 1;omega
  rw[h1,<-aeH,aev]
  exact aem _ _
theorem Ii(x:BitVec 64)(c:Nat):(x.toNat:Int).fdiv (2^(min c 64))=((x>>>c).toNat:Int):=by
 rw[abH,abb]
 have hp:((2:Int)^(min c 64))=((2^(min c 64):Nat):Int):=by norm_cast
 rw[hp,ace _ (abj _),<-adt]
 congr 1
 rcases adQ c 64 with h|h
 ·rw[abV h]
 ·rw[adb h]
  have h0:=x.isLt
  rw[acU h0,acU (abR h0 (abO (by omega) h))]
theorem SX(x:BitVec 64)(n:Int):cF .shr (u64 x) (it n) k=(0<=n/\k (.raw (u64 (x>>>n.toNat)))):=by
 show(0<=n/\k (.raw (.int .u64 ((x.toNat:Int).fdiv (2^(min n.toNat 64))))))=_
 rw[Ii]
 rfl
theorem SY(x:BitVec 64)(n:BitVec 64):cF .shl (u64 x) (u64 n) k=k (.raw (u64 (x<<<n.toNat))):=by
 show(0<=(n.toNat:Int)/\k (.raw (.int .u64 (IntKind.u64.wrap ((x.toNat:Int)*2^(min (n.toNat:Int).toNat 64))))))=_
 rw[wr64,aaB,SW,aas (by omega:0<=(n.toNat:Int)),aa2]
 rfl
theorem SZ(x:BitVec 64)(n:BitVec 64):cF .shr (u64 x) (u64 n) k=k (.raw (u64 (x>>>n.toNat))):=by
 show(0<=(n.toNat:Int)/\k (.raw (.int .u64 ((x.toNat:Int).fdiv (2^(min (n.toNat:Int).toNat 64))))))=_
 rw[aaB,Ii,aas (by omega:0<=(n.toNat:Int)),aa2]
 rfl
theorem b_addi(a b:Int):cF .add (it a) (it b) k=k (.raw (it (wz (a+b)))):=by simp only[cF,it,aa2];rfl
theorem b_subi(a b:Int):cF .sub (it a) (it b) k=k (.raw (it (wz (a-b)))):=by simp only[cF,it,aa2];rfl
theorem b_muli(a b:Int):cF .mul (it a) (it b) k=k (.raw (it (wz (a*b)))):=by simp only[cF,it,aa2];rfl
theorem b_quoi(a b:Int):cF .quo (it a) (it b) k=(b≠0/\k (.raw (it (wz (a.tdiv b))))):=by simp only[cF,it,aa2];rfl
theorem b_remi(a b:Int):cF .rem (it a) (it b) k=(b≠0/\k (.raw (it (a.tmod b)))):=by simp only[cF,it,aa2]
theorem b_eqli(a b:Int):cF .eql (it a) (it b) k=k (.raw (.bool (decide (a=b)))):=by simp only[cF,it,aa2]
theorem b_lssi(a b:Int):cF .lss (it a) (it b) k=k (.raw (.bool (decide (a<b)))):=by simp only[cF,it,aa2]
theorem b_leqi(a b:Int):cF .leq (it a) (it b) k=k (.raw (.bool (decide (a<=b)))):=by simp only[cF,it,aa2]
theorem b_gtri(a b:Int):cF .gtr (it a) (it b) k=k (.raw (.bool (decide (b<a)))):=by simp only[cF,it,aa2]
theorem b_geqi(a b:Int):cF .geq (it a) (it b) k=k (.raw (.bool (decide (b<=a)))):=by simp only[cF,it,aa2]
theorem b_neqi(a b:Int):cF .neq (it a) (it b) k=k (.raw (.bool (!decide (a=b)))):=by simp only[cF,it,aa2]
theorem b_eqls(a b:ByteArray):cF .eql (.string a) (.string b) k=k (.raw (.bool (a.toList==b.toList))):=aay rfl rfl
theorem b_neqs(a b:ByteArray):cF .neq (.string a) (.string b) k=k (.raw (.bool (!(a.toList==b.toList)))):=aay rfl rfl
theorem u_notb(b:Bool):aUn .not (.bool b) k=k (.raw (.bool !b)):=aay rfl rfl
end bins
end Go.Am
namespace Go.Am
def XB(R:Env->Rows->Prop)(Q:fI->Env->Rows->Prop):fI->Env->Rows->Prop:=λe env rows=>match e with
 | .normal=>R env rows
 |e=>Q e env rows
theorem q_rn(R Q env rows):XB R Q .normal env rows=R env rows:=aay rfl rfl
theorem q_rr(R Q env rows):XB R Q .ret env rows=Q .ret env rows:=aay rfl rfl
theorem q_re(R Q i env rows):XB R Q (.exit i) env rows=Q (.exit i) env rows:=aay rfl rfl
theorem oI{C:bf}{a:aC}{Q:fI->Env->Rows->Prop}(I:Nat->Env->Rows->Prop)
  (h:∀k env rows,I k env rows->∀R:Env->Rows->Prop,(∀k' env' aa,k'<k->I k' env' aa->R env' aa)->aw C a (XB R Q) env rows)(k:Nat){env:Env}{rows:Rows}(h0:I k env rows):LG C a Q env rows:=by
 have key:∀n k env rows,k<n->I k env rows->ku (aw C a) Q n env rows:=by
  intro n
  induction n with
  |zero=>intro k env rows hk;omega
  |succ n ih=>
   intro k env rows hk hi
   exact h k env rows hi (ku (aw C a) Q n) (λk' env' aa Lm hi'=>ih k' env' aa (by omega) hi')
 exact⟨k+1,key (k+1) k env rows (by omega) h0⟩
def has(env:Env):Env->Prop
 |[]=>True
 |(t,d)::l=>look env t=some d/\has env l
def iT(s:Sh)(d:D)(rows:Rows)(els:List D):Prop:=
 (els=[]/\d= .raw (.slice none 0 0))\/∃r ex,d= .sl s r [] 0 els.length ex/\live rows r=some ⟨s,els⟩
theorem iT.nil{s:Sh}{rows:Rows}:iT s (.raw (.slice none 0 0)) rows []:= .inl ⟨rfl,rfl⟩
theorem iT.elems{s:Sh}{d:D}{rows:Rows}{els:List D}(h:iT s d rows els):elems rows d=some els:=by
 rcases h with⟨rfl,rfl⟩|⟨r,ex,rfl,hl⟩
 ·rfl
 ·simp only[Am.elems,hl];simp
theorem iT.dQ{s:Sh}{d:D}{rows:Rows}{els:List D}(h:iT s d rows els):dQ d=some els.length:=by
 rcases h with⟨rfl,rfl⟩|⟨r,ex,rfl,hl⟩
 ·rfl
 ·rfl
theorem iT.fa{s:Sh}{d:D}{rows:Rows}{els:List D}(h:iT s d rows els):fa s d=true:=by
 rcases h with⟨rfl,rfl⟩|⟨r,ex,rfl,hl⟩
 ·rfl
 ·simp[Am.fa]
theorem pb{rows:Rows}{x:Row}:live (rows++[some x]) rows.length=some x:=by simp[live]
theorem a7{rows more:Rows}{r:Nat}{x:Row}(h:live rows r=some x):live (rows++more) r=some x:=by
 have:=bb h
 unfold live at h⊢
 rw[aaN this];exact h
theorem iq{s:Sh}{d:D}{rows:Rows}{els news:List D}{bytes:Nat}{k:D->Rows->Prop}(h:iT s d rows els)(hb:(els.length+news.length)*bytes<=most)(Ln:els.length+news.length<=most)
  (hk:∀d' aa,iT s d' aa (els++news)->(∀r x,live rows r=some x->(∀ex,d≠ .sl s r [] 0 els.length ex)->live aa r=some x)->aa.length=rows.length+1->(∃r ex,d'= .sl s r [] 0 (els++news).length ex)->k d' aa):wW rows s bytes d news k:=by
 unfold wW
 rw[h.elems,h.dQ]
 refine⟨h.fa,rfl,hb,Ln,?_⟩
 have e:els.length+news.length=(els++news).length:=by simp
 rcases h with⟨rfl,rfl⟩|⟨r,ex,rfl,hl⟩
 ·simp only[isNil,adS,aaU,kill,e]
  refine hk _ _ (.inr ⟨rows.length,false,rfl,pb⟩) (λr x hx _=>a7 hx) (by simp) ⟨_,_,rfl⟩
 ·simp only[isNil,owned,acy,aaU,kill,e]
  have h1:(rows.set r none).length=rows.length:=by simp
  refine hk _ _ (.inr ⟨rows.length,false,rfl,by rw[<-h1];exact pb⟩) (λr' x hx hne=>?_) (by simp) ⟨_,_,rfl⟩
  have hr:r≠r':=λe=>hne ex (by rw[e])
  refine a7 ?_
  unfold live at hx⊢
  rw[abP hr];exact hx
def bs(l:List (BitVec 8)):List D:=l.map λb=> .raw (u8 b)
def rd8:D->Option (BitVec 8)
 | .raw (.int .u8 n)=>bif decide (0<=n)&&decide (n<256)then some (BitVec.ofInt 8 n)else none
 | _=>none
def qs:D->Option (BitVec 32)
 | .raw (.int .u32 n)=>bif decide (0<=n)&&decide (n<4294967296)then some (BitVec.ofInt 32 n)else none
 | _=>none
def PL:D->Option (BitVec 64)
 | .raw (.int .u64 n)=>bif decide (0<=n)&&decide (n<18446744073709551616)then some (BitVec.ofInt 64 n)else none
 | _=>none
def tH:D->Option Int
 | .raw (.int .i64 n)=>some n
 | _=>none
theorem Np(x:BitVec 8):rd8 (.raw (u8 x))=some x:=by
 have:=lt8 x
 simp only[rd8,u8]
 rw[show(decide (0<=(x.toNat:Int))&&decide ((x.toNat:Int)<256))=true by simp;omega]
 simp
theorem eO(x:BitVec 32):qs (.raw (u32 x))=some x:=by
 have:=lt32 x
 simp only[qs,u32]
 rw[show(decide (0<=(x.toNat:Int))&&decide ((x.toNat:Int)<4294967296))=true by simp;omega]
 simp
theorem yN(x:BitVec 64):PL (.raw (u64 x))=some x:=by
 have:=lt64 x
 simp only[PL,u64]
 rw[show(decide (0<=(x.toNat:Int))&&decide ((x.toNat:Int)<18446744073709551616))=true by simp;omega]
 simp
theorem lc(n:Int):tH (.raw (it n))=some n:=rfl
theorem Ij{d:D}{x:BitVec 8}(h:rd8 d=some x):d= .raw (u8 x):=by
 unfold rd8 at h
 split at h
 ·rename_i n
  cases hb:(decide (0<=n)&&decide (n<256))with
  |false=>rw[hb]at h;cases h
  |true=>
   rw[hb]at h
   simp only[aaU,abY]at h
   simp only[aan,aat]at hb
   subst h
   unfold u8
   rw[acF]
   congr 2
   simp;omega
 ·cases h
theorem dH{d:D}{x:BitVec 32}(h:qs d=some x):d= .raw (u32 x):=by
 unfold qs at h
 split at h
 ·rename_i n
  cases hb:(decide (0<=n)&&decide (n<4294967296))with
  |false=>rw[hb]at h;cases h
  |true=>
   rw[hb]at h
   simp only[aaU,abY]at h
   simp only[aan,aat]at hb
   subst h
   unfold u32
   rw[acF]
   congr 2
   simp;omega
 ·cases h
theorem qA{d:D}{x:BitVec 64}(h:PL d=some x):d= .raw (u64 x):=by
 unfold PL at h
 split at h
 ·rename_i n
  cases hb:(decide (0<=n)&&decide (n<18446744073709551616))with
  |false=>rw[hb]at h;cases h
  |true=>
   rw[hb]at h
   simp only[aaU,abY]at h
   simp only[aan,aat]at hb
   subst h
   unfold u64
   rw[acF]
   congr 2
   simp;omega
 ·cases h
theorem bK{d:D}{x:Int}(h:tH d=some x):d= .raw (it x):=by
 unfold tH at h
 split at h
 ·cases h;rfl
 ·cases h
def dB:D->Option (List (BitVec 8))
 | .raw (.slice none 0 0)=>some []
 | .cI s l _=>bif s== .leaf tU then dU rd8 l else none
 | _=>none
theorem mapO_bs(l:List (BitVec 8)):dU rd8 (bs l)=some l:=by
 induction l with
 |nil=>rfl
 |cons x l ih=>
  simp only[bs,abq,dU,Np]
  have:dU rd8 (List.map (λb=>D.raw (u8 b)) l)=some l:=ih
  rw[this]
theorem PM:∀{l:List D} {l':List (BitVec 8)},dU rd8 l=some l'->l=bs l'
 |[],l',h=>by simp[dU]at h;subst h;rfl
 | x :: l, l', h => by
  simp only[dU]at h
  split at h
  ·rename_i y hy
   split at h
   ·rename_i ys hys
    cases h
    rw[Ij hy,PM hys]
    rfl
   ·cases h
  ·cases h
theorem qV(l:List (BitVec 8))(e:Bool):dB (.cI (.leaf tU) (bs l) e)=some l:=by
 simp only[dB]
 rw[show((Sh.leaf tU)== .leaf tU)=true by simp,aaU,mapO_bs]
def ez(d:D)(l:List (BitVec 8)):Prop:=(d= .raw (.slice none 0 0)/\l=[])\/∃e,d= .cI (.leaf tU) (bs l) e
theorem dR{d:D}{l:List (BitVec 8)}(h:dB d=some l):ez d l:=by
 unfold dB at h
 split at h
 ·cases h;exact .inl ⟨rfl,rfl⟩
 ·rename_i s l0 e
  cases hb:(s== .leaf tU)with
  |false=>rw[hb]at h;cases h
  |true=>
   rw[hb]at h
   have:s= .leaf tU:=by simpa using hb
   subst this
   exact .inr ⟨e,by rw[PM h]⟩
 ·cases h
theorem ez.elems{d:D}{l:List (BitVec 8)}{rows:Rows}(h:ez d l):elems rows d=some (bs l):=by
 rcases h with⟨rfl,rfl⟩|⟨e,rfl⟩<;>rfl
theorem ez.dQ{d:D}{l:List (BitVec 8)}(h:ez d l):dQ d=some l.length:=by
 rcases h with⟨rfl,rfl⟩|⟨e,rfl⟩
 ·rfl
 ·simp[Am.dQ,bs]
theorem ez.fa{d:D}{l:List (BitVec 8)}(h:ez d l):fa (.leaf tU) d=true:=by
 rcases h with⟨rfl,rfl⟩|⟨e,rfl⟩
 ·rfl
 ·simp[Am.fa]
theorem ez.rd{d:D}{l:List (BitVec 8)}(h:ez d l):dB d=some l:=by
 rcases h with⟨rfl,rfl⟩|⟨e,rfl⟩
 ·rfl
 ·exact qV l e
theorem fX{d:D}{l:List (BitVec 8)}{n:Int}{rows:Rows}{k:D->Rows->Prop}(h:ez d l)(hn:0<=n/\n<l.length):oH (.leaf (.int .u8)) n rows k d=k (.cd (.raw (u8 (l.getD n.toNat 0#8)))) rows:=by
 rcases h with⟨rfl,rfl⟩|⟨e,rfl⟩
 ·simp at hn;omega
 ·have h1:n.toNat<l.length:=by omega
  have h2:(bs l)[n.toNat]?=some (.raw (u8 (l.getD n.toNat 0#8))):=by simp[bs,h1]
  simp only[oH,h2,bn]
  simp[bs,hn]
theorem aB(l:List (BitVec 8)):(bs l).length=l.length:=by simp[bs]
theorem j3(a b:List (BitVec 8)):bs a++bs b=bs (a++b):=by simp[bs]
theorem j4{l:List (BitVec 8)}{i:Nat}(h:i<l.length):(bs l)[i]?=some (.raw (u8 (l.getD i 0#8))):=by
 simp[bs,h]
theorem GX(l:List (BitVec 8))(x:BitVec 8):bs (l++[x])=bs l++[.raw (u8 x)]:=by simp[bs]
theorem lg{α:Type}{a:List α}{i:Nat}{z:α}(h:i<a.length):a.take (i+1)=a.take i++[a.getD i z]:=by
 rw[aaR h];simp[h]
theorem eP(l:List (BitVec 8))(n:Nat):(bs l).drop n=bs (l.drop n):=by simp[bs]
theorem dO(l:List (BitVec 8))(n:Nat):(bs l).take n=bs (l.take n):=by simp[bs]
theorem iT.view{d:D}{rows:Rows}{l:List (BitVec 8)}(h:iT (.leaf tU) d rows (bs l)):∃d',view rows 9 d=some d'/\ez d' l:=by
 rcases h with⟨h1,rfl⟩|⟨r,ex,rfl,hl⟩
 ·have:l=[]:=by cases l<;>simp_all[bs]
  subst this
  exact⟨_,rfl,.inl ⟨rfl,rfl⟩⟩
 ·refine⟨.cI (.leaf tU) (bs l) ex,?_,.inr ⟨ex,rfl⟩⟩
  simp only[Am.view]
  have:Am.elems rows (.sl (.leaf tU) r [] 0 (bs l).length ex)=some (bs l):=by simp only[Am.elems,hl];simp
  rw[this]
  simp[Sh.pure]
theorem aG{P:Program}{G:Nat->Option D}{f:FuncId}{A:lI}{F:Fn}(hA:aN G P f A)
  (h:∀ds rows r,F ds rows=some r->rows=[]/\A ds [] (λd rows=>wF rows d r.1 r.2)):aN G P f (Fn.run F):=by
 intro ds rows K hr ρ w T args hrows mF y7 hargs hG
 unfold Fn.run at hr
 obtain⟨r,hr,hk⟩:=au hr
 obtain⟨rfl,h2⟩:=h ds rows r hr
 have hdom':∀r,ρ r=none:=λr=>mF r (by simp)
 exact(hA _ [] _ h2 ρ w T args hrows mF y7 hargs hG).mono λe w' hb=>Ef.Nl hdom' hb λd rows hx=>⟨_,_,hx,hk⟩
def mV{α:Type}(rd:D->Option α)(pre:α->Bool)(out:α->D×Rows):Fn
 |[d],[]=>match rd d with
  |some x=>bif pre x then some (out x)else none
  |none=>none
 | _,_=>none
def tW{α β:Type}(rd:D->Option α)(rd':D->Option β)(pre:α->β->Bool)(out:α->β->D×Rows):Fn
 |[d,e],[]=>match rd d,rd' e with
  |some x,some y=>bif pre x y then some (out x y)else none
  | _,_=>none
 | _,_=>none
theorem a8{α:Type}{rd:D->Option α}{pre:α->Bool}{out:α->D×Rows}{ds:List D}{rows:Rows}{r:D×Rows}(h:mV rd pre out ds rows=some r):
  ∃d x,ds=[d]/\rows=[]/\rd d=some x/\pre x=true/\r=out x:=by
 unfold mV at h
 split at h
 ·rename_i d
  split at h
  ·rename_i x hx
   cases hp:pre x with
   |false=>rw[hp]at h;cases h
   |true=>rw[hp]at h;cases h;exact⟨d,x,rfl,rfl,hx,hp,rfl⟩
  ·cases h
 ·cases h
theorem cQ{α β:Type}{rd:D->Option α}{rd':D->Option β}{pre:α->β->Bool}{out:α->β->D×Rows}{ds:List D}{rows:Rows}{r:D×Rows}(h:tW rd rd' pre out ds rows=some r):
  ∃d e x y,ds=[d,e]/\rows=[]/\rd d=some x/\rd' e=some y/\pre x y=true/\r=out x y:=by
 unfold tW at h
 split at h
 ·rename_i d e
  split at h
  ·rename_i x y hx hy
   cases hp:pre x y with
   |false=>rw[hp]at h;cases h
   |true=>rw[hp]at h;cases h;exact⟨d,e,x,y,rfl,rfl,hx,hy,hp,rfl⟩
  ·cases h
 ·cases h
theorem eK{α:Type}{rd:D->Option α}{pre:α->Bool}{out:α->D×Rows}{d:D}{x:α}(h:rd d=some x)(hp:pre x=true):mV rd pre out [d] []=some (out x):=by
 simp[mV,h,hp]
theorem gR{α β:Type}{rd:D->Option α}{rd':D->Option β}{pre:α->β->Bool}{out:α->β->D×Rows}{d e:D}{x:α}{y:β}(h:rd d=some x)(h':rd' e=some y)(hp:pre x y=true):
  tW rd rd' pre out [d,e] []=some (out x y):=by
 simp[tW,h,h',hp]
def dF(l:List (BitVec 8))(ex:Bool):D×Rows:=(.sl (.leaf tU) 0 [] 0 l.length ex,[some ⟨.leaf tU,bs l⟩])
def aU(rows:Rows)(d:D)(l:List (BitVec 8)):Prop:=(∃d',view rows 9 d=some d'/\ez d' l)/\(aR d=false->ez d l)
theorem ez.to{rows:Rows}{d:D}{l:List (BitVec 8)}(h:ez d l):aU rows d l:=by
 refine⟨?_,λ_=>h⟩
 rcases h with⟨rfl,rfl⟩|⟨e,rfl⟩
 ·exact⟨_,rfl,.inl ⟨rfl,rfl⟩⟩
 ·exact⟨.cI (.leaf tU) (bs l) e,rfl,.inr ⟨e,rfl⟩⟩
theorem iT.to{rows:Rows}{d:D}{l:List (BitVec 8)}(h:iT (.leaf tU) d rows (bs l)):aU rows d l:=by
 refine⟨h.view,λhr=>?_⟩
 rcases h with⟨h1,rfl⟩|⟨r,ex,rfl,hl⟩
 ·have:l=[]:=by cases l<;>simp_all[bs]
  exact .inl ⟨rfl,this⟩
 ·simp[aR]at hr
noncomputable def bx{α:Type}(mk:α->D)(d:D):Option α:=open Classical in if h:∃x,d=mk x then some h.choose else none
theorem aE{α:Type}{mk:α->D}{d:D}{x:α}(h:bx mk d=some x):d=mk x:=by
 unfold bx at h
 split at h
 ·rename_i hh
  cases h
  exact hh.choose_spec
 ·cases h
theorem br{α:Type}{mk:α->D}(Nq:∀x y,mk x=mk y->x=y)(x:α):bx mk (mk x)=some x:=by
 have h:∃y,mk x=mk y:=⟨x,rfl⟩
 unfold bx
 rw[dif_pos h]
 exact abB some (Nq _ _ h.choose_spec.symm)
theorem u8_inj{x y:BitVec 8}:u8 x=u8 y↔x=y:=⟨λh=>by unfold u8 at h;injection h with _ h;exact aaG (by omega),λh=>by rw[h]⟩
theorem BU{x y:BitVec 32}:u32 x=u32 y↔x=y:=⟨λh=>by unfold u32 at h;injection h with _ h;exact aaG (by omega),λh=>by rw[h]⟩
theorem u64_inj{x y:BitVec 64}:u64 x=u64 y↔x=y:=⟨λh=>by unfold u64 at h;injection h with _ h;exact aaG (by omega),λh=>by rw[h]⟩
theorem Ik{x y:Int}:it x=it y↔x=y:=⟨λh=>by unfold it at h;injection h,λh=>by rw[h]⟩
theorem a9{A:Fn}{rows:Rows}{k:D->Rows->Prop}{ds:List D}{r:D×Rows}(h:aW ds=false)(hA:A ds []=some r):aI A rows k ds=k (shift rows.length r.1) (rows++ab rows.length r.2):=by
 unfold aI
 rw[h,hA]
 simp[bn]
theorem BV{A:Fn}{rows:Rows}{k:D->Rows->Prop}{d:D}{r:D×Rows}(hv:∀d',view rows 9 d=some d'->A [d'] []=some r)(hs:∃d',view rows 9 d=some d')(hn:aR d=false->A [d] []=some r)
  (hr:(cj r.1&&be r.2)=true):aI A rows k [d]=k (shift rows.length r.1) (rows++ab rows.length r.2):=by
 obtain⟨d',j9⟩:=hs
 unfold aI
 have h1:aW [d]=aR d:=by simp[aW]
 rw[h1]
 cases hh:aR d with
 |true=>
  simp only[ack,dU,j9,bn,hv d' j9,hr,aa2]
  simp
 |false=>
  simp only[ack,bn,hn hh]
  simp
theorem qB{pre:List (BitVec 8)->Bool}{out:List (BitVec 8)->D×Rows}{rows:Rows}{k:D->Rows->Prop}{d:D}{a:List (BitVec 8)}(h:aU rows d a)(hp:pre a=true)
  (hr:(cj (out a).1&&be (out a).2)=true):aI (mV dB pre out) rows k [d]=k (shift rows.length (out a).1) (rows++ab rows.length (out a).2):=by
 obtain⟨⟨d',j9,hb⟩,hn⟩:=h
 refine BV (λd2 tD=>?_) ⟨d',j9⟩ (λhh=>eK (hn hh).rd hp) hr
 rw[j9]at tD
 cases tD
 exact eK hb.rd hp
theorem En{pre:List (BitVec 8)->List (BitVec 8)->Bool}{out:List (BitVec 8)->List (BitVec 8)->D×Rows}{rows:Rows}{k:D->Rows->Prop}{d e:D}{a b:List (BitVec 8)}(h:aU rows d a)(h':aU rows e b)(hp:pre a b=true)
  (hr:(cj (out a b).1&&be (out a b).2)=true):aI (tW dB dB pre out) rows k [d,e]=k (shift rows.length (out a b).1) (rows++ab rows.length (out a b).2):=by
 obtain⟨⟨d',j9,hb⟩,hn⟩:=h
 obtain⟨⟨e',he',HF⟩,SA⟩:=h'
 unfold aI
 simp only[dU,j9,he',bn,gR hb.rd HF.rd hp,hr,aa2]
 cases hh:aW [d,e]with
 |true=>simp
 |false=>
  simp[aW]at hh
  simp only[gR (hn hh.1).rd (SA hh.2).rd hp]
  simp
theorem iT.push{s:Sh}{d:D}{rows more:Rows}{els:List D}(h:iT s d rows els):iT s d (rows++more) els:=by
 rcases h with⟨h1,rfl⟩|⟨r,ex,rfl,hl⟩
 ·exact .inl ⟨h1,rfl⟩
 ·exact .inr ⟨r,ex,rfl,a7 hl⟩
theorem iT.pM{s:Sh}{d:D}{rows:Rows}{els:List D}(h:iT s d rows els):pM d=some d:=by
 rcases h with⟨h1,rfl⟩|⟨r,ex,rfl,hl⟩<;>rfl
theorem ez.pM{d:D}{l:List (BitVec 8)}(h:ez d l):pM d=some d:=by
 rcases h with⟨rfl,h1⟩|⟨ex,rfl⟩<;>rfl
theorem iT.Nl{d:D}{rows:Rows}{l:List (BitVec 8)}(h:iT (.leaf tU) d rows (bs l)):wF rows d (dF l false).1 (dF l false).2:=by
 rcases h with⟨h1,rfl⟩|⟨r,ex,rfl,hl⟩
 ·have:l=[]:=by cases l<;>simp_all[bs]
  subst this
  exact .nil0 _
 ·have:(bs l).length=l.length:=by simp[bs]
  rw[this]
  exact .own _ r 0 _ ex false _ hl rfl (λh=>by cases h)
inductive Zr:D->D->Prop where
 |refl (d:D):Zr d d
 |nil (s:Sh) (e:Bool):Zr (.raw (.slice none 0 0)) (.cI s [] e)
theorem Zr.vr{ρ:Pl}{w:World}{T:Nat->Prop}{d d':D}{v:Value}(h:Zr d d')(hv:VR ρ w T d v):VR ρ w T d' v:=by
 cases h with
 |refl=>exact hv
 |nil s e=>
  have:=hv.ofRaw
  subst this
  exact VR.bH (.qj s e none 0 (λ_=>rfl) (λ_=>rfl))
end Go.Am
namespace Go.Am
open Go.Proofs.YtgcejocgnfkciaaGreatDoor.Rows (uptoBulk uptoBulkAll)
def flX(P:Program)(f:TypeId->Option Sh):Nat->List Field->Option Sh
 | _,[]=>some .nil
 | off, x :: l => match f x.type with
  |some a=>bif x.offset==off&&P.cellsOf x.type==a.size then(match flX P f (off+a.size) l with
   |some b=>some (.cons a b)
   |none=>none)else none
  |none=>none
def Gq(P:Program):Nat->TypeId->Option Sh
 |0,_=>none
 | n + 1, t => match P.underlying t with
  |some .bool=>some (.leaf .bool)
  |some (.int k)=>some (.leaf (.int k))
  |some .string=>some (.leaf .str)
  |some (.struct fs)=>match flX P (Gq P n) 0 fs.toList with
   |some s=>bif P.cellsOf t==s.size then some s else none
   |none=>none
  |some (.array m e)=>match Gq P n e with
   |some a=>bif P.cellsOf e==a.size&&P.cellsOf t==m*a.size then some (.ar m a)else none
   |none=>none
  |some (.slice e)=>match Gq P n e with
   |some a=>bif P.cellsOf e==a.size&&Nat.blt 0 a.size then some .ref else none
   |none=>none
  | _=>none
def LH(P:Program):Nat->TypeId->D->Prop
 |0,_,_=>False
 |n+1,t,d=>match P.underlying t with
  |some .bool=>∃b,d= .raw (.bool b)
  |some (.int k)=>∃m,d= .raw (.int k m)/\(Lit.int k m).wf=true
  |some .string=>∃b,d= .raw (.string b)/\b.size<=maxLen
  |some (.struct fs)=>∃s l,flX P (Gq P n) 0 fs.toList=some s/\d= .agg s l/\bd (λ(f:Field) x=>LH P n f.type x) fs.toList l
  |some (.array m e)=>∃s l,Gq P n e=some s/\d= .agg (.ar m s) l/\l.length=m/\∀x∈l,LH P n e x
  |some (.slice e)=>d= .raw (.slice none 0 0)\/∃s l,Gq P n e=some s/\d= .cI s l false/\l.length<=maxLen/\∀x∈l,LH P n e x
  | _=>False
mutual
/-- how many values and letters -/
def mW:D->Nat
 | .raw (.string b)=>b.size+1
 | .raw _=>1
 | .cI _ l _=>gj l+1
 | .agg _ l=>gj l+1
 | _=>0
def gj:List D->Nat
 |[]=>0
 |d::l=>mW d+gj l
end
theorem Ta(a b:List D):gj (a++b)=gj a+gj b:=by
 induction a with
 |nil=>simp[gj]
 |cons x a ih=>simp[gj,ih];omega
theorem uall_app{H:Type}(a b:List (DataW H)):uptoBulkAll (a++b)=uptoBulkAll a+uptoBulkAll b:=by
 induction a with
 |nil=>simp[uptoBulkAll]
 |cons x a ih=>simp[uptoBulkAll,ih];omega
def old(w:World):Nat->Prop:=λb=>b<w.heap.size
section
variable {P:Program} {H:Type} {enc:TypeId×Value->H} {w:World} {base:Nat} {spare:Nat->Bool} {held:Bool}
theorem LJ(x:DataW H):1<=uptoBulk x:=by
 cases x with
 |lit l=>cases l<;>simp[uptoBulk]
 | _=>simp[uptoBulk]
theorem PN{m n:Nat}{cs:List Value}(ih:∀(t:TypeId) (cs:List Value) (x:DataW H×List MemPlace) (s:Sh),DataW.trod enc P w base spare held m t cs=some x->Gq P n t=some s->∃d,LH P n t d/\aL s d/\bd (LR fE w (old w)) d.flat cs/\mW d<=uptoBulk x.1):
  ∀(fs:List Field) (xs:List (DataW H×List MemPlace)) (off:Nat) (s:Sh),flX P (Gq P n) off fs=some s->xs.length=fs.length->(∀(i:Nat) (f:Field),fs[i]?=some f->DataW.trod enc P w base spare held m f.type ((cs.drop f.offset).take (P.cellsOf f.type))=xs[i]?)->
  ∃l,bd (λ(f:Field) x=>LH P n f.type x) fs l/\s.isAgg=true/\l.length=s.count/\(∀i e d,s.sub i=some e->l[i]?=some d->aL e d)/\bd (LR fE w (old w)) (aA l) ((cs.drop off).take s.size)/\gj l<=uptoBulkAll (xs.map (·.1))
 |[],xs,off,s,h,_,_=>by
  simp[flX]at h;subst h
  exact⟨[],.nil,rfl,rfl,by simp[Sh.sub],by simp[aA,Sh.size];exact .nil,by simp[gj]⟩
 |f::fs,[],off,s,h,zA,hx=>by simp at zA
 | f :: fs, x0 :: xs, off, s, h, zA, hx => by
  simp only[flX]at h
  split at h
  ·rename_i a ha
   cases hb:(f.offset==off&&P.cellsOf f.type==a.size)with
   |false=>rw[hb]at h;cases h
   | true =>
    rw[hb]at h
    simp only[aaU]at h
    split at h
    ·rename_i b hbq
     cases h
     simp only[aan,acs]at hb
     have sn:=hx 0 f rfl
     obtain⟨d,hd1,tD,M4,hd4⟩:=ih _ _ _ _ sn ha
     obtain⟨l,g1,g2,g3,g4,g5,g6⟩:=PN ih fs xs (off+a.size) b hbq (by simpa using zA) (λi f' hf'=>by simpa using hx (i+1) f' (by simpa using hf'))
     refine⟨d::l,.cons hd1 g1,g2,by simp[Sh.count,g3],λi e d' hi j9=>?_,?_,by simp only[gj,abq,uptoBulkAll];omega⟩
     ·cases i with
      |zero=>simp[Sh.sub]at hi j9;subst hi;subst j9;exact tD
      |succ i=>exact g4 i e d' (by simpa[Sh.sub]using hi) (by simpa using j9)
     ·simp only[aA,Sh.size]
      rw[hb.1,hb.2]at M4
      have:(cs.drop off).take (a.size+b.size)=(cs.drop off).take a.size++((cs.drop (off+a.size)).take b.size):=by
       rw[adC,abv]
      rw[this]
      exact M4.append g5
    ·cases h
  ·cases h
theorem Nr{m n:Nat}{e:TypeId}{a:Sh}(ih:∀(t:TypeId) (cs:List Value) (x:DataW H×List MemPlace) (s:Sh),DataW.trod enc P w base spare held m t cs=some x->Gq P n t=some s->∃d,LH P n t d/\aL s d/\bd (LR fE w (old w)) d.flat cs/\mW d<=uptoBulk x.1)
  (ha:Gq P n e=some a):∀(k:Nat) (f:Nat->List Value) (g:Nat->DataW H×List MemPlace),(∀i,i<k->DataW.trod enc P w base spare held m e (f i)=some (g i))->
  ∃l,l.length=k/\(∀x∈l,LH P n e x)/\(∀x∈l,aL a x)/\bd (LR fE w (old w)) (aA l) ((List.range k).flatMap f)/\gj l<=uptoBulkAll (((List.range k).map g).map (·.1))
 |0,f,_,_=>⟨[],rfl,by simp,by simp,by simp[aA];exact .nil,by simp[gj]⟩
 | k + 1, f, g, h => by
  obtain⟨l,g1,g2,g3,g4,g5⟩:=Nr ih ha k f g (λi hi=>h i (by omega))
  have hx:=h k (by omega)
  obtain⟨d,h1,h2,h3,h4⟩:=ih _ _ _ _ hx ha
  refine⟨l++[d],by simp[g1],?_,?_,?_,by rw[Ta,abN,acE,acE,uall_app];simp only[gj,abq,adv,uptoBulkAll];omega⟩
  ·intro y hy
   rcases aaQ.1 hy with hy|hy
   ·exact g2 y hy
   ·simp at hy;subst hy;exact h1
  ·intro y hy
   rcases aaQ.1 hy with hy|hy
   ·exact g3 y hy
   ·simp at hy;subst hy;exact h2
  ·have e1:aA (l++[d])=aA l++d.flat:=by
    have:∀l:List D,aA (l++[d])=aA l++d.flat:=by
     intro l
     induction l with
     |nil=>simp[aA]
     |cons q l ih=>simp[aA,ih]
    exact this l
   rw[e1,abN,aea]
   exact g4.append (by simpa using h3)
theorem FA{α:Type}{f:Nat->List α}{c:Nat}:∀(k:Nat),(∀i,i<k->(f i).length=c)->((List.range k).flatMap f).length=k*c/\∀i j,i<k->j<c->((List.range k).flatMap f)[i*c+j]?=(f i)[j]?
 |0,_=>⟨by simp,λi j hi=>by omega⟩
 | k + 1, h => by
  obtain⟨h1,h2⟩:=FA (f:=f) (c:=c) k (λi hi=>h i (by omega))
  have hk:=h k (by omega)
  rw[abN,aea]
  have e:List.flatMap f [k]=f k:=by simp
  rw[e]
  refine⟨by rw[aao,h1,hk,acJ],λi j hi hj=>?_⟩
  rcases aaZ i k with h3|h3
  ·have:i*c+j<k*c:=by
    have:(i+1)*c<=k*c:=abF c h3
    rw[acJ]at this
    omega
   rw[aaN (by omega)]
   exact h2 i j h3 hj
  ·have:i=k:=by omega
   subst this
   rw[aaO (by omega),h1]
   congr 1
   omega
theorem Eo{a:Addr}{c:Nat}{l:List Value}(h:w.cells? base a c=some l):l.length=c/\∀j,j<c->w.cell? (a.add j)=l[j]?:=by
 unfold World.cells? at h
 split at h
 ·refine⟨by simpa using mapM_some_length h,λj hj=>?_⟩
  exact mapM_some_get h j j (by simp[hj])
 ·cases h
theorem add_add{a:Addr}(h:a.spot=none)(i j:Nat):(a.add i).add j=⟨a.block,a.off+(i+j),none⟩:=by
 obtain⟨b,o,sp⟩:=a
 simp only at h
 subst h
 unfold Addr.add
 by_cases hi:i=0<;>by_cases hj:j=0<;>simp[hi,hj]<;>omega
theorem slice_D{m n:Nat}{t e:TypeId}{cs:List Value}{x:DataW H×List MemPlace}{a:Sh}(ih:∀(t:TypeId) (cs:List Value) (x:DataW H×List MemPlace) (s:Sh),DataW.trod enc P w base spare held m t cs=some x->Gq P n t=some s->∃d,LH P n t d/\aL s d/\bd (LR fE w (old w)) d.flat cs/\mW d<=uptoBulk x.1)
  (ht:P.underlying t=some (.slice e))(h:DataW.trod enc P w base spare held (m+1) t cs=some x)(ha:Gq P n e=some a)(hc:P.cellsOf e=a.size)(h0:0<a.size):
  ∃d v,cs=[v]/\(d= .raw (.slice none 0 0)\/∃s l,Gq P n e=some s/\d= .cI s l false/\l.length<=maxLen/\∀x∈l,LH P n e x)/\d.eZ=true/\LR fE w (old w) d v/\mW d<=uptoBulk x.1:=by
 rcases DataW.trod_slice ht h with⟨rfl,rfl⟩|⟨ad,len,cap,elems,rest,m',hm,rfl,rfl,_,hlc,hcm,hel,lK,_⟩
 ·exact⟨_,_,rfl,.inl rfl,rfl,.raw _ rfl,by simp[mW,uptoBulk]⟩
 ·have:m=m':=by omega
  subst this
  rw[hc]at lK
  let f:Nat->List Value:=λi=>(w.cells? base (ad.add (i*a.size)) a.size).getD []
  have hf:∀i,i<len->w.cells? base (ad.add (i*a.size)) a.size=some (f i)/\DataW.trod enc P w base spare held m e (f i)=some (elems.getD i (.nil,[])):=by
   intro i hi
   have h1:=lK i hi
   rw[aap (by omega)]at h1
   cases jZ:w.cells? base (ad.add (i*a.size)) a.size with
   |none=>rw[jZ]at h1;cases h1
   |some l=>
    rw[jZ]at h1
    have:f i=l:=by simp[f,jZ]
    rw[this]
    refine⟨rfl,?_⟩
    simp only[abc]at h1
    rw[h1]
    simp[aaH,show i<elems.length by omega]
  obtain⟨l,g1,g2,g3,g4,g5⟩:=Nr ih ha len f _ (λi hi=>(hf i hi).2)
  have hmap:(List.range len).map (λi=>elems.getD i (.nil,[]))=elems:=by
   apply acH
   ·simp[hel]
   ·intro i h1 h2
    simp[aaH,h2]
  rw[hmap]at g5
  refine⟨.cI a l false,_,rfl,.inr ⟨a,l,ha,rfl,by omega,g2⟩,rfl,?_,by simp only[mW,uptoBulk];omega⟩
  have hlens:∀i,i<len->(f i).length=a.size:=λi hi=>(Eo (hf i hi).1).1
  obtain⟨e1,e2⟩:=FA (f:=f) len hlens
  cases len with
  |zero=>
   have:l=[]:=aaF g1
   subst this
   exact .qj a false (some ad) cap (by simp) (by simp)
  | succ len =>
   have c0:=(Eo (hf 0 (by omega)).1).2 0 h0
   have Li:=hlens 0 (by omega)
   rw[aap (by omega)]at c0
   simp only[Nat.zero_mul]at c0
   have e0:((ad.add 0).add 0)=ad:=by simp[Addr.add]
   rw[e0]at c0
   have hsp:ad.spot=none:=by
    unfold World.cell? at c0
    split at c0
    ·split at c0
     ·cases c0
     ·rename_i hs;simpa using hs
    ·cases c0
   have hold:old w ad.block:=by
    unfold World.cell? at c0
    split at c0
    ·rename_i hh;exact(aaX.1 hh).1
    ·cases c0
   have Zh:ad=⟨ad.block,ad.off,none⟩:=by
    obtain⟨b,o,sp⟩:=ad
    simp only at hsp
    subst hsp;rfl
   have key:LR fE w (old w) (.cI a l false) (.slice (some ⟨ad.block,ad.off,none⟩) l.length cap):=by
    refine .cI a l false ad.block ad.off cap (λi=>((List.range (len+1)).flatMap f).getD i undef) g3 hold (λi d hd=>?_) (λi d hd=>?_) (by omega) (by simp)
    ·have hi:i<(aA l).length:=dA hd
     rw[g4.len,e1]at hi
     have hq:i/a.size<len+1:=(Nat.div_lt_iff_lt_mul h0).2 hi
     have hr:i %a.size<a.size:=ac5 _ h0
     have HY:i/a.size*a.size+i %a.size=i:=by rw[adh];exact Nat.div_add_mod i a.size
     have c1:=(Eo (hf _ hq).1).2 _ hr
     rw[add_add hsp,HY,<-e2 _ _ hq hr,HY]at c1
     rw[c1,aaH,aap (by omega)]
     rfl
    ·have hi:i<(aA l).length:=dA hd
     rw[g4.len]at hi
     refine g4.at_ i d _ hd ?_
     rw[aaH,aap hi]
     rfl
   rw[<-Zh,g1]at key
   exact key
theorem trod_D : ∀ (n fuel : Nat) (t : TypeId) (cs : List Value) (x : DataW H × List MemPlace) (s : Sh), DataW.trod enc P w base spare held fuel t cs = some x -> Gq P n t = some s -> ∃ d, LH P n t d /\ aL s d /\ bd (LR fE w (old w)) d.flat cs /\ mW d <= uptoBulk x.1
 |0,_,_,_,_,_,_,h=>by simp[Gq]at h
 | _+1,0,_,_,_,_,h,_=>by simp[DataW.trod]at h
 | n + 1, m + 1, t, cs, x, s, h, hs => by
  have ih:=trod_D n m
  have h':=h
  simp only[Gq]at hs
  simp only[LH]
  unfold DataW.trod at h
  cases hu:P.underlying t with
  |none=>simp[hu]at hs
  | some u =>
   rw[hu]at h
   simp only[hu]at hs
   cases u with
   |bool=>
    cases hs
    have:∃b,cs=[.bool b]:=by split at h<;>simp_all
    obtain⟨b,rfl⟩:=this
    exact⟨.raw (.bool b),⟨b,rfl⟩,.leaf _ _ rfl,bd.single (.raw _ rfl),by simp only[mW];exact LJ _⟩
   |int k=>
    cases hs
    have:∃q,cs=[.int k q]/\(Lit.int k q).wf=true:=by split at h<;>simp_all
    obtain⟨q,rfl,hw⟩:=this
    exact⟨.raw (.int k q),⟨q,rfl,hw⟩,.leaf _ _ (by simp[oD]),bd.single (.raw _ rfl),by simp only[mW];exact LJ _⟩
   |string=>
    cases hs
    obtain⟨b,rfl,rfl,hw⟩:=DataW.trod_string hu h'
    exact⟨.raw (.string b),⟨b,rfl,hw⟩,.leaf _ _ rfl,bd.single (.raw _ rfl),by simp[mW,uptoBulk]⟩
   | struct fs =>
    clear h
    simp only at hs
    split at hs
    ·rename_i s' my
     cases hb:(P.cellsOf t==s'.size)with
     |false=>rw[hb]at hs;cases hs
     |true=>
      rw[hb]at hs
      cases hs
      obtain⟨xs,m',hm,rfl,hlen,zA,lK⟩:=DataW.trod_struct hu h'
      have:m=m':=by omega
      subst this
      obtain⟨l,g1,g2,g3,g4,g5,g6⟩:=PN (cs:=cs) ih fs.toList xs 0 s my (by simpa using zA) (λi f hf=>lK i f (by simpa using hf))
      refine⟨.agg s l,⟨s,l,my,rfl,g1⟩,.agg s l g2 g3 g4,?_,by simp only[mW,uptoBulk];omega⟩
      have HF:P.cellsOf t=s.size:=by simpa using hb
      simp only[abi]at g5
      rw[aaq (by omega)]at g5
      simpa[D.flat]using g5
    ·cases hs
   | array k e =>
    clear h
    simp only at hs
    split at hs
    ·rename_i a ha
     cases hb:(P.cellsOf e==a.size&&P.cellsOf t==k*a.size)with
     |false=>rw[hb]at hs;cases hs
     | true =>
      rw[hb]at hs
      cases hs
      simp only[aan,acs]at hb
      obtain⟨xs,m',hm,rfl,hlen,zA,lK⟩:=DataW.trod_array hu h'
      have:m=m':=by omega
      subst this
      rw[hb.1]at lK
      obtain⟨l,g1,g2,g3,g4,g5⟩:=Nr ih ha k (λi=>(cs.drop (i*a.size)).take a.size) (λi=>xs.getD i (.nil,[])) (λi hi=>by
       have:=lK i hi
       rw[this]
       simp[aaH,show i<xs.length by omega])
      have hmap:(List.range k).map (λi=>xs.getD i (.nil,[]))=xs:=by
       apply acH
       ·simp[zA]
       ·intro i h1 h2
        simp[aaH,h2]
      rw[hmap]at g5
      refine⟨.agg (.ar k a) l,⟨a,l,ha,rfl,g1,g2⟩,.agg _ l rfl (by simp[Sh.count,g1]) (λi e' d' hi j9=>?_),?_,by simp only[mW,uptoBulk];omega⟩
      ·simp only[Sh.sub]at hi
       split at hi
       ·cases hi;exact g3 d' (bN j9)
       ·cases hi
      ·have e1:(List.range k).flatMap (λi=>(cs.drop (i*a.size)).take a.size)=cs.take (k*a.size):=by
        clear g4 g5 hmap g1 lK zA hlen hb hu h'
        induction k with
        |zero=>simp
        |succ k ihk=>
         rw[abN,aea,ihk,acJ,adC]
         simp
       rw[e1,aaq (by omega)]at g4
       simpa[D.flat]using g4
    ·cases hs
   | slice e =>
    clear h
    simp only at hs
    split at hs
    ·rename_i a ha
     cases hb:(P.cellsOf e==a.size&&Nat.blt 0 a.size)with
     |false=>rw[hb]at hs;cases hs
     |true=>
      rw[hb]at hs
      cases hs
      simp only[aan,acs]at hb
      obtain⟨d,v,rfl,h1,h2,h3,h4⟩:=slice_D ih hu h' ha hb.1 (ad0.mp hb.2)
      exact⟨d,h1,.ref d h2,by rw[cz h2];exact bd.single h3,h4⟩
    ·cases hs
   | _=>cases hs
end
end Go.Am
namespace Go.Am
variable {P:Program} {H:Type} {enc:TypeId×Value->H} {w:World} {base:Nat} {spare:Nat->Bool} {held:Bool}
theorem XC{s t:Sh}{l:List D}(h:aL s (.agg t l)):s.isAgg=true:=by
 cases h with
 |ref _ h=>simp[D.eZ]at h
 |agg s l h1 _ _=>exact h1
theorem arg_D{r:Reach}{b0 n fuel:Nat}{t:TypeId}{v:Value}{x:DataW H×List MemPlace}{s:Sh}(hw:Value.okWide P w r b0 t v)(h:DataW.trod enc P w base spare held fuel t v.cells.toList=some x)(hs:Gq P n t=some s):
  ∃d,LH P n t d/\VR fE w (old w) d v/\mW d<=Go.Proofs.YtgcejocgnfkciaaGreatDoor.Rows.uptoBulk x.1:=by
 obtain⟨d,h1,h2,h3,h4⟩:=trod_D n fuel t _ x s h hs
 refine⟨d,h1,?_,h4⟩
 cases n with
 |zero=>exact h1.elim
 | succ n =>
  simp only[LH]at h1
  unfold Value.okWide at hw
  have one:d.eZ=true->v.oneCell'=true->VR fE w (old w) d v:=by
   intro hl hv
   rw[cz hl,yD hv]at h3
   exact VR.bH h3.head
  have agg:(∃cs,v= .agg cs/\cs.size=P.cellsOf t/\Row.okWide P w r b0 t cs)->(∃s l,d= .agg s l)->VR fE w (old w) d v:=by
   rintro⟨cs,rfl,-⟩ ⟨s',l,rfl⟩
   exact VR.zz (sj.O9 h2 (XC h2) (by simpa[Value.cells]using h3))
  cases hu:P.underlying t with
  |none=>simp[hu]at h1
  | some u =>
   simp only[hu]at h1 hw
   cases u with
   |struct fs=>
    obtain⟨s',l,_,hd,_⟩:=h1
    exact agg hw ⟨s',l,hd⟩
   |array k e=>
    obtain⟨s',l,_,hd,_⟩:=h1
    exact agg hw ⟨_,l,hd⟩
   |bool=>
    obtain⟨b,rfl⟩:=h1
    refine one rfl ?_
    simp only[Cell.okWide,Cell.ok,hu]at hw
    cases v<;>simp_all[Value.oneCell']
   |int k=>
    obtain⟨b,rfl,_⟩:=h1
    refine one rfl ?_
    simp only[Cell.okWide,Cell.ok,hu]at hw
    cases v<;>simp_all[Value.oneCell']
   |string=>
    obtain⟨b,rfl,_⟩:=h1
    refine one rfl ?_
    simp only[Cell.okWide,Cell.ok,hu]at hw
    cases v<;>simp_all[Value.oneCell']
   |slice e=>
    refine one (by rcases h1 with rfl|⟨_,_,_,rfl,_⟩<;>rfl) ?_
    simp only[Cell.okWide,Cell.ok,hu]at hw
    cases v<;>simp_all[Value.oneCell']
   | _=>exact h1.elim
end Go.Am
namespace Go.Am
open Go.ChangeShapes Go.WideShapes Go.ChangeAt Go.RowKit
theorem Step.below{ρ ρ':Pl}{T T':Nat->Prop}{aa:Rows}{w w':World}(h:Step ρ T [] w ρ' T' aa w'):Below w.heap.size w w':=
 ⟨h.os,h.tape,h.output,h.size,λk hk=>h.keep k hk (by intro r row L h1;simp[live]at h1)⟩
section
variable {H:Type} {enc:TypeId×Value->H} {P:Program}
theorem Tb{f:Func}{s:ChangeSpec}{apart fresh handsOn again:Bool}{W W':World}{args:Array Value}{v:Value}{ds gs:List (DataW H)}{before pa pv:List MemPlace}
  (hW:DataW.Whole enc P f.params.toList s.vars apart W args.toList ds gs before)
  (hres:∀(b:Nat) (sp:Nat->Bool) (hd:Bool),DataW.TrodAll enc P W' b sp hd f.resultTypes.toList (v.resultList f.resultTypes.size) (s.fn H (ds++gs)).results [])
  (hargs:∀sp:Nat->Bool,(∀p∈before,sp p.block=true)->DataW.TrodAll enc P W' 0 sp true f.params.toList args.toList (s.fn H (ds++gs)).args pa)
  (hvars:∀sp:Nat->Bool,(∀p∈before,sp p.block=true)->DataW.TrodVars enc P W' sp s.vars (s.fn H (ds++gs)).vars pv)
  (hps:before=pa++pv)(hb:Below W.heap.size W W')
  (hok:∀(j:Nat) (t:TypeId) (r:Value),f.resultTypes[j]?=some t->(v.resultList f.resultTypes.size)[j]?=some r->Value.okWide P W' .any 0 t r):
  s.post enc P f apart fresh handsOn again W args v W':=by
 have hlt:∀p∈before,p.block<W.heap.size:=λp hp=>hW.lt p hp
 have hold:∀p∈before,(λb=>decide (b<W.heap.size)) p.block=true:=λp hp=>by simpa using hlt p hp
 refine⟨ds,gs,before,[],pa,pv,hW,hres _ _ _,hargs _ hold,hvars _ hold,World.keptBut_mono (λp hp=>⟨hp,?_⟩) (hb.frame (· ∈before)),λ_=>?_⟩
 ·rw[hps,aaQ]at hp
  exact Or.inr hp
 ·obtain⟨_,_,_,_,_,hz,hn⟩:=hW
  refine⟨hok,_,_,([]++pa)++pv,⟨[]++pa,pv,trodAll_append (hargs _ (λ_ _=>rfl)) (hres _ _ _),hvars _ (λ_ _=>rfl),rfl,?_,?_⟩,?_⟩
  ·intro b off hp
   have hin:MemPlace.cell b off∈before:=by rw[hps];simpa using hp
   rw[hb.frozen (hlt _ hin)]
   exact hz b off hin
  ·intro ha
   have:=hn ha
   rw[hps]at this
   simpa using this
  ·intro p hp _
   rw[hps]
   simpa using hp
theorem args_D{n:Nat}{base:Nat}{W:World}:∀{ts:List TypeId} {vs:List Value} {ds:List (DataW H)} {p:List MemPlace},DataW.TrodAll enc P W 0 (λ_=>true) true ts vs ds p->
  (∀(j:Nat) t v,ts[j]?=some t->vs[j]?=some v->Value.okWide P W .any base t v)->(∀t∈ts,(Gq P n t).isSome=true)->
  ∃dd,bd (λt d=>LH P n t d) ts dd/\bd (VR fE W (old W)) dd vs/\gj dd<=Go.Proofs.YtgcejocgnfkciaaGreatDoor.Rows.uptoBulkAll ds
 |[],vs,ds,p,h,_,_=>by
  obtain⟨rfl,rfl,rfl⟩:=trodAll_nil h
  exact⟨[],.nil,.nil,by simp[gj]⟩
 |t::ts,vs,ds,p,h,hv,ht=>by
  obtain⟨v,vs1,d,ds1,a,b,rfl,rfl,rfl,h1,h2⟩:=trodAll_cons h
  obtain⟨fuel,hf⟩:=h1
  obtain⟨s,hs⟩:=ac6.1 (ht t (by simp))
  obtain⟨d',g1,g2,g3⟩:=arg_D (hv 0 t v rfl rfl) hf hs
  obtain⟨dd,q1,q2,q3⟩:=args_D h2 (λj t' v' h3 h4=>hv (j+1) t' v' (by simpa using h3) (by simpa using h4)) (λt' h3=>ht t' (by simp[h3]))
  exact⟨d'::dd,.cons g1 q1,.cons g2 q2,by simp only[gj,Go.Proofs.YtgcejocgnfkciaaGreatDoor.Rows.uptoBulkAll]at*;omega⟩
theorem LK{W W':World}(hl:laidOutB P=true)(hb:Below W.heap.size W W'){sp:Nat->Bool}:∀{ts:List TypeId} {vs:List Value} {ds:List (DataW H)} {p:List MemPlace},DataW.TrodAll enc P W 0 (λ_=>true) true ts vs ds p->
  (∀t∈ts,P.readableRec t=true/\t<P.types.size)->(∀x∈p,x.block<W.heap.size)->(∀x∈p,sp x.block=true)->DataW.TrodAll enc P W' 0 sp true ts vs ds p
 |[],vs,ds,p,h,_,_,_=>by
  obtain⟨rfl,rfl,rfl⟩:=trodAll_nil h
  exact rfl
 |t::ts,vs,ds,p,h,ht,hlt,hs=>by
  obtain⟨v,vs1,d,ds1,a,b,rfl,rfl,rfl,h1,h2⟩:=trodAll_cons h
  obtain⟨r1,r2⟩:=ht t (by simp)
  exact⟨a,b,WideElems.Trod_stays hl r1 r2 h1 (λx hx=>hb.same (hlt x (by simp[hx]))) (λx hx=>hs x (by simp[hx])),LK hl hb h2 (λt' h3=>ht t' (by simp[h3])) (λx hx=>hlt x (by simp[hx])) (λx hx=>hs x (by simp[hx])),rfl⟩
theorem Ns{f:FuncId}{fn:Func}{spec:ChangeSpec}{A:lI}{n:Nat}{tb:TypeId}{G:Nat->Option D}(hA:aN G P f A)(hl:laidOutB P=true)
  (hty:(fn.params.toList.all λt=>(Gq P n t).isSome&&P.readableRec t&&decide (t<P.types.size))=true)
  (hvars:spec.vars=[])(hres:fn.resultTypes=#[tb])(htb:P.underlying tb=some .bool)
  (hspec:∀ds:List (DataW H),ds.length=fn.params.toList.length->spec.fn H ds={results:=[.lit (.bool true)],args:=ds})
  {W:World}{base:Nat}{args:Array Value}{ds gs:List (DataW H)}{before:List MemPlace}
  (hlaw:∀dd,bd (λt d=>LH P n t d) fn.params.toList dd->gj dd<=Go.Proofs.YtgcejocgnfkciaaGreatDoor.Rows.uptoBulkAll (ds++gs)->∃Zs,bd Zr dd Zs/\A Zs [] (λd _=>d= .raw (.bool true)))
  (hval:∀(j:Nat) t v,fn.params[j]?=some t->args[j]?=some v->Value.okWide P W .any base t v)
  (hW:DataW.Whole enc P fn.params.toList spec.vars false W args.toList ds gs before)(hG:∀g d,G g=some d->LR fE W (old W) (.cd d) (.pointer (some ⟨g,0,none⟩))):
  Calls P f args W λe W'=>∃v,e= .returned v/\spec.post enc P fn false true false false W args v W':=by
 have hW':=hW
 obtain⟨p,q,BW,hV,rfl,hfz,Fw⟩:=hW
 rw[hvars]at hV
 obtain⟨rfl,rfl⟩:=trodVars_none hV
 have hty':∀t∈fn.params.toList,(Gq P n t).isSome=true/\P.readableRec t=true/\t<P.types.size:=by
  intro t ht
  have:=aa7.1 hty t ht
  simp only[aan,aat]at this
  exact⟨this.1.1,this.1.2,this.2⟩
 obtain⟨dd,g1,g2,g3⟩:=args_D (n:=n) (base:=base) BW (λj t v h1 h2=>hval j t v (by simpa using h1) (by simpa using h2)) (λt ht=>(hty' t ht).1)
 rw[aaL]at hlaw
 have hlt:∀x∈p,x.block<W.heap.size:=λx hx=>hW'.lt x (by simp[hx])
 have hlen:ds.length=fn.params.toList.length:=by
  clear hlaw g1 g2 g3 dd hW' hfz Fw hlt hV hty hty' hval hspec
  generalize fn.params.toList=ts at BW⊢
  generalize args.toList=vs at BW
  induction ts generalizing vs ds p with
  |nil=>obtain⟨rfl,rfl,rfl⟩:=trodAll_nil BW;rfl
  |cons t ts ih=>
   obtain⟨v,vs1,d,ds1,a,b,rfl,rfl,rfl,h1,h2⟩:=trodAll_cons BW
   simp[ih _ _ h2]
 obtain⟨Zs,n1,n2⟩:=hlaw dd g1 g3
 have g2':bd (VR fE W (old W)) Zs args.toList:=by
  refine⟨by rw[<-n1.len];exact g2.len,λi x y hx hy=>?_⟩
  have hi:i<dd.length:=by rw[n1.len];exact dA hx
  have hd:=aap hi
  exact(n1.at_ i _ x hd hx).vr (g2.at_ i _ y hd hy)
 refine(hA Zs [] _ n2 fE W (old W) args ⟨λr row L h=>by simp[live]at h,λr _ row _ _ _ h=>by simp[live]at h⟩ (λ_ _=>rfl) (λb h=>h) g2' hG).mono λe W' hb=>?_
 obtain⟨v,d,aa,ρ',T',rfl,rfl,-,-,-,hst,hv⟩:=hb.ex
 have mN:=hv.ofRaw
 subst mN
 have FB:=hst.below
 simp only[aaL]at hW'
 refine⟨_,rfl,Tb (pa:=p) (pv:=[]) hW' (λ_ _ _=>?_) (λsp hsp=>?_) (λsp _=>?_) (by simp) FB (ok_one hres rfl (okWide_bool_mk htb _))⟩
 ·rw[aaL,hspec ds hlen,hres]
  exact trodAll_cons_mk (shut_bool htb _) trodAll_mk0
 ·rw[aaL,hspec ds hlen]
  exact LK hl FB BW (λt ht=>(hty' t ht).2) hlt hsp
 ·rw[aaL,hspec ds hlen,hvars]
  exact rfl
end
end Go.Am
namespace Go.Am
open Go.ChangeShapes Go.WideShapes Go.ChangeAt Go.RowKit
mutual
/-- a type whose values are data -/
inductive TK where
 |bool
 |int (k:IntKind)
 |str
 |struct (l:XD)
 |arr (n:Nat) (t:TK)
 |slice (t:TK)
inductive XD where
 |nil
 |cons (a:TK) (l:XD)
end
mutual
def TK.sh:TK->Sh
 | .bool=> .leaf .bool
 | .int k=> .leaf (.int k)
 | .str=> .leaf .str
 | .struct l=>l.sh
 | .arr n t=> .ar n t.sh
 | .slice _=> .ref
def XD.sh:XD->Sh
 | .nil=> .nil
 | .cons a l=> .cons a.sh l.sh
end
def Zt(f:TypeId->Option TK):List TypeId->Option XD
 |[]=>some .nil
 | x :: l => match f x with
  |some a=>match Zt f l with
   |some b=>some (.cons a b)
   |none=>none
  |none=>none
def Tc(P:Program):Nat->TypeId->Option TK
 |0,_=>none
 | n + 1, t => match P.underlying t with
  |some .bool=>some .bool
  |some (.int k)=>some (.int k)
  |some .string=>some .str
  |some (.struct fs)=>match Zt (Tc P n) (fs.toList.map (·.type))with
   |some l=>some (.struct l)
   |none=>none
  |some (.array m e)=>match Tc P n e with
   |some a=>some (.arr m a)
   |none=>none
  |some (.slice e)=>match Tc P n e with
   |some a=>some (.slice a)
   |none=>none
  | _=>none
mutual
/-- data of a type -/
def DK:TK->D->Prop
 | .bool,d=>∃b,d= .raw (.bool b)
 | .int .u8,d=>∃x:BitVec 8,d= .raw (u8 x)
 | .int .u16,d=>∃x:BitVec 16,d= .raw (u16 x)
 | .int .u32,d=>∃x:BitVec 32,d= .raw (u32 x)
 | .int .u64,d=>∃x:BitVec 64,d= .raw (u64 x)
 | .int .i64,d=>∃n:Int,(-9223372036854775808<=n/\n<9223372036854775808)/\d= .raw (it n)
 | .int k,d=>∃n:Int,d= .raw (.int k n)/\(Lit.int k n).wf=true
 | .str,d=>∃b,d= .raw (.string b)/\b.size<=maxLen
 | .struct l,d=>∃ds,d= .agg l.sh ds/\DKs l ds
 | .arr n t,d=>∃l,d= .agg (.ar n t.sh) l/\l.length=n/\∀x∈l,DK t x
 | .slice t,d=>d= .raw (.slice none 0 0)\/∃l,d= .cI t.sh l false/\l.length<=maxLen/\∀x∈l,DK t x
def DKs:XD->List D->Prop
 | .nil,[]=>True
 | .cons a l,d::ds=>DK a d/\DKs l ds
 | _,_=>False
end
variable {P:Program}
theorem fl_sh{n:Nat}(ih:∀(t:TypeId) (k:TK) (s:Sh),Tc P n t=some k->Gq P n t=some s->s=k.sh):∀(fs:List Field) (off:Nat) (l:XD) (s:Sh),
  Zt (Tc P n) (fs.map (·.type))=some l->flX P (Gq P n) off fs=some s->s=l.sh
 |[],off,l,s,h1,h2=>by
  simp[Zt]at h1;simp[flX]at h2
  subst h1;subst h2;rfl
 | f :: fs, off, l, s, h1, h2 => by
  simp only[abq,Zt]at h1
  simp only[flX]at h2
  split at h1
  ·rename_i a ha
   split at h1
   ·rename_i b hb
    cases h1
    split at h2
    ·rename_i s1 RU
     cases hq:(f.offset==off&&P.cellsOf f.type==s1.size)with
     |false=>rw[hq]at h2;cases h2
     | true =>
      rw[hq]at h2
      simp only[aaU]at h2
      split at h2
      ·rename_i s2 sy
       cases h2
       rw[ih _ _ _ ha RU,fl_sh ih fs _ _ _ hb sy]
       rfl
      ·cases h2
    ·cases h2
   ·cases h1
  ·cases h1
theorem Vm:∀(n:Nat) (t:TypeId) (k:TK) (s:Sh),Tc P n t=some k->Gq P n t=some s->s=k.sh
 |0,t,k,s,h1,h2=>by simp[Tc]at h1
 | n + 1, t, k, s, h1, h2 => by
  have ih:=Vm n
  simp only[Tc]at h1
  simp only[Gq]at h2
  cases hu:P.underlying t with
  |none=>simp[hu]at h1
  | some u =>
   simp only[hu]at h1 h2
   cases u with
   |bool=>cases h1;cases h2;rfl
   |int=>cases h1;cases h2;rfl
   |string=>cases h1;cases h2;rfl
   | struct fs =>
    simp only at h1 h2
    split at h1
    ·rename_i l hl
     cases h1
     split at h2
     ·rename_i s' gy
      cases hq:(P.cellsOf t==s'.size)with
      |false=>rw[hq]at h2;cases h2
      |true=>
       rw[hq]at h2
       cases h2
       exact fl_sh ih _ _ _ _ hl gy
     ·cases h2
    ·cases h1
   | array m e =>
    simp only at h1 h2
    split at h1
    ·rename_i a ha
     cases h1
     split at h2
     ·rename_i s' gy
      cases hq:(P.cellsOf e==s'.size&&P.cellsOf t==m*s'.size)with
      |false=>rw[hq]at h2;cases h2
      |true=>
       rw[hq]at h2
       cases h2
       rw[ih _ _ _ ha gy]
       rfl
     ·cases h2
    ·cases h1
   | slice e =>
    simp only at h1 h2
    split at h1
    ·rename_i a ha
     cases h1
     split at h2
     ·rename_i s' gy
      cases hq:(P.cellsOf e==s'.size&&Nat.blt 0 s'.size)with
      |false=>rw[hq]at h2;cases h2
      |true=>rw[hq]at h2;cases h2;rfl
     ·cases h2
    ·cases h1
   | _=>cases h1
theorem Vn{w:Nat}{m:Int}(h:0<=m/\m<2^w):m=((BitVec.ofInt w m).toNat:Int):=by
 rw[acF]
 rw[adp h.1 (by simpa using h.2)]
 omega
theorem dof_int{k:IntKind}{m:Int}(h:(Lit.int k m).wf=true):DK (.int k) (.raw (.int k m)):=by
 have hw:=h
 cases k<;>simp only[Lit.wf,aan,aat,IntKind.min,IntKind.max,IntKind.signed,IntKind.bits,DK]at h⊢
 ·exact⟨m,rfl,h⟩
 ·exact⟨m,rfl,h⟩
 ·exact⟨m,rfl,h⟩
 ·exact⟨m,by simp at h;omega,rfl⟩
 ·exact⟨BitVec.ofInt 8 m,by unfold u8;rw[<-Vn];simp at h;omega⟩
 ·exact⟨BitVec.ofInt 16 m,by unfold u16;rw[<-Vn];simp at h;omega⟩
 ·exact⟨BitVec.ofInt 32 m,by unfold u32;rw[<-Vn];simp at h;omega⟩
 ·exact⟨BitVec.ofInt 64 m,by unfold u64;rw[<-Vn];simp at h;omega⟩
theorem fl_dk{n:Nat}(ih:∀(t:TypeId) (k:TK) (d:D),Tc P n t=some k->LH P n t d->DK k d):∀(fs:List Field) (l:XD) (ds:List D),
  Zt (Tc P n) (fs.map (·.type))=some l->bd (λ(f:Field) x=>LH P n f.type x) fs ds->DKs l ds
 |[],l,ds,h1,h2=>by
  simp[Zt]at h1
  have:ds=[]:=aaF (by simpa using h2.len.symm)
  subst h1;subst this;trivial
 | f :: fs, l, ds, h1, h2 => by
  simp only[abq,Zt]at h1
  split at h1
  ·rename_i a ha
   split at h1
   ·rename_i b hb
    cases h1
    match ds,h2.len with
    |d::ds,_=>exact⟨ih _ _ _ ha h2.head,fl_dk ih fs _ _ hb h2.tail⟩
   ·cases h1
  ·cases h1
theorem dof_dk:∀(n:Nat) (t:TypeId) (k:TK) (d:D),Tc P n t=some k->LH P n t d->DK k d
 |0,t,k,d,h1,h2=>by simp[Tc]at h1
 | n + 1, t, k, d, h1, h2 => by
  have ih:=dof_dk n
  simp only[Tc]at h1
  simp only[LH]at h2
  cases hu:P.underlying t with
  |none=>simp[hu]at h1
  | some u =>
   simp only[hu]at h1 h2
   cases u with
   |bool=>cases h1;exact h2
   |int k=>cases h1;obtain⟨m,rfl,hw⟩:=h2;exact dof_int hw
   |string=>cases h1;exact h2
   | struct fs =>
    simp only at h1 h2
    split at h1
    ·rename_i l hl
     cases h1
     obtain⟨s,ds,g1,rfl,g2⟩:=h2
     have:=fl_sh (Vm n) _ _ _ _ hl g1
     subst this
     exact⟨ds,rfl,fl_dk ih _ _ _ hl g2⟩
    ·cases h1
   | array m e =>
    simp only at h1 h2
    split at h1
    ·rename_i a ha
     cases h1
     obtain⟨s,l,g1,rfl,g2,g3⟩:=h2
     have:=Vm n _ _ _ ha g1
     subst this
     exact⟨l,rfl,g2,λx hx=>ih _ _ _ ha (g3 x hx)⟩
    ·cases h1
   | slice e =>
    simp only at h1 h2
    split at h1
    ·rename_i a ha
     cases h1
     rcases h2 with rfl|⟨s,l,g1,rfl,g2,g3⟩
     ·exact .inl rfl
     ·have:=Vm n _ _ _ ha g1
      subst this
      exact .inr ⟨l,rfl,g2,λx hx=>ih _ _ _ ha (g3 x hx)⟩
    ·cases h1
   | _=>cases h1
theorem PO{n:Nat}:∀{ts:List TypeId} {ks:XD} {dd:List D},Zt (Tc P n) ts=some ks->bd (λt d=>LH P n t d) ts dd->DKs ks dd
 |[],ks,dd,h1,h2=>by
  simp[Zt]at h1
  have:dd=[]:=aaF (by simpa using h2.len.symm)
  subst h1;subst this;trivial
 | t :: ts, ks, dd, h1, h2 => by
  simp only[Zt]at h1
  split at h1
  ·rename_i a ha
   split at h1
   ·rename_i b hb
    cases h1
    match dd,h2.len with
    |d::ds,_=>exact⟨dof_dk _ _ _ _ ha h2.head,PO hb h2.tail⟩
   ·cases h1
  ·cases h1
theorem Il:∀{l:List D},(∀x∈l,DK (.int .u8) x)->∃l':List (BitVec 8),l=bs l'
 |[],_=>⟨[],rfl⟩
 |x::l,h=>by
  obtain⟨b,rfl⟩:=h x (by simp)
  obtain⟨l',rfl⟩:=Il (l:=l) (λy hy=>h y (by simp[hy]))
  exact⟨b::l',rfl⟩
theorem XE(l:List (BitVec 8)):gj (bs l)=l.length:=by
 induction l with
 |nil=>rfl
 |cons x l ih=>simp only[bs,abq,gj]at ih⊢;rw[ih];simp[mW,u8];omega
theorem dk_arr8{n:Nat}{d:D}(h:DK (.arr n (.int .u8)) d):∃l:List (BitVec 8),d= .agg (.ar n (.leaf tU)) (bs l)/\l.length=n:=by
 obtain⟨l,rfl,g1,g2⟩:=h
 obtain⟨l',rfl⟩:=Il g2
 exact⟨l',rfl,by simpa[bs]using g1⟩
def DN:TK->D->Prop
 | .slice t,d=>∃l,d= .cI t.sh l false/\l.length<=maxLen/\∀x∈l,DK t x
 |k,d=>DK k d
def DNs:XD->List D->Prop
 | .nil,[]=>True
 | .cons a l,d::ds=>DN a d/\DNs l ds
 | _,_=>False
theorem dk_dn{k:TK}{d:D}(h:DK k d):∃d',Zr d d'/\DN k d'/\mW d'<=mW d:=by
 cases k with
 |slice t=>
  rcases h with rfl|⟨l,rfl,g1,g2⟩
  ·exact⟨_,.nil t.sh false,⟨[],rfl,by simp,by simp⟩,by simp[mW,gj]⟩
  ·exact⟨_,.refl _,⟨l,rfl,g1,g2⟩,aaz _⟩
 | _=>exact⟨d,.refl _,h,aaz _⟩
theorem Vo:∀{ks:XD} {dd:List D},DKs ks dd->∃Zs,bd Zr dd Zs/\DNs ks Zs/\gj Zs<=gj dd
 | .nil,[],_=>⟨[],.nil,trivial,aaz _⟩
 | .nil,_::_,h=>by simp[DKs]at h
 | .cons a l,[],h=>by simp[DKs]at h
 | .cons a l,d::ds,h=>by
  obtain⟨d',h1,h2,h3⟩:=dk_dn h.1
  obtain⟨ds',g1,g2,g3⟩:=Vo h.2
  exact⟨d'::ds',.cons h1 g1,⟨h2,g2⟩,by simp only[gj];omega⟩
theorem dn_bs{d:D}(h:DN (.slice (.int .u8)) d):∃l:List (BitVec 8),d= .cI L8 (bs l) false/\l.length<=maxLen/\mW d=l.length+1:=by
 obtain⟨l,rfl,g1,g2⟩:=h
 obtain⟨l',rfl⟩:=Il g2
 exact⟨l',rfl,by simpa[bs]using g1,by simp only[mW,XE]⟩
theorem row_law{H:Type}{enc:TypeId×Value->H}{f:FuncId}{fn:Func}{spec:ChangeSpec}{A:lI}{ks:XD}{n:Nat}{tb:TypeId}{G:Nat->Option D}(hA:aN G P f A)(hl:laidOutB P=true)
  (hty:(fn.params.toList.all λt=>(Gq P n t).isSome&&P.readableRec t&&decide (t<P.types.size))=true)(hks:Zt (Tc P n) fn.params.toList=some ks)
  (hvars:spec.vars=[])(hres:fn.resultTypes=#[tb])(htb:P.underlying tb=some .bool)
  (hspec:∀ds:List (DataW H),ds.length=fn.params.toList.length->spec.fn H ds={results:=[.lit (.bool true)],args:=ds})
  {W:World}{base:Nat}{args:Array Value}{ds gs:List (DataW H)}{before:List MemPlace}
  (hlaw:∀dd,DNs ks dd->gj dd<=Go.Proofs.YtgcejocgnfkciaaGreatDoor.Rows.uptoBulkAll (ds++gs)->A dd [] (λd _=>d= .raw (.bool true)))
  (hval:∀(j:Nat) t v,fn.params[j]?=some t->args[j]?=some v->Value.okWide P W .any base t v)
  (hW:DataW.Whole enc P fn.params.toList spec.vars false W args.toList ds gs before)(hG:∀g d,G g=some d->LR fE W (old W) (.cd d) (.pointer (some ⟨g,0,none⟩))):
  Calls P f args W λe W'=>∃v,e= .returned v/\spec.post enc P fn false true false false W args v W':=
 Ns hA hl hty hvars hres htb hspec (λdd h1 h2=>by
  obtain⟨Zs,g1,g2,g3⟩:=Vo (PO hks h1)
  exact⟨Zs,g1,hlaw Zs g2 (by omega)⟩) hval hW hG
end Go.Am
namespace Go.Am
def xB(k:IntKind)(zs:List Int):D:= .agg (.ar zs.length (.leaf (.int k))) (zs.map λz=> .raw (.int k z))
theorem LM(k:IntKind):∀zs:List Int,aA (zs.map λz=>D.raw (.int k z))=zs.map λz=>D.raw (.int k z)
 |[]=>rfl
 |z::zs=>by simp[aA,D.flat,LM k zs]
theorem PP{P:Program}{W:World}{name:String}{k:IntKind}{zs:List Int}{g:Nat}{t e:TypeId}{n:Nat}
  (hg:P.globalNamed name=some g)(hty:(P.globals[g]?).map (·.type)=some t)(ht:P.underlying t=some (.array n e))(he:P.underlying e=some (.int k))(hce:P.cellsOf e=1)(hct:P.cellsOf t=n):
  ∀{l:List (String×DataW Unit)} {ps:List MemPlace},DataW.LaidVars P W l ps->(name,Lib.tabData k zs)∈l->Lib.TabIs P W name k zs
 |[],ps,_,hm=>by cases hm
 | (n', d') :: r, ps, h, hm => by
  obtain⟨g',t',cs,fuel,p,q,RS,xq,hvar,hd,hr,_⟩:=h
  rcases aaW.1 hm with hm|hm
  ·cases hm
   obtain rfl:=abg (hg.symm.trans RS)
   obtain rfl:=abg (hty.symm.trans xq)
   unfold Lib.TabIs
   rw[hvar,<-Lib.cells_of_tab ht he hce hct hd]
  ·exact PP hg hty ht he hce hct hr hm
theorem Ep{P:Program}{W:World}{name:String}{k:IntKind}{zs:List Int}{g:Nat}{t e:TypeId}{n:Nat}{l:List (String×DataW Unit)}(h:laidMet P l W)(hm:(name,Lib.tabData k zs)∈l)
  (hg:P.globalNamed name=some g)(hty:(P.globals[g]?).map (·.type)=some t)(ht:P.underlying t=some (.array n e))(he:P.underlying e=some (.int k))(hce:P.cellsOf e=1)(hct:P.cellsOf t=n)(hz:zs≠[]):
  LR fE W (old W) (.cd (xB k zs)) (.pointer (some ⟨g,0,none⟩)):=by
 obtain⟨ps,hv,_⟩:=h
 have hT:=PP hg hty ht he hce hct hv hm
 refine LR.AH (cs:=zs.map λz=>Value.int k z) (s:= .ar zs.length (.leaf (.int k))) ?_ ?_ ?_ ?_
 ·refine .agg _ _ rfl (by simp[Sh.count]) λi e d h1 h2=>?_
  simp only[Sh.sub]at h1
  split at h1
  ·cases h1
   obtain⟨z,_,rfl⟩:=acS.1 (bN h2)
   exact .leaf _ _ (by simp[oD])
  ·cases h1
 ·have:=hT.cell hg 0 (by cases zs<;>simp_all)
  show g<W.heap.size
  rw[World.cell?]at this
  split at this
  ·rename_i h0;exact(aaX.1 h0).1
  ·cases this
 ·rw[xB,D.flat,LM]
  clear hT hm hz
  induction zs with
  |nil=>exact .nil
  |cons z zs ih=>exact .cons (.raw _ rfl) ih
 ·intro j x hx
  have hj:j<zs.length:=by have:=dA hx;simpa using this
  have:=hT.cell hg j hj
  rw[abE,this]
  simp[hj]at hx
  simp[hj,<-hx]
end Go.Am

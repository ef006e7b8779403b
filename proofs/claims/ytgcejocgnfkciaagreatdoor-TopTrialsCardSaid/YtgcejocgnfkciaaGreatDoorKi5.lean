import Derived.Test.YtgcejocgnfkciaaGreatDoorKi4
import Derived.Test.YtgcejocgnfkciaaGreatDoorRows
import Derived.OpenShut
import Derived.WalkKit
import Derived.ProofKit
import Derived.JoinedCond
import Derived.Carry
import Derived.Lib.LaidTab
set_option linter.unusedSimpArgs false
set_option linter.unusedVariables false
namespace Go.Am
def u8(x:BitVec 8):Value:= .int .u8 (x.toNat:Int)
def u16(x:BitVec 16):Value:= .int .u16 (x.toNat:Int)
def u32(x:BitVec 32):Value:= .int .u32 (x.toNat:Int)
def u64(x:BitVec 64):Value:= .int .u64 (x.toNat:Int)
def it(n:Int):Value:= .int .i64 n
def wz(n:Int):Int:=IntKind.i64.wrap n
theorem be{n:Int}(h:-9223372036854775808<=n/\n<9223372036854775808):wz n=n:=by
 unfold wz IntKind.wrap
 have e1:(2:Int)^IntKind.i64.bits=18446744073709551616:=by decide
 have e2:(2:Int)^(IntKind.i64.bits-1)=9223372036854775808:=by decide
 simp only[e1,e2]
 rcases Int.lt_or_le n 0 with h0|h0
 ·have:n %18446744073709551616=n+18446744073709551616:=by omega
  rw[this,aaM (by simp[IntKind.signed];omega)]
  omega
 ·have:n %18446744073709551616=n:=by omega
  rw[this,aaE (by simp[IntKind.signed];omega)]
def asMp:D->Option Nat
 | .mp r=>some r
 | _=>none
def mres(vs:Sh)(ok:Bool)(z:D):Option Value->D
 |some v=>bif ok then .cB [dV vs v,.raw (.bool true)]else dV vs v
 |none=>bif ok then .cB [z,.raw (.bool false)]else z
def asIt:D->Option Int
 | .raw (.int .i64 n)=>some n
 | _=>none
def Xo:D->Option Int
 | .raw (.int _ n)=>some n
 | _=>none
def IZ(kd:IntKind):D->Option Value
 | .raw (.int _ n)=>some (.int kd (kd.wrap n))
 | _=>none
def YG(C:aX)(b:aA)(Q:fE->Env->Rows->Prop):fE->Env->Rows->Prop:=λe env rows=>match e with
 | .normal=>aw C b Q env rows
 |e=>Q e env rows
def Qu(id:Nat)(Q:fE->Env->Rows->Prop):fE->Env->Rows->Prop:=λe env rows=>match e with
 | .exit i=>(i=id->Q .normal env rows)/\(i≠id->Q (.exit i) env rows)
 |e=>Q e env rows
def GV(C:aX)(a b:aA)(Q:fE->Env->Rows->Prop)(env:Env)(rows:Rows):D->Prop
 | .raw (.bool t)=>(t=true->aw C a Q env rows)/\(t=false->aw C b Q env rows)
 | _=>False
def Xp(C:aX)(dst:Option Nat)(o:nh)(want:Bool)(os:List aS)(env:Env)(rows:Rows)(K:Env->Rows->Prop):D->Prop
 | .raw (.bool t)=>(t=want->dA C env rows o λd rows=>dD C os (put dst d env) rows K)/\(t=!want->dD C os (put dst (.cB []) env) rows K)
 | .cB []=>dD C os (put dst (.cB []) env) rows K
 | _=>False
def kOp(C:aX)(dst:Option Nat)(os:List aS)(env:Env)(K:Env->Rows->Prop):D->Rows->Prop:=λd rows=>dD C os (put dst d env) rows K
def Tq(C:aX)(a b:X)(env:Env)(rows:Rows)(k:D->Rows->Prop):D->Prop
 | .raw (.bool t)=>bf (bif t then ev C env a else ev C env b) λd=>k d rows
 | _=>False
def aK(A:Fn)(rows:Rows)(k:D->Rows->Prop)(ds:List D):Prop:=
 (aV ds=true->bf (dC (view rows 9) ds) λds'=>bf (A ds' []) λr=>(b8 r.1&&a8 r.2)=true/\k (shift rows.length r.1) (rows++ab rows.length r.2))/\
   (aV ds=false->bf (A ds []) λr=>k (shift rows.length r.1) (rows++ab rows.length r.2))
def kFn(C:aX)(rows:Rows)(f:FuncId)(k:D->Rows->Prop):Option Fn->List D->Prop
 |some A,ds=>aK A rows k ds
 |none,ds=>bf (C.Nb f) λA=>A ds rows k
theorem Tr{C rows f ds k}:AO C rows f ds k=kFn C rows f k (C.fn f) ds:=by unfold AO;cases C.fn f<;>rfl
theorem cM{C rows f k}{o o':Option Fn}{d d':List D}(h:o=o')(h2:d=d'):kFn C rows f k o d=kFn C rows f k o' d':=by rw[h,h2]
def GW:D->D->Option Bool
 | .raw (.pointer none),.raw (.pointer none)=>some true
 | .ptr _ _ _,.raw (.pointer none)=>some false
 | .b5 _,.raw (.pointer none)=>some false
 | _,_=>none
def eqA(s:Sh):D->D->Option Bool
 | .agg s1 l,.agg s2 l'=>bif s1==s&&s2==s then CR l l' else none
 | _,_=>none
def kTail(C:aX)(tl:List aS)(K:Env->Rows->Prop):Env->Rows->Prop:=λenv rows=>dD C tl env rows K
def YH(C:aX)(dl:List aS)(K:Env->Rows->Prop):Env->Rows->Prop:=λenv rows=>sL C env rows dl/\K env rows
def I8(env:Env)(rows:Rows)(t:Nat):D->Rows->Prop:=λd r=>look env t=some d/\r=rows
def Lj(C:aX)(dl:List aS)(K:Env->Rows->Prop):Env->Rows->Prop:=λenv rows=>mE C env rows dl/\K env rows
def kIntF(C:aX)(fl dl:List aS)(K:Env->Rows->Prop):Env->Rows->Prop:=λenv rows=>dD C fl env rows (Lj C dl K)
def oU(s:Sh)(n:Int)(rows:Rows)(k:D->Rows->Prop):D->Prop
 | .sl t r p off len _=>t=s/\0<=n/\n<(len:Int)/\k (.ptr s r (p++[off+n.toNat])) rows
 | .cD t l _=>t=s/\0<=n/\n<(l.length:Int)/\bf (l[n.toNat]?) λd=>k (.b5 d) rows
 | _=>False
def GX (s : Sh) (l h c : Option Int) (rows : Rows) (k : D -> Rows -> Prop) (dx : D) : Prop :=
 bf (dP dx) λn=>mD (l.getD 0) (h.getD n) (c.getD (h.getD n)) n λl h' c'=>match dx with
    | .raw (.slice none 0 0)=>k (.raw (.slice none 0 0)) rows
    | .sl t r p off len e=>t=s/\k (.sl s r p (off+l) (h'-l) (po c h' c' len e)) rows
    | .cD t els e=>t=s/\k (.cD s ((els.drop l).take (h'-l)) (po c h' c' els.length e)) rows
    | _=>False
def I9(jU:List aO)(K:D->Rows->Prop):fE->Env->Rows->Prop:=λe env rows=>(e= .normal\/e= .ret)/\bf (zZ env rows jU) λl=>K (wF l) rows
theorem ae{C:aX}{np:Nat}{jU:List aO}{ac:aA}{ds:List D}{rows:Rows}{K:D->Rows->Prop}(h1:ds.length=np)(h2:aw C ac (I9 jU K) (oT 0 ds) rows):aG C np jU ac ds rows K:=⟨h1,h2⟩
def oz:D->Option D
 | .cB _=>none
 |d=>some d
def JZ(C:aX)(a:aA)(Q:fE->Env->Rows->Prop)(env:Env)(rows:Rows):Prop:=∃n,jO (aw C a) Q n env rows
theorem cN{α:Type}{x y:Option α}{k:α->Prop}(h:x=y):bf x k=bf y k:=by rw[h]
theorem bP{C a b Q env rows}{d d':D}(h:d=d'):GV C a b Q env rows d=GV C a b Q env rows d':=by rw[h]
theorem cO{C dst o want os env rows K}{d d':D}(h:d=d'):Xp C dst o want os env rows K d=Xp C dst o want os env rows K d':=by rw[h]
theorem bQ{C a b env rows k}{d d':D}(h:d=d'):Tq C a b env rows k d=Tq C a b env rows k d':=by rw[h]
theorem bT{A rows k}{d d':List D}(h:d=d'):aK A rows k d=aK A rows k d':=by rw[h]
theorem ca{s}{n n':Int}{rows aa:Rows}{k}{d d':D}(h1:n=n')(h2:rows=aa)(h3:d=d'):oU s n rows k d=oU s n' aa k d':=by rw[h1,h2,h3]
theorem bC{s}{l l' h h' c c':Option Int}{rows aa:Rows}{k}{d d':D}(h0:l=l')(h1:h=h')(hc:c=c')(h2:rows=aa)(h3:d=d'):GX s l h c rows k d=GX s l' h' c' aa k d':=by rw[h0,h1,hc,h2,h3]
theorem bU{C a Q env env'}{rows aa:Rows}(h:env=env')(h':rows=aa):JZ C a Q env rows=JZ C a Q env' aa:=by rw[h,h']
theorem bV{α:Type}{c d:Bool}{a b:α}(h:c=d):cond c a b=cond d a b:=by rw[h]
theorem cb{op}{a a' b b':Value}{k}(h:a=a')(h2:b=b'):cz op a b k=cz op a' b' k:=by rw[h,h2]
theorem bk{l l' h h' m m':Int}{n n':Nat}{k}(h1:l=l')(h2:h=h')(h3:m=m')(h4:n=n'):mD l h m n k=mD l' h' m' n' k:=by rw[h1,h2,h3,h4]
theorem cd{rows aa:Rows}{s bytes}{a a':D}{l l':List D}{k}(h1:rows=aa)(h2:a=a')(h3:l=l'):wj rows s bytes a l k=wj aa s bytes a' l' k:=by rw[h1,h2,h3]
theorem bW{rows aa:Rows}{s}{a a':D}{l l':List D}{k}(h1:rows=aa)(h2:a=a')(h3:l=l'):ou rows s a l k=ou aa s a' l' k:=by rw[h1,h2,h3]
def pkO(t:Bool)(x y:Option D):Option D:=bif t then x else y
section eqs
variable (C:aX) (env:Env) (rows:Rows) (Q:fE->Env->Rows->Prop) (k:D->Rows->Prop) (K:Env->Rows->Prop)
theorem q_skip:aw C .skip Q env rows=Q .normal env rows:=aaJ rfl rfl
theorem YI(ops):aw C (.region false ops) Q env rows=dD C ops env rows (Q .normal):=aaJ rfl rfl
theorem Vn(ops):aw C (.region true ops) Q env rows=dD C.quiet ops env rows (Q .normal):=aaJ rfl rfl
theorem q_draw1(pre tail):aw C (.AL pre tail) Q env rows=dD C.quiet pre env rows (kTail C tail (Q .normal)):=aaJ rfl rfl
theorem q_draw(pre dl tail):aw C (.draw pre dl tail) Q env rows=dD C.quiet pre env rows (YH C.quiet dl λenv rows=>wk C.quiet tail env rows (Q .normal)):=aaJ rfl rfl
theorem q_tail(tl):kTail C tl K env rows=dD C tl env rows K:=aaJ rfl rfl
theorem q_stab(dl):YH C dl K env rows=(sL C env rows dl/\K env rows):=aaJ rfl rfl
theorem q_st0:sL C env rows []=True:=aaJ rfl rfl
theorem q_st1(t o g l):sL C env rows (⟨some t,o,g⟩::l)=(dA C env rows o (I8 env rows t)/\sL C env rows l):=by
 simp only[sL]
 congr 1
theorem q_st2(t d r):I8 env rows t d r=(look env t=some d/\r=rows):=aaJ rfl rfl
theorem q_ta0:wk C [] env rows K=K env rows:=aaJ rfl rfl
theorem q_ta1(x dl l):wk C ((x,dl)::l) env rows K=dD C [x] env rows (YH C dl λenv rows=>wk C l env rows K):=aaJ rfl rfl
theorem q_drawf(pre dl tail):aw C (.SS pre dl tail) Q env rows=dD C.quiet pre env rows (Lj C.quiet dl λenv rows=>yW C tail env rows (Q .normal)):=aaJ rfl rfl
theorem q_stabF(dl):Lj C dl K env rows=(mE C env rows dl/\K env rows):=aaJ rfl rfl
theorem q_intF(fl dl):kIntF C fl dl K env rows=dD C fl env rows (Lj C dl K):=aaJ rfl rfl
theorem q_sf0:mE C env rows []=True:=aaJ rfl rfl
theorem q_sf1(t o l):mE C env rows (⟨some t,o,none⟩::l)=(fX C env rows o t/\mE C env rows l):=aaJ rfl rfl
theorem q_sf2(t o g want l):mE C env rows (⟨some t,o,some (g,want)⟩::l)=(look env g=some (.raw (.bool want))/\fX C env rows o t/\mE C env rows l):=aaJ rfl rfl
theorem q_sfm(x t):fX C env rows (.mv x) t=dA C env rows (.mv x) (I8 env rows t):=by
 simp only[fX]
 congr 1
theorem q_sfl(s x t):fX C env rows (.load s x) t=dA C env rows (.load s x) (I8 env rows t):=by
 simp only[fX]
 congr 1
theorem q_sff(s x i t):fX C env rows (.b7 s x i) t=dA C env rows (.b7 s x i) (I8 env rows t):=by
 simp only[fX]
 congr 1
theorem q_tf0:yW C [] env rows K=K env rows:=aaJ rfl rfl
theorem q_tf1(x fl dl l):yW C ((x,fl,dl)::l) env rows K=dD C [x] env rows (kIntF C.quiet fl dl λenv rows=>yW C l env rows K):=aaJ rfl rfl
theorem q_qfn(f):C.quiet.fn f=C.fn f:=aaJ rfl rfl
theorem q_qgl(f):C.quiet.aY f=C.aY f:=aaJ rfl rfl
theorem q_seq(a b):aw C (.seq a b) Q env rows=aw C a (YG C b Q) env rows:=aaJ rfl rfl
theorem q_cond(c a b):aw C (.cond c a b) Q env rows=bf (ev C env c) (GV C a b Q env rows):=aaJ rfl rfl
theorem q_block(id a):aw C (.block id a) Q env rows=aw C a (Qu id Q) env rows:=aaJ rfl rfl
theorem q_loop(a):aw C (.loop a) Q env rows=JZ C a Q env rows:=aaJ rfl rfl
theorem q_exit(id):aw C (.exit id) Q env rows=Q (.exit id) env rows:=aaJ rfl rfl
theorem q_ret:aw C .ret Q env rows=Q .ret env rows:=aaJ rfl rfl
theorem q_fr(jU)(R:D->Rows->Prop):I9 jU R .ret env rows=bf (zZ env rows jU) λl=>R (wF l) rows:=by simp[I9]
theorem q_fn(jU)(R:D->Rows->Prop):I9 jU R .normal env rows=bf (zZ env rows jU) λl=>R (wF l) rows:=by simp[I9]
theorem q_a0:zZ env rows []=some []:=aaJ rfl rfl
theorem q_a1(r l):zZ env rows (r::l)=(Et env rows r).bind λd=>(zZ env rows l).map λds=>d::ds:=by
 simp only[zZ]
 cases Et env rows r with
 |none=>rfl
 |some d=>cases zZ env rows l<;>rfl
theorem q_at(t):Et env rows (.tmp t)=(look env t).bind oz:=by
 simp only[Et]
 cases look env t with
 |none=>rfl
 |some d=>cases d<;>rfl
theorem q_ac(t s):Et env rows (.cell t s)=match look env t with
  |some (.ptr s' r p)=>bif s'==s then(match live rows r with
   |some row=>cF row.els p
   |none=>none)else none
  | _=>none:=aaJ rfl rfl
theorem n_raw(v):oz (.raw v)=some (.raw v):=aaJ rfl rfl
theorem n_ptr(s r p):oz (.ptr s r p)=some (.ptr s r p):=aaJ rfl rfl
theorem n_sl(s r p o n e):oz (.sl s r p o n e)=some (.sl s r p o n e):=aaJ rfl rfl
theorem n_lst(s l e):oz (.cD s l e)=some (.cD s l e):=aaJ rfl rfl
theorem q_r1(d):wF [d]=d:=aaJ rfl rfl
theorem q_r0:wF []= .cB []:=aaJ rfl rfl
theorem q_r2(d e l):wF (d::e::l)= .cB (d::e::l):=aaJ rfl rfl
theorem sl_sl(s r p o n e):dP (.sl s r p o n e)=some n:=aaJ rfl rfl
theorem sl_lst(s l e):dP (.cD s l e)=some l.length:=aaJ rfl rfl
theorem sl_nil:dP (.raw (.slice none 0 0))=some 0:=aaJ rfl rfl
theorem so_sl(s t r p o n e):rk rows s (.sl t r p o n e)=bif s==t then elems rows (.sl t r p o n e)else none:=aaJ rfl rfl
theorem so_lst(s t l e):rk rows s (.cD t l e)=bif s==t then some l else none:=aaJ rfl rfl
theorem so_nil(s):rk rows s (.raw (.slice none 0 0))=some []:=aaJ rfl rfl
theorem el_sl(s r off len e):elems rows (.sl s r [] off len e)=(live rows r).map λrow=>(row.els.drop off).take len:=by simp only[elems];cases live rows r<;>rfl
theorem el_lst(s l e):elems rows (.cD s l e)=some l:=aaJ rfl rfl
theorem lv_0(row):live (some row::rows) 0=some row:=aaJ rfl rfl
theorem lv_s(x n):live (x::rows) (n+1)=live rows n:=by simp[live]
theorem lv_new(row):live (rows++[some row]) rows.length=some row:=by simp[live]
theorem g_row(els:List D)(i p):cF els (i::p)=(els[i]?).bind λd=>d.get p:=by simp only[cF];cases els[i]?<;>rfl
theorem g_nil(d):D.get d []=some d:=by cases d<;>rfl
theorem g_agg(s)(l:List D)(i p):D.get (.agg s l) (i::p)=(l[i]?).bind λd=>d.get p:=by simp only[D.get];cases l[i]?<;>rfl
theorem s_row(els:List D)(i p x):lO els (i::p) x=(els[i]?).bind λd=>(d.set p x).map λd'=>els.set i d':=by
 simp only[lO]
 cases els[i]? with
 |none=>rfl
 |some d=>
  simp only[abf]
  cases D.set d p x<;>rfl
theorem s_nil(d x):D.set d [] x=some x:=by cases d<;>rfl
theorem s_agg(s)(l:List D)(i p x):D.set (.agg s l) (i::p) x=(l[i]?).bind λd=>(d.set p x).map λd'=> .agg s (l.set i d'):=by
 simp only[D.set]
 cases l[i]? with
 |none=>rfl
 |some d=>
  simp only[abf]
  cases D.set d p x<;>rfl
theorem sub_0(a b):(Sh.cons a b).sub 0=some a:=aaJ rfl rfl
theorem sub_s(a b i):(Sh.cons a b).sub (i+1)=b.sub i:=aaJ rfl rfl
theorem sub_ar(n s i):(Sh.ar n s).sub i=if i<n then some s else none:=aaJ rfl rfl
theorem a_nil(s bytes)(news:List D):wj rows s bytes (.raw (.slice none 0 0)) news k=(news.length*bytes<=most/\news.length<=most/\k (.sl s rows.length [] 0 news.length false) (rows++[some ⟨s,news⟩])):=by simp[wj,elems,dP,bf,fh,isNil,kill]
theorem a_sl(s bytes t r n e)(news:List D):wj rows s bytes (.sl t r [] 0 n e) news k=bf (live rows r) λrow=>(s==t)=true/\(row.els.take n).length=n/\(n+news.length)*bytes<=most/\n+news.length<=most/\k (.sl s rows.length [] 0 (n+news.length) false) (rows.set r none++[some ⟨s,row.els.take n++news⟩]):=by
 simp only[wj,elems,dP,fh,isNil,owned,kill]
 cases live rows r<;>simp[bf]
theorem most_eq:most=1099511627776:=rfl
theorem q_bd(l h m:Int)(n:Nat)(kk:Nat->Nat->Nat->Prop):mD l h m n kk=(0<=l/\l<=h/\h<=m/\m<=(n:Int)/\kk l.toNat h.toNat m.toNat):=aaJ rfl rfl
theorem q_skl(s l h c t els e):GX s l h c rows k (.cD t els e)=mD (l.getD 0) (h.getD els.length) (c.getD (h.getD els.length)) els.length λl h' c'=>t=s/\k (.cD s ((els.drop l).take (h'-l)) (po c h' c' els.length e)) rows:=aaJ rfl rfl
theorem q_sks(s l h c t r p off)(n:Nat)(e):GX s l h c rows k (.sl t r p off n e)=mD (l.getD 0) (h.getD n) (c.getD (h.getD n)) n λl h' c'=>t=s/\k (.sl s r p (off+l) (h'-l) (po c h' c' n e)) rows:=aaJ rfl rfl
theorem q_sn(b):YG C b Q .normal env rows=aw C b Q env rows:=aaJ rfl rfl
theorem q_sr(b):YG C b Q .ret env rows=Q .ret env rows:=aaJ rfl rfl
theorem q_se(b i):YG C b Q (.exit i) env rows=Q (.exit i) env rows:=aaJ rfl rfl
theorem q_bn(id):Qu id Q .normal env rows=Q .normal env rows:=aaJ rfl rfl
theorem q_br(id):Qu id Q .ret env rows=Q .ret env rows:=aaJ rfl rfl
theorem q_be(id i):Qu id Q (.exit i) env rows=bif i==id then Q .normal env rows else Q (.exit i) env rows:=by
 simp only[Qu]
 by_cases h:i=id
 ·subst h;simp
 ·have:(i==id)=false:=by simpa using h
  simp[h,this]
theorem q_ct(a b):GV C a b Q env rows (.raw (.bool true))=aw C a Q env rows:=by simp[GV]
theorem q_cf(a b):GV C a b Q env rows (.raw (.bool false))=aw C b Q env rows:=by simp[GV]
theorem q_on:dD C [] env rows K=K env rows:=aaJ rfl rfl
theorem q_oc(dst o os):dD C (⟨dst,o,none⟩::os) env rows K=dA C env rows o (kOp C dst os env K):=aaJ rfl rfl
theorem q_og(dst o g want os):dD C (⟨dst,o,some (g,want)⟩::os) env rows K=bf (look env g) (Xp C dst o want os env rows K):=aaJ rfl rfl
theorem q_gtt(dst o os):Xp C dst o true os env rows K (.raw (.bool true))=dA C env rows o (kOp C dst os env K):=by simp only[Xp];simp;rfl
theorem q_gtf(dst o os):Xp C dst o false os env rows K (.raw (.bool true))=dD C os (put dst (.cB []) env) rows K:=by simp[Xp]
theorem q_gft(dst o os):Xp C dst o true os env rows K (.raw (.bool false))=dD C os (put dst (.cB []) env) rows K:=by simp[Xp]
theorem q_gff(dst o os):Xp C dst o false os env rows K (.raw (.bool false))=dA C env rows o (kOp C dst os env K):=by simp only[Xp];simp;rfl
theorem q_gz(dst o want os):Xp C dst o want os env rows K (.cB [])=dD C os (put dst (.cB []) env) rows K:=aaJ rfl rfl
theorem q_ko(dst os d):kOp C dst os env K d rows=dD C os (put dst d env) rows K:=aaJ rfl rfl
theorem q_bs{α:Type}(a:α)(k:α->Prop):bf (some a) k=k a:=aaJ rfl rfl
theorem q_et(t):ev C env (.tmp t)=look env t:=aaJ rfl rfl
theorem q_ec(v):ev C env (.const v)=some (.raw v):=aaJ rfl rfl
theorem q_eg(g):ev C env (.aY g)=(C.aY g).map D.b5:=by
 simp only[ev]
 cases C.aY g<;>rfl
theorem q_lk(j t d):look ((j,d)::env) t=bif j==t then some d else look env t:=aaJ rfl rfl
theorem q_ps(t d):put (some t) d env=(t,d)::env:=aaJ rfl rfl
theorem q_pn(d):put none d env=env:=aaJ rfl rfl
theorem q_es0:MY C env []=some []:=aaJ rfl rfl
theorem q_es1(x l):MY C env (x::l)=match ev C env x with|some d=>(match MY C env l with|some ds=>some (d::ds)|none=>none)|none=>none:=aaJ rfl rfl
theorem q_eo0:IV C env none=some none:=aaJ rfl rfl
theorem q_eo1(x):IV C env (some x)=(ev C env x).bind λd=>(Xo d).map some:=by
 show(match ev C env x with|some (.raw (.int _ n))=>some (some n)| _=>none)=_
 cases ev C env x with
 |none=>rfl
 |some d=>cases d with
  |raw v=>cases v<;>rfl
  | _=>rfl
theorem o_mv(x):dA C env rows (.mv x) k=bf (ev C env x) λd=>k d rows:=aaJ rfl rfl
theorem o_pick(c a b):dA C env rows (.pick c a b) k=bf (ev C env c) (Tq C a b env rows k):=aaJ rfl rfl
theorem o_bin(op x y):dA C env rows (.bin op x y) k=bf (ev C env x) fun
  | .raw a=>bf (ev C env y) fun
   | .raw b=>cz op a b λd=>k d rows
   | _=>False
  | _=>False:=aaJ rfl rfl
theorem o_eqa(s neg x y):dA C env rows (.Xe s neg x y) k=bf (ev C env x) λdx=>bf (ev C env y) λdy=>bf (eqA s dx dy) λb=>k (.raw (.bool (bif neg then !b else b))) rows:=by
 show bf _ _=_
 congr 1
 funext dx
 cases dx with
 | agg s1 l =>
  show bf _ _=_
  congr 1
  funext dy
  cases dy with
  | agg s2 l' =>
   show(s1=s/\s2=s/\_)=_
   unfold eqA
   by_cases h1:s1=s
   ·by_cases h2:s2=s
    ·simp[h1,h2]
    ·have:(s2==s)=false:=by simpa using h2
     simp[h2,this,bf]
   ·have:(s1==s)=false:=by simpa using h1
    simp[h1,this,bf]
  | _=>rfl
 | _=>
  cases ev C env y<;>rfl
theorem eL_c(a l b l'):CR (a::l) (b::l')=(zG a b).bind λt=>(CR l l').map λu=>t&&u:=by
 simp only[CR]
 cases zG a b with
 |none=>rfl
 |some t=>cases CR l l'<;>rfl
theorem o_un(op x):dA C env rows (.un op x) k=bf (ev C env x) fun
  | .raw a=>aUn op a λd=>k d rows
  | _=>False:=aaJ rfl rfl
theorem o_conv(kd x):dA C env rows (.conv kd x) k=bf (ev C env x) λd=>bf (IZ kd d) λv=>k (.raw v) rows:=by
 show(bf _ _)=_
 congr 1
 funext d
 cases d with
 |raw v=>cases v<;>rfl
 | _=>rfl
theorem o_alloc(s z):dA C env rows (.alloc s z) k=k (.ptr s rows.length [0]) (rows++[some ⟨s,[z]⟩]):=aaJ rfl rfl
theorem o_box(s x):dA C env rows (.box s x) k=bf (ev C env x) λd=>d.fits s=true/\k (.ptr s rows.length [0]) (rows++[some ⟨s,[d]⟩]):=aaJ rfl rfl
theorem o_build(s z parts):dA C env rows (.build s z parts) k=bf (o6 C env s.sub parts z) λl=>k (.agg s l) rows:=aaJ rfl rfl
theorem YJ(s n z parts):dA C env rows (.cP s n z parts) k=bf (o6 C env (Sh.ar n s).sub parts (List.replicate n z)) λl=>k (.sl s rows.length [] 0 n true) (rows++[some ⟨s,l⟩]):=aaJ rfl rfl
theorem o_load(s x):dA C env rows (.load s x) k=bf (ev C env x) fun
  | .ptr s' r p=>s'=s/\bf (live rows r) λrow=>bf (cF row.els p) λd=>k d rows
  | .b5 d=>d.fits s=true/\k d rows
  | .nk m t r p off=>s= .ar m t/\bf (elems rows (.sl t r p off m false)) λl=>l.length=m/\k (.agg s l) rows
  | _=>False:=aaJ rfl rfl
theorem o_store(s x v):dA C env rows (.store s x v) k=bf (ev C env x) fun
  | .ptr s' r p => bf (ev C env v) λd => d.fits s = true /\ s' = s /\ bf (live rows r) λrow => bf (lO row.els p d) λels =>
    k (.cB []) (rows.set r (some ⟨row.sh,els⟩))
  | _=>False:=aaJ rfl rfl
theorem o_nilc(x):dA C env rows (.nt x) k=bf (ev C env x) fun
  | .ptr s r p=>k (.ptr s r p) rows
  | .b5 d=>k (.b5 d) rows
  | _=>False:=aaJ rfl rfl
theorem o_faddr(s x i):dA C env rows (.b7 s x i) k=bf (ev C env x) fun
  | .ptr s' r p=>s'=s/\bf (s.sub i) λe=>k (.ptr e r (p++[i])) rows
  | .b5 (.agg s' l)=>s'=s/\bf (l[i]?) λd=>k (.b5 d) rows
  | _=>False:=aaJ rfl rfl
theorem o_field(s x i):dA C env rows (.field s x i) k=bf (ev C env x) fun
  | .agg s' l=>s'=s/\bf (l[i]?) λd=>k d rows
  | _=>False:=aaJ rfl rfl
theorem YK(m s x i):dA C env rows (.wg m s x i) k=bf (ev C env x) λdx=>bf (ev C env i) λdi=>bf (Xo di) λn=>match dx with
   | .ptr t r p=>t= .ar m s/\0<=n/\n<(m:Int)/\k (.ptr s r (p++[n.toNat])) rows
   | .b5 (.agg t l)=>t= .ar m s/\0<=n/\n<(m:Int)/\bf (l[n.toNat]?) λd=>k (.b5 d) rows
   | _=>False:=by
 show(bf _ _)=_
 congr 1
 funext dx
 show(bf _ _)=_
 congr 1
 funext d
 cases d with
 |raw v=>cases v<;>rfl
 | _=>rfl
theorem YL(s x i):dA C env rows (.eO s x i) k=bf (ev C env x) λdx=>bf (ev C env i) λdi=>bf (Xo di) λn=>oU s n rows k dx:=by
 show(bf _ _)=_
 congr 1
 funext dx
 show(bf _ _)=_
 congr 1
 funext d
 cases d with
 |raw v=>cases v<;>rfl
 | _=>rfl
theorem q_ixl(s n t l e):oU s n rows k (.cD t l e)=(t=s/\0<=n/\n<(l.length:Int)/\bf (l[n.toNat]?) λd=>k (.b5 d) rows):=aaJ rfl rfl
theorem q_ixs(s n t r p off len e):oU s n rows k (.sl t r p off len e)=(t=s/\0<=n/\n<(len:Int)/\k (.ptr s r (p++[off+n.toNat])) rows):=aaJ rfl rfl
theorem o_index(m s x i):dA C env rows (.index m s x i) k=bf (ev C env x) fun
  | .agg t l=>bf (ev C env i) λdi=>bf (Xo di) λn=>t= .ar m s/\0<=n/\n<(m:Int)/\bf (l[n.toNat]?) λd=>k d rows
  | _=>False:=by
 show(bf _ _)=_
 congr 1
 funext dx
 cases dx with
 |agg t l=>
  show(bf _ _)=_
  congr 1
  funext d
  cases d with
  |raw v=>cases v<;>rfl
  | _=>rfl
 | _=>rfl
theorem YM(x i):dA C env rows (.ue x i) k=bf (ev C env x) fun
  | .raw (.string b)=>bf (ev C env i) λdi=>bf (Xo di) λn=>0<=n/\bf (b.data.toList[n.toNat]?) λc=>k (.raw (u8 c.toBitVec)) rows
  | _=>False:=by
 show(bf _ _)=_
 congr 1
 funext dx
 cases dx with
 | raw v => cases v with
  |string b=>
   show(bf _ _)=_
   congr 1
   funext d
   cases d with
   |raw v=>cases v<;>rfl
   | _=>rfl
  | _=>rfl
 | _=>rfl
theorem YN(m s x lo hi mx):dA C env rows (.zE m s x lo hi mx) k=bf (ev C env x) λdx=>bf (IV C env lo) λl=>bf (IV C env hi) λh=>bf (IV C env mx) λc=>
   mD (l.getD 0) (h.getD m) (c.getD m) m λl h c=>match dx with
    | .ptr t r p=>t= .ar m s/\k (.sl s r p l (h-l) (h==c)) rows
    | .b5 (.agg t els)=>t= .ar m s/\k (.cD s ((els.drop l).take (h-l)) (h==c)) rows
    | _=>False:=aaJ rfl rfl
theorem o_slice(s x lo hi mx):dA C env rows (.slice s x lo hi mx) k=bf (ev C env x) λdx=>bf (IV C env lo) λl=>bf (IV C env hi) λh=>bf (IV C env mx) λc=>GX s l h c rows k dx:=aaJ rfl rfl
theorem o_mks(s bytes z len cap):dA C env rows (.mks s bytes z len cap) k=bf (ev C env len) λdl=>bf (Xo dl) λl=>bf (ev C env cap) λdc=>bf (Xo dc) λc=>0<=l/\l<=c/\c*bytes<=(most:Int)/\c<=(most:Int)/\
     k (.sl s rows.length [] 0 l.toNat (decide (l=c))) (rows++[some ⟨s,List.replicate l.toNat z⟩]):=by
 show(bf _ _)=_
 congr 1
 funext d
 cases d with
 | raw v => cases v with
  |int kk l=>
   show(bf _ _)=_
   congr 1
   funext d
   cases d with
   |raw v=>cases v<;>rfl
   | _=>rfl
  | _=>rfl
 | _=>rfl
theorem o_ext(x i):dA C env rows (.ext x i) k=bf (ev C env x) fun
  | .cB l=>bf (l[i]?) λd=>k d rows
  | _=>False:=aaJ rfl rfl
theorem o_len(x):dA C env rows (.len x) k=bf (ev C env x) λd=>bf (dP d) λn=>k (.raw (it n)) rows:=aaJ rfl rfl
theorem YO(x):dA C env rows (.zF x) k=bf (ev C env x) fun
  | .raw (.string b)=>k (.raw (it b.size)) rows
  | _=>False:=aaJ rfl rfl
theorem YP(s bytes a b):dA C env rows (.append s bytes a b) k=bf (ev C env a) λda=>bf (ev C env b) λdb=>bf (rk rows s db) λnews=>(∀k,dP db=some k->news.length=k)/\wj rows s bytes da news k:=aaJ rfl rfl
theorem Vo(s bytes z a n):dA C env rows (.uf s bytes z a n) k=bf (ev C env a) λda=>bf (ev C env n) λdn=>bf (Xo dn) λm=>0<=m/\wj rows s bytes da (List.replicate m.toNat z) k:=by
 show(bf _ _)=_
 congr 1
 funext dx
 show(bf _ _)=_
 congr 1
 funext d
 cases d with
 |raw v=>cases v<;>rfl
 | _=>rfl
theorem o_copy(s a b):dA C env rows (.copy s a b) k=bf (ev C env a) λda=>bf (ev C env b) λdb=>bf (rk rows s db) λsrc=>(∀k,dP db=some k->src.length=k)/\ou rows s da src k:=aaJ rfl rfl
theorem YQ(mx l):dA C env rows (.wh mx l) k=bf (MY C env l) λds=>bf (AM mx ds) λr=>k (.raw (.int r.1 r.2)) rows:=aaJ rfl rfl
theorem mm_c(mx n l):AM mx (.raw (it n)::l)=(nS mx .i64 n l).map λm=>(IntKind.i64,m):=by
 simp only[AM,it]
 cases nS mx .i64 n l<;>rfl
theorem mf_n(mx kd n):nS mx kd n []=some n:=aaJ rfl rfl
theorem mf_c(mx n m l):nS mx .i64 n (.raw (it m)::l)=nS mx .i64 (bif mx then max n m else min n m) l:=by simp[nS,it]
theorem fold_it(n):Value.int .i64 n=it n:=aaJ rfl rfl
theorem o_b2s(x):dA C env rows (.XE x) k=bf (ev C env x) λd=>fh (.leaf v5) d=true/\bf (elems rows d) λl=>bf (dP d) λn=>l.length=n/\bf (dC toByte l) λbs=>k (.raw (.string ⟨bs.toArray⟩)) rows:=aaJ rfl rfl
theorem o_s2b(x):dA C env rows (.s2b x) k=bf (ev C env x) fun
  | .raw (.string b)=>k (.cD (.leaf v5) (ofBytes b) false) rows
  | _=>False:=aaJ rfl rfl
theorem o_call(f args):dA C env rows (.call f args) k=bf (MY C env args) λds=>kFn C rows f k (C.fn f) ds:=by simp only[<-Tr];exact aaJ rfl rfl
theorem q_fns(f A ds):kFn C rows f k (some A) ds=aK A rows k ds:=aaJ rfl rfl
theorem q_fnn(f ds):kFn C rows f k none ds=bf (C.Nb f) λA=>A ds rows k:=aaJ rfl rfl
theorem q_frq(f):C.Nb f=(C.dO f).or ((C.P1 f).map Na):=by unfold aX.Nb;cases C.dO f<;>rfl
theorem q_qfr(f):C.quiet.dO f=none:=aaJ rfl rfl
theorem q_qfq(f):C.quiet.P1 f=C.P1 f:=aaJ rfl rfl
theorem q_ors(A:j9)(o:Option j9):(some A:Option j9).or o=some A:=aaJ rfl rfl
theorem q_orn(o:Option j9):(none:Option j9).or o=o:=by cases o<;>rfl
theorem q_qrn(q ds)(K:D->Rows->Prop):Na q ds rows K=bf (q ds rows) λr=>K r.1 (rows++r.2):=aaJ rfl rfl
theorem o_callv(fs x args):dA C env rows (.pS fs x args) k=bf (ev C env x) fun
  | .raw (.func (.func f) c1 c2)=>c1=#[]/\c2=#[]/\KU f fs=true/\bf (MY C env args) λds=>kFn C rows f k (C.fn f) ds
  | .Ed f s r p=>KU f fs=true/\bf (MY C env args) λds=>kFn C rows f k (C.fn f) (ds++[.ptr s r p])
  | _=>False:=by simp only[<-Tr];exact aaJ rfl rfl
theorem o_eqnil(neg x y):dA C env rows (.yU neg x y) k=bf (ev C env x) λdx=>bf (ev C env y) λdy=>bf (GW dx dy) λb=>k (.raw (.bool (bif neg then !b else b))) rows:=by
 show bf _ _=_
 congr 1
 funext dx
 show bf _ _=_
 congr 1
 funext dy
 cases dy with
 | raw v => cases v with
  | pointer ad => cases ad with
   | none => cases dx with
    |raw v=>cases v with
     |pointer ad=>cases ad<;>cases neg<;>rfl
     | _=>rfl
    | _=>cases neg<;>rfl
   | some _ => cases dx with
    |raw v=>cases v with
     |pointer ad=>cases ad<;>rfl
     | _=>rfl
    | _=>rfl
  | _ => cases dx with
    |raw v=>cases v with
     |pointer ad=>cases ad<;>rfl
     | _=>rfl
    | _=>rfl
 | _ => cases dx with
  |raw v=>cases v with
   |pointer ad=>cases ad<;>rfl
   | _=>rfl
  | _=>rfl
theorem nb_nn:GW (.raw (.pointer none)) (.raw (.pointer none))=some true:=aaJ rfl rfl
theorem nb_pn(s r p):GW (.ptr s r p) (.raw (.pointer none))=some false:=aaJ rfl rfl
theorem nb_cn(d):GW (.b5 d) (.raw (.pointer none))=some false:=aaJ rfl rfl
theorem o_eqsn(neg x y):dA C env rows (.M8 neg x y) k=bf (ev C env x) λdx=>bf (ev C env y) fun
  | .raw (.slice none 0 0)=>match dx with
   | .raw (.slice none 0 0)=>k (.raw (.bool (!neg))) rows
   | .cD _ l _=>(l.length=0->k (.raw (.bool (!neg))) rows)/\k (.raw (.bool neg)) rows
   | .sl _ _ _ _ len _=>(len=0->k (.raw (.bool (!neg))) rows)/\k (.raw (.bool neg)) rows
   | _=>False
  | _=>False:=aaJ rfl rfl
theorem o_s2a(n s x):dA C env rows (.s2a n s x) k=bf (ev C env x) fun
  | .sl t r p off len _=>t=s/\n<=len/\0<n/\k (.nk n s r p off) rows
  | .cD t l _=>t=s/\n<=l.length/\0<n/\k (.b5 (.agg (.ar n s) (l.take n))) rows
  | _=>False:=aaJ rfl rfl
theorem o_frzb(s x):dA C env rows (.PZ s x) k=bf (ev C env x) fun
  | .sl t r [] off len ex=>t=s/\0<len/\bf (live rows r) λrow=>off+len<=row.els.length/\k (.sl s r [] off len ex) rows
  | _=>False:=aaJ rfl rfl
theorem o_mnz(x):dA C env rows (.mnz x) k=bf (ev C env x) λdx=>bf (asIt dx) λn=>0<=n/\n<=(most:Int)/\∀l:List (BitVec 8),l.length=n.toNat->k (.sl L8 rows.length [] 0 n.toNat false) (rows++[some ⟨L8,l.map λb=> .raw (u8 b)⟩]):=by
 show(bf _ _)=_
 congr 1
 funext d
 cases d with
 |raw v=>cases v with
  |int kd n=>cases kd<;>simp only[asIt,bf,reduceCtorEq,false_and,aa9]<;>rfl
  | _=>rfl
 | _=>rfl
theorem asIt_it(n):asIt (.raw (it n))=some n:=aaJ rfl rfl
theorem o_mkm(ks vs):dA C env rows (.mkm ks vs) k=k (.mp rows.length) (rows++[some ⟨pV ks vs,[]⟩]):=aaJ rfl rfl
theorem o_mset(ks vs m x v):dA C env rows (.pU ks vs m x v) k=bf (ev C env m) λdm=>bf (asMp dm) λr=>bf (ev C env x) λkd=>bf (ev C env v) λdv=>kd.fits ks=true/\dv.fits vs=true/\bf (live rows r) λrow=>row.sh=pV ks vs/\
     k (.cB []) (rows.set r (some ⟨row.sh,.agg (pV ks vs) [kd,dv]::row.els⟩)):=by show(bf _ _)=_;congr 1;funext d;cases d<;>rfl
theorem o_mget(ks vs ok z m x):dA C env rows (.M9 ks vs ok z m x) k=bf (ev C env m) λdm=>bf (ev C env x) λkd=>kd.fits ks=true/\bf (Ga rows (pV ks vs) dm) λels=>bf (yV kd els) λo=>k (mres vs ok z o) rows:=aaJ rfl rfl
theorem mr_mp(r):asMp (.mp r)=some r:=aaJ rfl rfl
theorem me_mp(rows s r):Ga rows s (.mp r)=(live rows r).bind λrow=>bif row.sh==s then some row.els else none:=by simp only[Ga];cases live rows r<;>rfl
theorem mr_ft(vs z v):mres vs false z (some v)=dV vs v:=aaJ rfl rfl
theorem o_clr(s z x):dA C env rows (.clr s z x) k=bf (ev C env x) λd=>bf (dP d) λn=>ou rows s d (List.replicate n z) λ_ rows=>k (.cB []) rows:=aaJ rfl rfl
theorem o_mkf(f x):dA C env rows (.mkf f x) k=bf (ev C env x) fun
  | .ptr s r p=>k (.Ed f s r p) rows
  | _=>False:=aaJ rfl rfl
theorem o_idxb(x y):dA C env rows (.P0 x y) k=bf (ev C env x) fun
  | .raw (.string b)=>bf (ev C env y) fun
   | .raw (.int .u8 c)=>k (.raw (.int .i64 (UM c b))) rows
   | _=>False
  | _=>False:=aaJ rfl rfl
theorem q_pk(a b t):Tq C a b env rows k (.raw (.bool t))=bf (pkO t (ev C env a) (ev C env b)) λd=>k d rows:=aaJ rfl rfl
theorem q_pkt(x y):pkO true x y=x:=aaJ rfl rfl
theorem q_pkf(x y):pkO false x y=y:=aaJ rfl rfl
theorem q_f0(sub z):o6 C env sub [] z=some z:=aaJ rfl rfl
theorem q_f1(sub z i x r):o6 C env sub ((i,x)::r) z=match ev C env x with
  |some d=>match sub i with
   |some e=>bif d.fits e then o6 C env sub r (z.set i d)else none
   |none=>none
  |none=>none:=aaJ rfl rfl
theorem mT(np jU ac ds):aG C np jU ac ds rows k=(ds.length=np/\aw C ac (I9 jU k) (oT 0 ds) rows):=aaJ rfl rfl
theorem wH(m s l):view rows (m+1) (.agg s l)=bif s.pure then some (.agg s l)else(dC (view rows m) l).map λl'=> .agg s l':=by
 simp only[view]
 cases s.pure with
 |true=>rfl
 |false=>cases dC (view rows m) l<;>rfl
theorem YR(m s r p):view rows (m+1) (.ptr s r p)=(live rows r).bind λrow=>(cF row.els p).bind λd=>bif s.pure then some (.b5 d)else(view rows m d).map .b5:=by
 simp only[view]
 cases live rows r with
 |none=>rfl
 | some row =>
  simp only[abf]
  cases cF row.els p with
  |none=>rfl
  |some d=>
   simp only[abf]
   cases s.pure with
   |true=>rfl
   |false=>cases view rows m d<;>rfl
theorem vw_sl(m s r p o n e):view rows (m+1) (.sl s r p o n e)=(elems rows (.sl s r p o n e)).bind λl=>bif !(l.length==n)then none else bif s.pure then some (.cD s l e)else(dC (view rows m) l).map λl'=> .cD s l' e:=by
 simp only[view]
 cases elems rows (.sl s r p o n e)with
 |none=>rfl
 | some l =>
  simp only[abf]
  cases(l.length==n)with
  |false=>rfl
  |true=>
   cases s.pure with
   |true=>rfl
   |false=>cases dC (view rows m) l<;>rfl
end eqs
theorem gL{C:aX}{a:aA}{Q:fE->Env->Rows->Prop}{env:Env}{rows:Rows}(n:Nat)(h:jO (aw C a) Q n env rows):JZ C a Q env rows:=⟨n,h⟩
def kLp(C:aX)(a:aA)(Q:fE->Env->Rows->Prop)(n:Nat):fE->Env->Rows->Prop:=λe env rows=>match e with
 | .normal=>jO (aw C a) Q n env rows
 |e=>Q e env rows
theorem lp_s(C:aX)(a:aA)(Q:fE->Env->Rows->Prop)(n:Nat)(env:Env)(rows:Rows):jO (aw C a) Q (n+1) env rows=aw C a (kLp C a Q n) env rows:=aaJ rfl rfl
theorem lp_n(C:aX)(a:aA)(Q:fE->Env->Rows->Prop)(n:Nat)(env:Env)(rows:Rows):kLp C a Q n .normal env rows=jO (aw C a) Q n env rows:=aaJ rfl rfl
theorem lp_r(C:aX)(a:aA)(Q:fE->Env->Rows->Prop)(n:Nat)(env:Env)(rows:Rows):kLp C a Q n .ret env rows=Q .ret env rows:=aaJ rfl rfl
theorem lp_e(C:aX)(a:aA)(Q:fE->Env->Rows->Prop)(n i:Nat)(env:Env)(rows:Rows):kLp C a Q n (.exit i) env rows=Q (.exit i) env rows:=aaJ rfl rfl
theorem asI_it(n:Int):Xo (.raw (it n))=some n:=aaJ rfl rfl
theorem asI_u8(x:BitVec 8):Xo (.raw (u8 x))=some (x.toNat:Int):=aaJ rfl rfl
theorem isSc_u8(x:BitVec 8):nQ (u8 x) (.int .u8)=true:=aaJ rfl rfl
theorem asI_u32(x:BitVec 32):Xo (.raw (u32 x))=some (x.toNat:Int):=aaJ rfl rfl
theorem YS(x:BitVec 32):nQ (u32 x) (.int .u32)=true:=aaJ rfl rfl
theorem asI_u64(x:BitVec 64):Xo (.raw (u64 x))=some (x.toNat:Int):=aaJ rfl rfl
theorem YT(x:BitVec 64):nQ (u64 x) (.int .u64)=true:=aaJ rfl rfl
theorem isSc_it(n:Int):nQ (it n) (.int .i64)=true:=aaJ rfl rfl
theorem isSc_b(b:Bool):nQ (.bool b) .bool=true:=aaJ rfl rfl
theorem isSc_s(b:ByteArray):nQ (.string b) .str=true:=aaJ rfl rfl
theorem YU(v:Value)(k:Sc):D.fits (.raw v) (.leaf k)=nQ v k:=aaJ rfl rfl
theorem YV(s:Sh)(l:List D)(t:Sh):D.fits (.agg s l) t=(s==t):=by cases t<;>rfl
theorem sh_beq(s:Sh):(s==s)=true:=by simp
theorem YW(s l e):D.fits (.cD s l e) .ref=true:=aaJ rfl rfl
theorem fits_sl(s r p o n e):D.fits (.sl s r p o n e) .ref=true:=aaJ rfl rfl
theorem YX(s r p):D.fits (.ptr s r p) .ref=true:=aaJ rfl rfl
theorem fits_mp(r):D.fits (.mp r) .ref=true:=aaJ rfl rfl
theorem Vp:D.fits (.raw (.slice none 0 0)) .ref=true:=aaJ rfl rfl
theorem cv_8_32(x:BitVec 8):IZ .u32 (.raw (u8 x))=some (u32 (x.setWidth 32)):=by simp only[IZ,u8,u32,IntKind.wrap,IntKind.signed,IntKind.bits];have:=x.isLt;simp;try omega
theorem cv_8_it(x:BitVec 8):IZ .i64 (.raw (u8 x))=some (it x.toNat):=by simp only[IZ,u8,it,IntKind.wrap,IntKind.signed,IntKind.bits];have:=x.isLt;simp;try omega
theorem cv_it_8(n:Int):IZ .u8 (.raw (it n))=some (u8 (BitVec.ofInt 8 n)):=by simp only[IZ,u8,it,IntKind.wrap,IntKind.signed,IntKind.bits];simp[acJ];try omega
theorem YY(x:BitVec 16):IZ .i64 (.raw (u16 x))=some (it x.toNat):=by simp only[IZ,u16,it,IntKind.wrap,IntKind.signed,IntKind.bits];have:=x.isLt;simp;try omega
theorem cv_32_8(x:BitVec 32):IZ .u8 (.raw (u32 x))=some (u8 (x.setWidth 8)):=by simp only[IZ,u32,u8,IntKind.wrap,IntKind.signed,IntKind.bits];have:=x.isLt;simp
theorem YZ(x:BitVec 32):IZ .u64 (.raw (u32 x))=some (u64 (x.setWidth 64)):=by simp only[IZ,u32,u64,IntKind.wrap,IntKind.signed,IntKind.bits];have:=x.isLt;simp;try omega
theorem Y0(x:BitVec 32):IZ .i64 (.raw (u32 x))=some (it x.toNat):=by simp only[IZ,u32,it,IntKind.wrap,IntKind.signed,IntKind.bits];have:=x.isLt;simp;try omega
theorem Y1(n:Int):IZ .u32 (.raw (it n))=some (u32 (BitVec.ofInt 32 n)):=by simp only[IZ,u32,it,IntKind.wrap,IntKind.signed,IntKind.bits];simp[acJ];try omega
theorem cv_64_8(x:BitVec 64):IZ .u8 (.raw (u64 x))=some (u8 (x.setWidth 8)):=by simp only[IZ,u64,u8,IntKind.wrap,IntKind.signed,IntKind.bits];have:=x.isLt;simp
theorem Y2(x:BitVec 64):IZ .i64 (.raw (u64 x))=some (it (wz x.toNat)):=aaJ rfl rfl
theorem Y3(n:Int):IZ .u64 (.raw (it n))=some (u64 (BitVec.ofInt 64 n)):=by simp only[IZ,u64,it,IntKind.wrap,IntKind.signed,IntKind.bits];simp[acJ];try omega
theorem bc{p q:Prop}[Decidable p][Decidable q]{i:IntKind}{k:D->Prop}(h:p↔q):(i=i/\k (.raw (.bool (decide p))))=k (.raw (.bool (decide q))):=by rw[aec,aa9,aek.2 h]
theorem bcn{p q:Prop}[Decidable p][Decidable q]{i:IntKind}{k:D->Prop}(h:p↔q):(i=i/\k (.raw (.bool (!decide p))))=k (.raw (.bool (!decide q))):=by rw[aec,aa9,aek.2 h]
theorem nz{w:Nat}(y:BitVec w):((y.toNat:Int)≠0)=(y≠0):=propext ⟨λh h2=>h (by rw[h2];rfl),λh h2=>h (aaS (by simp;omega))⟩
theorem eqn{w:Nat}{x y:BitVec w}:(x.toNat:Int)=y.toNat↔x=y:=⟨λh=>aaS (by omega),λh=>by rw[h]⟩
theorem ze_n(k:Nat):oT k []=[]:=aaJ rfl rfl
theorem ze_c(k:Nat)(d:D)(ds:List D):oT k (d::ds)=(k,d)::oT (k+1) ds:=aaJ rfl rfl
section bins
variable (k:D->Prop)
theorem wr8(n:Int):IntKind.u8.wrap n=n %256:=by
 unfold IntKind.wrap
 rw[aaE (by simp[IntKind.signed])]
 rfl
theorem lt8(x:BitVec 8):(x.toNat:Int)<256:=by have:=x.isLt;omega
theorem of8(x:BitVec 8):BitVec.ofInt IntKind.u8.bits (x.toNat:Int)=x:=by rw[abp];exact(adF (m:=8) (x:=x)).trans (adG _)
theorem id8(x:BitVec 8):((x.toNat:Int)) %256=x.toNat:=adx (by omega) (lt8 x)
theorem ba8{n:Int}{z:BitVec 8}{k:D->Prop}(h:n %256=(z.toNat:Int)):(IntKind.u8=IntKind.u8/\k (.raw (.int .u8 (IntKind.u8.wrap n))))=k (.raw (u8 z)):=by rw[aec,aa9,wr8,h];rfl
theorem b_sub8(x y:BitVec 8):cz .sub (u8 x) (u8 y) k=k (.raw (u8 (x-y))):=ba8 (by have h1:=x.isLt;have h2:=y.isLt;rw[adU];omega)
theorem b_and8(x y:BitVec 8):cz .and (u8 x) (u8 y) k=k (.raw (u8 (x&&&y))):=ba8 (by rw[of8,of8];exact id8 _)
theorem b_or8(x y:BitVec 8):cz .or (u8 x) (u8 y) k=k (.raw (u8 (x|||y))):=ba8 (by rw[of8,of8];exact id8 _)
theorem b_xor8(x y:BitVec 8):cz .xor (u8 x) (u8 y) k=k (.raw (u8 (x^^^y))):=ba8 (by rw[of8,of8];exact id8 _)
theorem Vq(x y:BitVec 8):cz .andNot (u8 x) (u8 y) k=k (.raw (u8 (x&&&~~~y))):=ba8 (by rw[of8,of8];exact id8 _)
theorem b_rem8(x y:BitVec 8):cz .rem (u8 x) (u8 y) k=(y≠0/\k (.raw (u8 (x %y)))):=by
 have h0:=nz y
 have h:((x.toNat:Int).tmod y.toNat)=((x %y).toNat:Int):=by
  rw[acm,abY (by omega),<-acK]
 show(IntKind.u8=IntKind.u8/\(y.toNat:Int)≠0/\k (.raw (.int .u8 _)))=_
 rw[aec,aa9,h,h0]
 rfl
theorem b_eql8(x y:BitVec 8):cz .eql (u8 x) (u8 y) k=k (.raw (.bool (decide (x=y)))):=bc eqn
theorem b_neq8(x y:BitVec 8):cz .neq (u8 x) (u8 y) k=k (.raw (.bool (!decide (x=y)))):=bcn eqn
theorem Vr(x:BitVec 8)(c:Nat):((x.toNat:Int)*2^(min c 8)) %256=((x<<<c).toNat:Int):=by
 rw[acE,acL]
 rcases adM c 8 with h|h
 ·rw[abK h,acK,ads,aex];rfl
 ·rw[acw h]
  have h1:2^c=2^(c-8)*2^8:=by rw[<-aeC];congr 1;omega
  rw[h1,<-aeE,ael]
  exact aed _ _
theorem Vs(x:BitVec 8)(c:Nat):(x.toNat:Int).fdiv (2^(min c 8))=((x>>>c).toNat:Int):=by
 rw[ab3,abG]
 have hp:((2:Int)^(min c 8))=((2^(min c 8):Nat):Int):=by norm_cast
 rw[hp,acd _ (abj _),<-adV]
 congr 1
 rcases adM c 8 with h|h
 ·rw[abK h]
 ·rw[acw h]
  have h0:=x.isLt
  rw[ac0 h0,ac0 (ab2 h0 (abT (by omega) h))]
theorem Vt(x:BitVec 8)(n:Int):cz .shl (u8 x) (it n) k=(0<=n/\k (.raw (u8 (x<<<n.toNat)))):=by
 show(0<=n/\k (.raw (.int .u8 (IntKind.u8.wrap ((x.toNat:Int)*2^(min n.toNat 8))))))=_
 rw[wr8,Vr]
 rfl
theorem Vu(x:BitVec 8)(n:Int):cz .shr (u8 x) (it n) k=(0<=n/\k (.raw (u8 (x>>>n.toNat)))):=by
 show(0<=n/\k (.raw (.int .u8 ((x.toNat:Int).fdiv (2^(min n.toNat 8))))))=_
 rw[Vs]
 rfl
theorem Y4(n:Int):IntKind.u32.wrap n=n %4294967296:=by
 unfold IntKind.wrap
 rw[aaE (by simp[IntKind.signed])]
 rfl
theorem lt32(x:BitVec 32):(x.toNat:Int)<4294967296:=by have:=x.isLt;omega
theorem Ll(x:BitVec 32):BitVec.ofInt IntKind.u32.bits (x.toNat:Int)=x:=by rw[abp];exact(adF (m:=32) (x:=x)).trans (adG _)
theorem id32(x:BitVec 32):((x.toNat:Int)) %4294967296=x.toNat:=adx (by omega) (lt32 x)
theorem Qv{n:Int}{z:BitVec 32}{k:D->Prop}(h:n %4294967296=(z.toNat:Int)):(IntKind.u32=IntKind.u32/\k (.raw (.int .u32 (IntKind.u32.wrap n))))=k (.raw (u32 z)):=by rw[aec,aa9,Y4,h];rfl
theorem b_add32(x y:BitVec 32):cz .add (u32 x) (u32 y) k=k (.raw (u32 (x+y))):=Qv (by rw[ach];omega)
theorem b_sub32(x y:BitVec 32):cz .sub (u32 x) (u32 y) k=k (.raw (u32 (x-y))):=Qv (by have h1:=x.isLt;have h2:=y.isLt;rw[adU];omega)
theorem b_mul32(x y:BitVec 32):cz .mul (u32 x) (u32 y) k=k (.raw (u32 (x*y))):=Qv (by rw[BitVec.toNat_mul,acK,ads];rfl)
theorem b_and32(x y:BitVec 32):cz .and (u32 x) (u32 y) k=k (.raw (u32 (x&&&y))):=Qv (by rw[Ll,Ll];exact id32 _)
theorem b_or32(x y:BitVec 32):cz .or (u32 x) (u32 y) k=k (.raw (u32 (x|||y))):=Qv (by rw[Ll,Ll];exact id32 _)
theorem b_xor32(x y:BitVec 32):cz .xor (u32 x) (u32 y) k=k (.raw (u32 (x^^^y))):=Qv (by rw[Ll,Ll];exact id32 _)
theorem Qw(x y:BitVec 32):cz .andNot (u32 x) (u32 y) k=k (.raw (u32 (x&&&~~~y))):=Qv (by rw[Ll,Ll];exact id32 _)
theorem b_rem32(x y:BitVec 32):cz .rem (u32 x) (u32 y) k=(y≠0/\k (.raw (u32 (x %y)))):=by
 have h0:=nz y
 have h:((x.toNat:Int).tmod y.toNat)=((x %y).toNat:Int):=by
  rw[acm,abY (by omega),<-acK]
 show(IntKind.u32=IntKind.u32/\(y.toNat:Int)≠0/\k (.raw (.int .u32 _)))=_
 rw[aec,aa9,h,h0]
 rfl
theorem b_eql32(x y:BitVec 32):cz .eql (u32 x) (u32 y) k=k (.raw (.bool (decide (x=y)))):=bc eqn
theorem b_neq32(x y:BitVec 32):cz .neq (u32 x) (u32 y) k=k (.raw (.bool (!decide (x=y)))):=bcn eqn
theorem b_lss32(x y:BitVec 32):cz .lss (u32 x) (u32 y) k=k (.raw (.bool (decide (x<y)))):=bc (by rw[ab0];omega)
theorem b_leq32(x y:BitVec 32):cz .leq (u32 x) (u32 y) k=k (.raw (.bool (decide (x<=y)))):=bc (by rw[abJ];omega)
theorem b_gtr32(x y:BitVec 32):cz .gtr (u32 x) (u32 y) k=k (.raw (.bool (decide (y<x)))):=bc (by rw[ab0];omega)
theorem b_geq32(x y:BitVec 32):cz .geq (u32 x) (u32 y) k=k (.raw (.bool (decide (y<=x)))):=bc (by rw[abJ];omega)
theorem GY(x:BitVec 32)(c:Nat):((x.toNat:Int)*2^(min c 32)) %4294967296=((x<<<c).toNat:Int):=by
 rw[acE,acL]
 rcases adM c 32 with h|h
 ·rw[abK h,acK,ads,aex];rfl
 ·rw[acw h]
  have h1:2^c=2^(c-32)*2^32:=by rw[<-aeC];congr 1;omega
  rw[h1,<-aeE,ael]
  exact aed _ _
theorem GZ(x:BitVec 32)(c:Nat):(x.toNat:Int).fdiv (2^(min c 32))=((x>>>c).toNat:Int):=by
 rw[ab3,abG]
 have hp:((2:Int)^(min c 32))=((2^(min c 32):Nat):Int):=by norm_cast
 rw[hp,acd _ (abj _),<-adV]
 congr 1
 rcases adM c 32 with h|h
 ·rw[abK h]
 ·rw[acw h]
  have h0:=x.isLt
  rw[ac0 h0,ac0 (ab2 h0 (abT (by omega) h))]
theorem Qx(x:BitVec 32)(n:Int):cz .shl (u32 x) (it n) k=(0<=n/\k (.raw (u32 (x<<<n.toNat)))):=by
 show(0<=n/\k (.raw (.int .u32 (IntKind.u32.wrap ((x.toNat:Int)*2^(min n.toNat 32))))))=_
 rw[Y4,GY]
 rfl
theorem Qy(x:BitVec 32)(n:Int):cz .shr (u32 x) (it n) k=(0<=n/\k (.raw (u32 (x>>>n.toNat)))):=by
 show(0<=n/\k (.raw (.int .u32 ((x.toNat:Int).fdiv (2^(min n.toNat 32))))))=_
 rw[GZ]
 rfl
theorem Qz(x:BitVec 32)(n:BitVec 64):cz .shl (u32 x) (u64 n) k=k (.raw (u32 (x<<<n.toNat))):=by
 show(0<=(n.toNat:Int)/\k (.raw (.int .u32 (IntKind.u32.wrap ((x.toNat:Int)*2^(min (n.toNat:Int).toNat 32))))))=_
 rw[Y4,aaK,GY,aaz (by omega:0<=(n.toNat:Int)),aa9]
 rfl
theorem QA(x:BitVec 32)(n:BitVec 64):cz .shr (u32 x) (u64 n) k=k (.raw (u32 (x>>>n.toNat))):=by
 show(0<=(n.toNat:Int)/\k (.raw (.int .u32 ((x.toNat:Int).fdiv (2^(min (n.toNat:Int).toNat 32))))))=_
 rw[aaK,GZ,aaz (by omega:0<=(n.toNat:Int)),aa9]
 rfl
theorem u_not32(x:BitVec 32):aUn .xor (u32 x) k=k (.raw (u32 (~~~x))):=by
 show k (.raw (.int .u32 (IntKind.u32.wrap (BitVec.ofInt IntKind.u32.bits (if IntKind.u32.signed then-1 else IntKind.u32.max)^^^BitVec.ofInt IntKind.u32.bits (x.toNat:Int)).toNat)))=_
 have h:BitVec.ofInt IntKind.u32.bits (if IntKind.u32.signed then-1 else IntKind.u32.max)=BitVec.allOnes 32:=by kernel_rfl
 rw[h,Ll,Y4]
 have h2:(BitVec.allOnes 32^^^x)= ~~~x:=BitVec.allOnes_xor
 show k (.raw (.int .u32 (((BitVec.allOnes 32^^^x).toNat:Int) %4294967296)))=_
 rw[h2,id32]
 rfl
theorem wr64(n:Int):IntKind.u64.wrap n=n %18446744073709551616:=by
 unfold IntKind.wrap
 rw[aaE (by simp[IntKind.signed])]
 rfl
theorem lt64(x:BitVec 64):(x.toNat:Int)<18446744073709551616:=by have:=x.isLt;omega
theorem of64(x:BitVec 64):BitVec.ofInt IntKind.u64.bits (x.toNat:Int)=x:=by rw[abp];exact(adF (m:=64) (x:=x)).trans (adG _)
theorem id64(x:BitVec 64):((x.toNat:Int)) %18446744073709551616=x.toNat:=adx (by omega) (lt64 x)
theorem ba64{n:Int}{z:BitVec 64}{k:D->Prop}(h:n %18446744073709551616=(z.toNat:Int)):(IntKind.u64=IntKind.u64/\k (.raw (.int .u64 (IntKind.u64.wrap n))))=k (.raw (u64 z)):=by rw[aec,aa9,wr64,h];rfl
theorem b_add64(x y:BitVec 64):cz .add (u64 x) (u64 y) k=k (.raw (u64 (x+y))):=ba64 (by rw[ach];omega)
theorem b_sub64(x y:BitVec 64):cz .sub (u64 x) (u64 y) k=k (.raw (u64 (x-y))):=ba64 (by have h1:=x.isLt;have h2:=y.isLt;rw[adU];omega)
theorem b_mul64(x y:BitVec 64):cz .mul (u64 x) (u64 y) k=k (.raw (u64 (x*y))):=ba64 (by rw[BitVec.toNat_mul,acK,ads];rfl)
theorem b_and64(x y:BitVec 64):cz .and (u64 x) (u64 y) k=k (.raw (u64 (x&&&y))):=ba64 (by rw[of64,of64];exact id64 _)
theorem b_rem64(x y:BitVec 64):cz .rem (u64 x) (u64 y) k=(y≠0/\k (.raw (u64 (x %y)))):=by
 have h0:=nz y
 have h:((x.toNat:Int).tmod y.toNat)=((x %y).toNat:Int):=by
  rw[acm,abY (by omega),<-acK]
 show(IntKind.u64=IntKind.u64/\(y.toNat:Int)≠0/\k (.raw (.int .u64 _)))=_
 rw[aec,aa9,h,h0]
 rfl
theorem b_gtr64(x y:BitVec 64):cz .gtr (u64 x) (u64 y) k=k (.raw (.bool (decide (y<x)))):=bc (by rw[ab0];omega)
theorem b_geq64(x y:BitVec 64):cz .geq (u64 x) (u64 y) k=k (.raw (.bool (decide (y<=x)))):=bc (by rw[abJ];omega)
theorem QB(x:BitVec 64)(c:Nat):((x.toNat:Int)*2^(min c 64)) %18446744073709551616=((x<<<c).toNat:Int):=by
 rw[acE,acL]
 rcases adM c 64 with h|h
 ·rw[abK h,acK,ads,aex];rfl
 ·rw[acw h]
  have h1:2^c=2^(c-64)*2^64:=by rw[<-aeC];congr 1;omega
  rw[h1,<-aeE,ael]
  exact aed _ _
theorem G1(x:BitVec 64)(c:Nat):(x.toNat:Int).fdiv (2^(min c 64))=((x>>>c).toNat:Int):=by
 rw[ab3,abG]
 have hp:((2:Int)^(min c 64))=((2^(min c 64):Nat):Int):=by norm_cast
 rw[hp,acd _ (abj _),<-adV]
 congr 1
 rcases adM c 64 with h|h
 ·rw[abK h]
 ·rw[acw h]
  have h0:=x.isLt
  rw[ac0 h0,ac0 (ab2 h0 (abT (by omega) h))]
theorem QC(x:BitVec 64)(n:Int):cz .shr (u64 x) (it n) k=(0<=n/\k (.raw (u64 (x>>>n.toNat)))):=by
 show(0<=n/\k (.raw (.int .u64 ((x.toNat:Int).fdiv (2^(min n.toNat 64))))))=_
 rw[G1]
 rfl
theorem QD(x:BitVec 64)(n:BitVec 64):cz .shl (u64 x) (u64 n) k=k (.raw (u64 (x<<<n.toNat))):=by
 show(0<=(n.toNat:Int)/\k (.raw (.int .u64 (IntKind.u64.wrap ((x.toNat:Int)*2^(min (n.toNat:Int).toNat 64))))))=_
 rw[wr64,aaK,QB,aaz (by omega:0<=(n.toNat:Int)),aa9]
 rfl
theorem QE(x:BitVec 64)(n:BitVec 64):cz .shr (u64 x) (u64 n) k=k (.raw (u64 (x>>>n.toNat))):=by
 show(0<=(n.toNat:Int)/\k (.raw (.int .u64 ((x.toNat:Int).fdiv (2^(min (n.toNat:Int).toNat 64))))))=_
 rw[aaK,G1,aaz (by omega:0<=(n.toNat:Int)),aa9]
 rfl
theorem b_addi(a b:Int):cz .add (it a) (it b) k=k (.raw (it (wz (a+b)))):=by simp only[cz,it,aa9];rfl
theorem b_subi(a b:Int):cz .sub (it a) (it b) k=k (.raw (it (wz (a-b)))):=by simp only[cz,it,aa9];rfl
theorem b_muli(a b:Int):cz .mul (it a) (it b) k=k (.raw (it (wz (a*b)))):=by simp only[cz,it,aa9];rfl
theorem b_quoi(a b:Int):cz .quo (it a) (it b) k=(b≠0/\k (.raw (it (wz (a.tdiv b))))):=by simp only[cz,it,aa9];rfl
theorem b_remi(a b:Int):cz .rem (it a) (it b) k=(b≠0/\k (.raw (it (a.tmod b)))):=by simp only[cz,it,aa9]
theorem b_eqli(a b:Int):cz .eql (it a) (it b) k=k (.raw (.bool (decide (a=b)))):=by simp only[cz,it,aa9]
theorem b_lssi(a b:Int):cz .lss (it a) (it b) k=k (.raw (.bool (decide (a<b)))):=by simp only[cz,it,aa9]
theorem b_leqi(a b:Int):cz .leq (it a) (it b) k=k (.raw (.bool (decide (a<=b)))):=by simp only[cz,it,aa9]
theorem b_gtri(a b:Int):cz .gtr (it a) (it b) k=k (.raw (.bool (decide (b<a)))):=by simp only[cz,it,aa9]
theorem b_geqi(a b:Int):cz .geq (it a) (it b) k=k (.raw (.bool (decide (b<=a)))):=by simp only[cz,it,aa9]
theorem b_neqi(a b:Int):cz .neq (it a) (it b) k=k (.raw (.bool (!decide (a=b)))):=by simp only[cz,it,aa9]
theorem b_eqls(a b:ByteArray):cz .eql (.string a) (.string b) k=k (.raw (.bool (a.toList==b.toList))):=aaJ rfl rfl
theorem u_notb(b:Bool):aUn .not (.bool b) k=k (.raw (.bool !b)):=aaJ rfl rfl
end bins
end Go.Am
namespace Go.Am
def Vv(R:Env->Rows->Prop)(Q:fE->Env->Rows->Prop):fE->Env->Rows->Prop:=λe env rows=>match e with
 | .normal=>R env rows
 |e=>Q e env rows
theorem q_rn(R Q env rows):Vv R Q .normal env rows=R env rows:=aaJ rfl rfl
theorem q_rr(R Q env rows):Vv R Q .ret env rows=Q .ret env rows:=aaJ rfl rfl
theorem q_re(R Q i env rows):Vv R Q (.exit i) env rows=Q (.exit i) env rows:=aaJ rfl rfl
theorem s5{C:aX}{a:aA}{Q:fE->Env->Rows->Prop}(I:Nat->Env->Rows->Prop)
  (h:∀k env rows,I k env rows->∀R:Env->Rows->Prop,(∀k' env' aa,k'<k->I k' env' aa->R env' aa)->aw C a (Vv R Q) env rows)(k:Nat){env:Env}{rows:Rows}(h0:I k env rows):JZ C a Q env rows:=by
 have key:∀n k env rows,k<n->I k env rows->jO (aw C a) Q n env rows:=by
  intro n
  induction n with
  |zero=>intro k env rows hk;omega
  |succ n ih=>
   intro k env rows hk hi
   exact h k env rows hi (jO (aw C a) Q n) (λk' env' aa Ns hi'=>ih k' env' aa (by omega) hi')
 exact⟨k+1,key (k+1) k env rows (by omega) h0⟩
def has(env:Env):Env->Prop
 |[]=>True
 |(t,d)::l=>look env t=some d/\has env l
def jg(s:Sh)(d:D)(rows:Rows)(els:List D):Prop:=
 (els=[]/\d= .raw (.slice none 0 0))\/∃r ex,d= .sl s r [] 0 els.length ex/\live rows r=some ⟨s,els⟩
theorem jg.nil{s:Sh}{rows:Rows}:jg s (.raw (.slice none 0 0)) rows []:= .inl ⟨rfl,rfl⟩
theorem jg.elems{s:Sh}{d:D}{rows:Rows}{els:List D}(h:jg s d rows els):elems rows d=some els:=by
 rcases h with⟨rfl,rfl⟩|⟨r,ex,rfl,hl⟩
 ·rfl
 ·simp only[Am.elems,hl];simp
theorem jg.dP{s:Sh}{d:D}{rows:Rows}{els:List D}(h:jg s d rows els):dP d=some els.length:=by
 rcases h with⟨rfl,rfl⟩|⟨r,ex,rfl,hl⟩
 ·rfl
 ·rfl
theorem jg.fh{s:Sh}{d:D}{rows:Rows}{els:List D}(h:jg s d rows els):fh s d=true:=by
 rcases h with⟨rfl,rfl⟩|⟨r,ex,rfl,hl⟩
 ·rfl
 ·simp[Am.fh]
theorem wI{rows:Rows}{x:Row}:live (rows++[some x]) rows.length=some x:=by simp[live]
theorem bG{rows more:Rows}{r:Nat}{x:Row}(h:live rows r=some x):live (rows++more) r=some x:=by
 have:=a9 h
 unfold live at h⊢
 rw[aaQ this];exact h
theorem jG{s:Sh}{d:D}{rows:Rows}{els news:List D}{bytes:Nat}{k:D->Rows->Prop}(h:jg s d rows els)(hb:(els.length+news.length)*bytes<=most)(JH:els.length+news.length<=most)
  (hk:∀d' aa,jg s d' aa (els++news)->(∀r x,live rows r=some x->(∀ex,d≠ .sl s r [] 0 els.length ex)->live aa r=some x)->aa.length=rows.length+1->(∃r ex,d'= .sl s r [] 0 (els++news).length ex)->k d' aa):wj rows s bytes d news k:=by
 unfold wj
 rw[h.elems,h.dP]
 refine⟨h.fh,rfl,hb,JH,?_⟩
 have e:els.length+news.length=(els++news).length:=by simp
 rcases h with⟨rfl,rfl⟩|⟨r,ex,rfl,hl⟩
 ·simp only[isNil,adN,aaY,kill,e]
  refine hk _ _ (.inr ⟨rows.length,false,rfl,wI⟩) (λr x hx _=>bG hx) (by simp) ⟨_,_,rfl⟩
 ·simp only[isNil,owned,acA,aaY,kill,e]
  have h1:(rows.set r none).length=rows.length:=by simp
  refine hk _ _ (.inr ⟨rows.length,false,rfl,by rw[<-h1];exact wI⟩) (λr' x hx hne=>?_) (by simp) ⟨_,_,rfl⟩
  have hr:r≠r':=λe=>hne ex (by rw[e])
  refine bG ?_
  unfold live at hx⊢
  rw[abU hr];exact hx
def bs(l:List (BitVec 8)):List D:=l.map λb=> .raw (u8 b)
def rd8:D->Option (BitVec 8)
 | .raw (.int .u8 n)=>bif decide (0<=n)&&decide (n<256)then some (BitVec.ofInt 8 n)else none
 | _=>none
def qc:D->Option (BitVec 32)
 | .raw (.int .u32 n)=>bif decide (0<=n)&&decide (n<4294967296)then some (BitVec.ofInt 32 n)else none
 | _=>none
def QF:D->Option (BitVec 64)
 | .raw (.int .u64 n)=>bif decide (0<=n)&&decide (n<18446744073709551616)then some (BitVec.ofInt 64 n)else none
 | _=>none
def s6:D->Option Int
 | .raw (.int .i64 n)=>some n
 | _=>none
theorem Lm(x:BitVec 8):rd8 (.raw (u8 x))=some x:=by
 have:=lt8 x
 simp only[rd8,u8]
 rw[show(decide (0<=(x.toNat:Int))&&decide ((x.toNat:Int)<256))=true by simp;omega]
 simp
theorem gA(x:BitVec 32):qc (.raw (u32 x))=some x:=by
 have:=lt32 x
 simp only[qc,u32]
 rw[show(decide (0<=(x.toNat:Int))&&decide ((x.toNat:Int)<4294967296))=true by simp;omega]
 simp
theorem FP(x:BitVec 64):QF (.raw (u64 x))=some x:=by
 have:=lt64 x
 simp only[QF,u64]
 rw[show(decide (0<=(x.toNat:Int))&&decide ((x.toNat:Int)<18446744073709551616))=true by simp;omega]
 simp
theorem oV(n:Int):s6 (.raw (it n))=some n:=rfl
theorem G2{d:D}{x:BitVec 8}(h:rd8 d=some x):d= .raw (u8 x):=by
 unfold rd8 at h
 split at h
 ·rename_i n
  cases hb:(decide (0<=n)&&decide (n<256))with
  |false=>rw[hb]at h;cases h
  |true=>
   rw[hb]at h
   simp only[aaY,abS]at h
   simp only[aav,aaA]at hb
   subst h
   unfold u8
   rw[acJ]
   congr 2
   simp;omega
 ·cases h
theorem eh{d:D}{x:BitVec 32}(h:qc d=some x):d= .raw (u32 x):=by
 unfold qc at h
 split at h
 ·rename_i n
  cases hb:(decide (0<=n)&&decide (n<4294967296))with
  |false=>rw[hb]at h;cases h
  |true=>
   rw[hb]at h
   simp only[aaY,abS]at h
   simp only[aav,aaA]at hb
   subst h
   unfold u32
   rw[acJ]
   congr 2
   simp;omega
 ·cases h
theorem s7{d:D}{x:BitVec 64}(h:QF d=some x):d= .raw (u64 x):=by
 unfold QF at h
 split at h
 ·rename_i n
  cases hb:(decide (0<=n)&&decide (n<18446744073709551616))with
  |false=>rw[hb]at h;cases h
  |true=>
   rw[hb]at h
   simp only[aaY,abS]at h
   simp only[aav,aaA]at hb
   subst h
   unfold u64
   rw[acJ]
   congr 2
   simp;omega
 ·cases h
theorem bK{d:D}{x:Int}(h:s6 d=some x):d= .raw (it x):=by
 unfold s6 at h
 split at h
 ·cases h;rfl
 ·cases h
def dq:D->Option (List (BitVec 8))
 | .raw (.slice none 0 0)=>some []
 | .cD s l _=>bif s== .leaf v5 then dC rd8 l else none
 | _=>none
theorem mapO_bs(l:List (BitVec 8)):dC rd8 (bs l)=some l:=by
 induction l with
 |nil=>rfl
 |cons x l ih=>
  simp only[bs,abw,dC,Lm]
  have:dC rd8 (List.map (λb=>D.raw (u8 b)) l)=some l:=ih
  rw[this]
theorem NW:∀{l:List D} {l':List (BitVec 8)},dC rd8 l=some l'->l=bs l'
 |[],l',h=>by simp[dC]at h;subst h;rfl
 | x :: l, l', h => by
  simp only[dC]at h
  split at h
  ·rename_i y hy
   split at h
   ·rename_i ys hys
    cases h
    rw[G2 hy,NW hys]
    rfl
   ·cases h
  ·cases h
theorem wJ(l:List (BitVec 8))(e:Bool):dq (.cD (.leaf v5) (bs l) e)=some l:=by
 simp only[dq]
 rw[show((Sh.leaf v5)== .leaf v5)=true by simp,aaY,mapO_bs]
def eB(d:D)(l:List (BitVec 8)):Prop:=(d= .raw (.slice none 0 0)/\l=[])\/∃e,d= .cD (.leaf v5) (bs l) e
theorem fx{d:D}{l:List (BitVec 8)}(h:dq d=some l):eB d l:=by
 unfold dq at h
 split at h
 ·cases h;exact .inl ⟨rfl,rfl⟩
 ·rename_i s l0 e
  cases hb:(s== .leaf v5)with
  |false=>rw[hb]at h;cases h
  |true=>
   rw[hb]at h
   have:s= .leaf v5:=by simpa using hb
   subst this
   exact .inr ⟨e,by rw[NW h]⟩
 ·cases h
theorem eB.elems{d:D}{l:List (BitVec 8)}{rows:Rows}(h:eB d l):elems rows d=some (bs l):=by
 rcases h with⟨rfl,rfl⟩|⟨e,rfl⟩<;>rfl
theorem eB.dP{d:D}{l:List (BitVec 8)}(h:eB d l):dP d=some l.length:=by
 rcases h with⟨rfl,rfl⟩|⟨e,rfl⟩
 ·rfl
 ·simp[Am.dP,bs]
theorem eB.fh{d:D}{l:List (BitVec 8)}(h:eB d l):fh (.leaf v5) d=true:=by
 rcases h with⟨rfl,rfl⟩|⟨e,rfl⟩
 ·rfl
 ·simp[Am.fh]
theorem eB.rd{d:D}{l:List (BitVec 8)}(h:eB d l):dq d=some l:=by
 rcases h with⟨rfl,rfl⟩|⟨e,rfl⟩
 ·rfl
 ·exact wJ l e
theorem gP{d:D}{l:List (BitVec 8)}{n:Int}{rows:Rows}{k:D->Rows->Prop}(h:eB d l)(hn:0<=n/\n<l.length):oU (.leaf (.int .u8)) n rows k d=k (.b5 (.raw (u8 (l.getD n.toNat 0#8)))) rows:=by
 rcases h with⟨rfl,rfl⟩|⟨e,rfl⟩
 ·simp at hn;omega
 ·have h1:n.toNat<l.length:=by omega
  have h2:(bs l)[n.toNat]?=some (.raw (u8 (l.getD n.toNat 0#8))):=by simp[bs,h1]
  simp only[oU,h2,bf]
  simp[bs,hn]
theorem aB(l:List (BitVec 8)):(bs l).length=l.length:=by simp[bs]
theorem oW(a b:List (BitVec 8)):bs a++bs b=bs (a++b):=by simp[bs]
theorem nX{l:List (BitVec 8)}{i:Nat}(h:i<l.length):(bs l)[i]?=some (.raw (u8 (l.getD i 0#8))):=by
 simp[bs,h]
theorem Ts(l:List (BitVec 8))(x:BitVec 8):bs (l++[x])=bs l++[.raw (u8 x)]:=by simp[bs]
theorem qd{α:Type}{a:List α}{i:Nat}{z:α}(h:i<a.length):a.take (i+1)=a.take i++[a.getD i z]:=by
 rw[aa2 h];simp[h]
theorem fH(l:List (BitVec 8))(n:Nat):(bs l).drop n=bs (l.drop n):=by simp[bs]
theorem eK(l:List (BitVec 8))(n:Nat):(bs l).take n=bs (l.take n):=by simp[bs]
theorem jg.view{d:D}{rows:Rows}{l:List (BitVec 8)}(h:jg (.leaf v5) d rows (bs l)):∃d',view rows 9 d=some d'/\eB d' l:=by
 rcases h with⟨h1,rfl⟩|⟨r,ex,rfl,hl⟩
 ·have:l=[]:=by cases l<;>simp_all[bs]
  subst this
  exact⟨_,rfl,.inl ⟨rfl,rfl⟩⟩
 ·refine⟨.cD (.leaf v5) (bs l) ex,?_,.inr ⟨ex,rfl⟩⟩
  simp only[Am.view]
  have:Am.elems rows (.sl (.leaf v5) r [] 0 (bs l).length ex)=some (bs l):=by simp only[Am.elems,hl];simp
  rw[this]
  simp[Sh.pure]
theorem aH{P:Program}{G:Nat->Option D}{f:FuncId}{A:j9}{F:Fn}(hA:aP G P f A)
  (h:∀ds rows r,F ds rows=some r->rows=[]/\A ds [] (λd rows=>yE rows d r.1 r.2)):aP G P f (Fn.run F):=by
 intro ds rows K hr ρ w T args hrows lS yA hargs hG
 unfold Fn.run at hr
 obtain⟨r,hr,hk⟩:=ak hr
 obtain⟨rfl,h2⟩:=h ds rows r hr
 have Y5:∀r,ρ r=none:=λr=>lS r (by simp)
 exact(hA _ [] _ h2 ρ w T args hrows lS yA hargs hG).mono λe w' hb=>Dc.Li Y5 hb λd rows hx=>⟨_,_,hx,hk⟩
def mc{α:Type}(rd:D->Option α)(pre:α->Bool)(out:α->D×Rows):Fn
 |[d],[]=>match rd d with
  |some x=>bif pre x then some (out x)else none
  |none=>none
 | _,_=>none
def ux{α β:Type}(rd:D->Option α)(rd':D->Option β)(pre:α->β->Bool)(out:α->β->D×Rows):Fn
 |[d,e],[]=>match rd d,rd' e with
  |some x,some y=>bif pre x y then some (out x y)else none
  | _,_=>none
 | _,_=>none
theorem aZ{α:Type}{rd:D->Option α}{pre:α->Bool}{out:α->D×Rows}{ds:List D}{rows:Rows}{r:D×Rows}(h:mc rd pre out ds rows=some r):
  ∃d x,ds=[d]/\rows=[]/\rd d=some x/\pre x=true/\r=out x:=by
 unfold mc at h
 split at h
 ·rename_i d
  split at h
  ·rename_i x hx
   cases hp:pre x with
   |false=>rw[hp]at h;cases h
   |true=>rw[hp]at h;cases h;exact⟨d,x,rfl,rfl,hx,hp,rfl⟩
  ·cases h
 ·cases h
theorem dE{α β:Type}{rd:D->Option α}{rd':D->Option β}{pre:α->β->Bool}{out:α->β->D×Rows}{ds:List D}{rows:Rows}{r:D×Rows}(h:ux rd rd' pre out ds rows=some r):
  ∃d e x y,ds=[d,e]/\rows=[]/\rd d=some x/\rd' e=some y/\pre x y=true/\r=out x y:=by
 unfold ux at h
 split at h
 ·rename_i d e
  split at h
  ·rename_i x y hx hy
   cases hp:pre x y with
   |false=>rw[hp]at h;cases h
   |true=>rw[hp]at h;cases h;exact⟨d,e,x,y,rfl,rfl,hx,hy,hp,rfl⟩
  ·cases h
 ·cases h
theorem eQ{α:Type}{rd:D->Option α}{pre:α->Bool}{out:α->D×Rows}{d:D}{x:α}(h:rd d=some x)(hp:pre x=true):mc rd pre out [d] []=some (out x):=by
 simp[mc,h,hp]
theorem lg{α β:Type}{rd:D->Option α}{rd':D->Option β}{pre:α->β->Bool}{out:α->β->D×Rows}{d e:D}{x:α}{y:β}(h:rd d=some x)(h':rd' e=some y)(hp:pre x y=true):
  ux rd rd' pre out [d,e] []=some (out x y):=by
 simp[ux,h,h',hp]
def eJ(l:List (BitVec 8))(ex:Bool):D×Rows:=(.sl (.leaf v5) 0 [] 0 l.length ex,[some ⟨.leaf v5,bs l⟩])
def bd(rows:Rows)(d:D)(l:List (BitVec 8)):Prop:=(∃d',view rows 9 d=some d'/\eB d' l)/\(aT d=false->eB d l)
theorem eB.to{rows:Rows}{d:D}{l:List (BitVec 8)}(h:eB d l):bd rows d l:=by
 refine⟨?_,λ_=>h⟩
 rcases h with⟨rfl,rfl⟩|⟨e,rfl⟩
 ·exact⟨_,rfl,.inl ⟨rfl,rfl⟩⟩
 ·exact⟨.cD (.leaf v5) (bs l) e,rfl,.inr ⟨e,rfl⟩⟩
theorem jg.to{rows:Rows}{d:D}{l:List (BitVec 8)}(h:jg (.leaf v5) d rows (bs l)):bd rows d l:=by
 refine⟨h.view,λhr=>?_⟩
 rcases h with⟨h1,rfl⟩|⟨r,ex,rfl,hl⟩
 ·have:l=[]:=by cases l<;>simp_all[bs]
  exact .inl ⟨rfl,this⟩
 ·simp[aT]at hr
noncomputable def bE{α:Type}(mk:α->D)(d:D):Option α:=open Classical in if h:∃x,d=mk x then some h.choose else none
theorem aF{α:Type}{mk:α->D}{d:D}{x:α}(h:bE mk d=some x):d=mk x:=by
 unfold bE at h
 split at h
 ·rename_i hh
  cases h
  exact hh.choose_spec
 ·cases h
theorem bA{α:Type}{mk:α->D}(Y6:∀x y,mk x=mk y->x=y)(x:α):bE mk (mk x)=some x:=by
 have h:∃y,mk x=mk y:=⟨x,rfl⟩
 unfold bE
 rw[dif_pos h]
 exact abt some (Y6 _ _ h.choose_spec.symm)
theorem Y7{x y:BitVec 8}:u8 x=u8 y↔x=y:=⟨λh=>by unfold u8 at h;injection h with _ h;exact aaS (by omega),λh=>by rw[h]⟩
theorem A9{x y:BitVec 32}:u32 x=u32 y↔x=y:=⟨λh=>by unfold u32 at h;injection h with _ h;exact aaS (by omega),λh=>by rw[h]⟩
theorem u64_inj{x y:BitVec 64}:u64 x=u64 y↔x=y:=⟨λh=>by unfold u64 at h;injection h with _ h;exact aaS (by omega),λh=>by rw[h]⟩
theorem G3{x y:Int}:it x=it y↔x=y:=⟨λh=>by unfold it at h;injection h,λh=>by rw[h]⟩
theorem bh{A:Fn}{rows:Rows}{k:D->Rows->Prop}{ds:List D}{r:D×Rows}(h:aV ds=false)(hA:A ds []=some r):aK A rows k ds=k (shift rows.length r.1) (rows++ab rows.length r.2):=by
 unfold aK
 rw[h,hA]
 simp[bf]
theorem Ba{A:Fn}{rows:Rows}{k:D->Rows->Prop}{d:D}{r:D×Rows}(hv:∀d',view rows 9 d=some d'->A [d'] []=some r)(hs:∃d',view rows 9 d=some d')(hn:aT d=false->A [d] []=some r)
  (hr:(b8 r.1&&a8 r.2)=true):aK A rows k [d]=k (shift rows.length r.1) (rows++ab rows.length r.2):=by
 obtain⟨d',jP⟩:=hs
 unfold aK
 have h1:aV [d]=aT d:=by simp[aV]
 rw[h1]
 cases hh:aT d with
 |true=>
  simp only[acF,dC,jP,bf,hv d' jP,hr,aa9]
  simp
 |false=>
  simp only[acF,bf,hn hh]
  simp
theorem s9{pre:List (BitVec 8)->Bool}{out:List (BitVec 8)->D×Rows}{rows:Rows}{k:D->Rows->Prop}{d:D}{a:List (BitVec 8)}(h:bd rows d a)(hp:pre a=true)
  (hr:(b8 (out a).1&&a8 (out a).2)=true):aK (mc dq pre out) rows k [d]=k (shift rows.length (out a).1) (rows++ab rows.length (out a).2):=by
 obtain⟨⟨d',jP,hb⟩,hn⟩:=h
 refine Ba (λd2 AF=>?_) ⟨d',jP⟩ (λhh=>eQ (hn hh).rd hp) hr
 rw[jP]at AF
 cases AF
 exact eQ hb.rd hp
theorem Dl{pre:List (BitVec 8)->List (BitVec 8)->Bool}{out:List (BitVec 8)->List (BitVec 8)->D×Rows}{rows:Rows}{k:D->Rows->Prop}{d e:D}{a b:List (BitVec 8)}(h:bd rows d a)(h':bd rows e b)(hp:pre a b=true)
  (hr:(b8 (out a b).1&&a8 (out a b).2)=true):aK (ux dq dq pre out) rows k [d,e]=k (shift rows.length (out a b).1) (rows++ab rows.length (out a b).2):=by
 obtain⟨⟨d',jP,hb⟩,hn⟩:=h
 obtain⟨⟨e',he',Gr⟩,Qj⟩:=h'
 unfold aK
 simp only[dC,jP,he',bf,lg hb.rd Gr.rd hp,hr,aa9]
 cases hh:aV [d,e]with
 |true=>simp
 |false=>
  simp[aV]at hh
  simp only[lg (hn hh.1).rd (Qj hh.2).rd hp]
  simp
theorem jg.push{s:Sh}{d:D}{rows more:Rows}{els:List D}(h:jg s d rows els):jg s d (rows++more) els:=by
 rcases h with⟨h1,rfl⟩|⟨r,ex,rfl,hl⟩
 ·exact .inl ⟨h1,rfl⟩
 ·exact .inr ⟨r,ex,rfl,bG hl⟩
theorem jg.oz{s:Sh}{d:D}{rows:Rows}{els:List D}(h:jg s d rows els):oz d=some d:=by
 rcases h with⟨h1,rfl⟩|⟨r,ex,rfl,hl⟩<;>rfl
theorem eB.oz{d:D}{l:List (BitVec 8)}(h:eB d l):oz d=some d:=by
 rcases h with⟨rfl,h1⟩|⟨ex,rfl⟩<;>rfl
theorem jg.Li{d:D}{rows:Rows}{l:List (BitVec 8)}(h:jg (.leaf v5) d rows (bs l)):yE rows d (eJ l false).1 (eJ l false).2:=by
 rcases h with⟨h1,rfl⟩|⟨r,ex,rfl,hl⟩
 ·have:l=[]:=by cases l<;>simp_all[bs]
  subst this
  exact .YD _
 ·have:(bs l).length=l.length:=by simp[bs]
  rw[this]
  exact .own _ r 0 _ ex false _ hl rfl (λh=>by cases h)
inductive Xq:D->D->Prop where
 |refl (d:D):Xq d d
 |nil (s:Sh) (e:Bool):Xq (.raw (.slice none 0 0)) (.cD s [] e)
theorem Xq.vr{ρ:Pl}{w:World}{T:Nat->Prop}{d d':D}{v:Value}(h:Xq d d')(hv:VR ρ w T d v):VR ρ w T d' v:=by
 cases h with
 |refl=>exact hv
 |nil s e=>
  have:=hv.ofRaw
  subst this
  exact VR.bB (.pq s e none 0 (λ_=>rfl) (λ_=>rfl))
end Go.Am
namespace Go.Am
open Go.Proofs.YtgcejocgnfkciaaGreatDoor.Rows (uptoBulk uptoBulkAll)
def flX(P:Program)(f:TypeId->Option Sh):Nat->List Field->Option Sh
 | _,[]=>some .nil
 | off, x :: l => match f x.type with
  |some a=>bif x.offset==off&&P.cellsOf x.type==a.size then(match flX P f (off+a.size) l with
   |some b=>some (.cons a b)
   |none=>none)else none
  |none=>none
def Ff(P:Program):Nat->TypeId->Option Sh
 |0,_=>none
 | n + 1, t => match P.underlying t with
  |some .bool=>some (.leaf .bool)
  |some (.int k)=>some (.leaf (.int k))
  |some .string=>some (.leaf .str)
  |some (.struct fs)=>match flX P (Ff P n) 0 fs.toList with
   |some s=>bif P.cellsOf t==s.size then some s else none
   |none=>none
  |some (.array m e)=>match Ff P n e with
   |some a=>bif P.cellsOf e==a.size&&P.cellsOf t==m*a.size then some (.ar m a)else none
   |none=>none
  |some (.slice e)=>match Ff P n e with
   |some a=>bif P.cellsOf e==a.size&&Nat.blt 0 a.size then some .ref else none
   |none=>none
  | _=>none
def J0(P:Program):Nat->TypeId->D->Prop
 |0,_,_=>False
 |n+1,t,d=>match P.underlying t with
  |some .bool=>∃b,d= .raw (.bool b)
  |some (.int k)=>∃m,d= .raw (.int k m)/\(Lit.int k m).wf=true
  |some .string=>∃b,d= .raw (.string b)/\b.size<=maxLen
  |some (.struct fs)=>∃s l,flX P (Ff P n) 0 fs.toList=some s/\d= .agg s l/\aW (λ(f:Field) x=>J0 P n f.type x) fs.toList l
  |some (.array m e)=>∃s l,Ff P n e=some s/\d= .agg (.ar m s) l/\l.length=m/\∀x∈l,J0 P n e x
  |some (.slice e)=>d= .raw (.slice none 0 0)\/∃s l,Ff P n e=some s/\d= .cD s l false/\l.length<=maxLen/\∀x∈l,J0 P n e x
  | _=>False
mutual
/-- how many values and letters -/
def me:D->Nat
 | .raw (.string b)=>b.size+1
 | .raw _=>1
 | .cD _ l _=>fY l+1
 | .agg _ l=>fY l+1
 | _=>0
def fY:List D->Nat
 |[]=>0
 |d::l=>me d+fY l
end
theorem QG(a b:List D):fY (a++b)=fY a+fY b:=by
 induction a with
 |nil=>simp[fY]
 |cons x a ih=>simp[fY,ih];omega
theorem Y8{H:Type}(a b:List (DataW H)):uptoBulkAll (a++b)=uptoBulkAll a+uptoBulkAll b:=by
 induction a with
 |nil=>simp[uptoBulkAll]
 |cons x a ih=>simp[uptoBulkAll,ih];omega
def old(w:World):Nat->Prop:=λb=>b<w.heap.size
section
variable {P:Program} {H:Type} {enc:TypeId×Value->H} {w:World} {base:Nat} {spare:Nat->Bool} {held:Bool}
theorem J1(x:DataW H):1<=uptoBulk x:=by
 cases x with
 |lit l=>cases l<;>simp[uptoBulk]
 | _=>simp[uptoBulk]
theorem NX{m n:Nat}{cs:List Value}(ih:∀(t:TypeId) (cs:List Value) (x:DataW H×List MemPlace) (s:Sh),DataW.trod enc P w base spare held m t cs=some x->Ff P n t=some s->∃d,J0 P n t d/\aL s d/\aW (LR fw w (old w)) d.flat cs/\me d<=uptoBulk x.1):
  ∀(fs:List Field) (xs:List (DataW H×List MemPlace)) (off:Nat) (s:Sh),flX P (Ff P n) off fs=some s->xs.length=fs.length->(∀(i:Nat) (f:Field),fs[i]?=some f->DataW.trod enc P w base spare held m f.type ((cs.drop f.offset).take (P.cellsOf f.type))=xs[i]?)->
  ∃l,aW (λ(f:Field) x=>J0 P n f.type x) fs l/\s.isAgg=true/\l.length=s.count/\(∀i e d,s.sub i=some e->l[i]?=some d->aL e d)/\aW (LR fw w (old w)) (au l) ((cs.drop off).take s.size)/\fY l<=uptoBulkAll (xs.map (·.1))
 |[],xs,off,s,h,_,_=>by
  simp[flX]at h;subst h
  exact⟨[],.nil,rfl,rfl,by simp[Sh.sub],by simp[au,Sh.size];exact .nil,by simp[fY]⟩
 |f::fs,[],off,s,h,AG,hx=>by simp at AG
 | f :: fs, x0 :: xs, off, s, h, AG, hx => by
  simp only[flX]at h
  split at h
  ·rename_i a ha
   cases hb:(f.offset==off&&P.cellsOf f.type==a.size)with
   |false=>rw[hb]at h;cases h
   | true =>
    rw[hb]at h
    simp only[aaY]at h
    split at h
    ·rename_i b hbq
     cases h
     simp only[aav,acs]at hb
     have qV:=hx 0 f rfl
     obtain⟨d,hd1,AF,K1,hd4⟩:=ih _ _ _ _ qV ha
     obtain⟨l,g1,g2,g3,g4,g5,g6⟩:=NX ih fs xs (off+a.size) b hbq (by simpa using AG) (λi f' hf'=>by simpa using hx (i+1) f' (by simpa using hf'))
     refine⟨d::l,.cons hd1 g1,g2,by simp[Sh.count,g3],λi e d' hi jP=>?_,?_,by simp only[fY,abw,uptoBulkAll];omega⟩
     ·cases i with
      |zero=>simp[Sh.sub]at hi jP;subst hi;subst jP;exact AF
      |succ i=>exact g4 i e d' (by simpa[Sh.sub]using hi) (by simpa using jP)
     ·simp only[au,Sh.size]
      rw[hb.1,hb.2]at K1
      have:(cs.drop off).take (a.size+b.size)=(cs.drop off).take a.size++((cs.drop (off+a.size)).take b.size):=by
       rw[aeh,aby]
      rw[this]
      exact K1.append g5
    ·cases h
  ·cases h
theorem Ln{m n:Nat}{e:TypeId}{a:Sh}(ih:∀(t:TypeId) (cs:List Value) (x:DataW H×List MemPlace) (s:Sh),DataW.trod enc P w base spare held m t cs=some x->Ff P n t=some s->∃d,J0 P n t d/\aL s d/\aW (LR fw w (old w)) d.flat cs/\me d<=uptoBulk x.1)
  (ha:Ff P n e=some a):∀(k:Nat) (f:Nat->List Value) (g:Nat->DataW H×List MemPlace),(∀i,i<k->DataW.trod enc P w base spare held m e (f i)=some (g i))->
  ∃l,l.length=k/\(∀x∈l,J0 P n e x)/\(∀x∈l,aL a x)/\aW (LR fw w (old w)) (au l) ((List.range k).flatMap f)/\fY l<=uptoBulkAll (((List.range k).map g).map (·.1))
 |0,f,_,_=>⟨[],rfl,by simp,by simp,by simp[au];exact .nil,by simp[fY]⟩
 | k + 1, f, g, h => by
  obtain⟨l,g1,g2,g3,g4,g5⟩:=Ln ih ha k f g (λi hi=>h i (by omega))
  have hx:=h k (by omega)
  obtain⟨d,h1,h2,h3,h4⟩:=ih _ _ _ _ hx ha
  refine⟨l++[d],by simp[g1],?_,?_,?_,by rw[QG,abM,acg,acg,Y8];simp only[fY,abw,adO,uptoBulkAll];omega⟩
  ·intro y hy
   rcases aaU.1 hy with hy|hy
   ·exact g2 y hy
   ·simp at hy;subst hy;exact h1
  ·intro y hy
   rcases aaU.1 hy with hy|hy
   ·exact g3 y hy
   ·simp at hy;subst hy;exact h2
  ·have e1:au (l++[d])=au l++d.flat:=by
    have:∀l:List D,au (l++[d])=au l++d.flat:=by
     intro l
     induction l with
     |nil=>simp[au]
     |cons q l ih=>simp[au,ih]
    exact this l
   rw[e1,abM,ad4]
   exact g4.append (by simpa using h3)
theorem Eu{α:Type}{f:Nat->List α}{c:Nat}:∀(k:Nat),(∀i,i<k->(f i).length=c)->((List.range k).flatMap f).length=k*c/\∀i j,i<k->j<c->((List.range k).flatMap f)[i*c+j]?=(f i)[j]?
 |0,_=>⟨by simp,λi j hi=>by omega⟩
 | k + 1, h => by
  obtain⟨h1,h2⟩:=Eu (f:=f) (c:=c) k (λi hi=>h i (by omega))
  have hk:=h k (by omega)
  rw[abM,ad4]
  have e:List.flatMap f [k]=f k:=by simp
  rw[e]
  refine⟨by rw[aax,h1,hk,acM],λi j hi hj=>?_⟩
  rcases aa1 i k with h3|h3
  ·have:i*c+j<k*c:=by
    have:(i+1)*c<=k*c:=abH c h3
    rw[acM]at this
    omega
   rw[aaQ (by omega)]
   exact h2 i j h3 hj
  ·have:i=k:=by omega
   subst this
   rw[aaT (by omega),h1]
   congr 1
   omega
theorem Dm{a:Addr}{c:Nat}{l:List Value}(h:w.cells? base a c=some l):l.length=c/\∀j,j<c->w.cell? (a.add j)=l[j]?:=by
 unfold World.cells? at h
 split at h
 ·refine⟨by simpa using mapM_some_length h,λj hj=>?_⟩
  exact mapM_some_get h j j (by simp[hj])
 ·cases h
theorem add_add{a:Addr}(h:a.spot=none)(i j:Nat):(a.add i).add j=⟨a.block,a.off+(i+j),none⟩:=by
 obtain⟨b,o,sp⟩:=a
 simp only at h
 subst h
 unfold Addr.add
 by_cases hi:i=0<;>by_cases hj:j=0<;>simp[hi,hj]<;>omega
theorem slice_D{m n:Nat}{t e:TypeId}{cs:List Value}{x:DataW H×List MemPlace}{a:Sh}(ih:∀(t:TypeId) (cs:List Value) (x:DataW H×List MemPlace) (s:Sh),DataW.trod enc P w base spare held m t cs=some x->Ff P n t=some s->∃d,J0 P n t d/\aL s d/\aW (LR fw w (old w)) d.flat cs/\me d<=uptoBulk x.1)
  (ht:P.underlying t=some (.slice e))(h:DataW.trod enc P w base spare held (m+1) t cs=some x)(ha:Ff P n e=some a)(hc:P.cellsOf e=a.size)(h0:0<a.size):
  ∃d v,cs=[v]/\(d= .raw (.slice none 0 0)\/∃s l,Ff P n e=some s/\d= .cD s l false/\l.length<=maxLen/\∀x∈l,J0 P n e x)/\d.eN=true/\LR fw w (old w) d v/\me d<=uptoBulk x.1:=by
 rcases DataW.trod_slice ht h with⟨rfl,rfl⟩|⟨ad,len,cap,elems,rest,m',hm,rfl,rfl,_,hlc,hcm,hel,kg,_⟩
 ·exact⟨_,_,rfl,.inl rfl,rfl,.raw _ rfl,by simp[me,uptoBulk]⟩
 ·have:m=m':=by omega
  subst this
  rw[hc]at kg
  let f:Nat->List Value:=λi=>(w.cells? base (ad.add (i*a.size)) a.size).getD []
  have hf:∀i,i<len->w.cells? base (ad.add (i*a.size)) a.size=some (f i)/\DataW.trod enc P w base spare held m e (f i)=some (elems.getD i (.nil,[])):=by
   intro i hi
   have h1:=kg i hi
   rw[aaw (by omega)]at h1
   cases jF:w.cells? base (ad.add (i*a.size)) a.size with
   |none=>rw[jF]at h1;cases h1
   |some l=>
    rw[jF]at h1
    have:f i=l:=by simp[f,jF]
    rw[this]
    refine⟨rfl,?_⟩
    simp only[abf]at h1
    rw[h1]
    simp[aaD,show i<elems.length by omega]
  obtain⟨l,g1,g2,g3,g4,g5⟩:=Ln ih ha len f _ (λi hi=>(hf i hi).2)
  have hmap:(List.range len).map (λi=>elems.getD i (.nil,[]))=elems:=by
   apply ac1
   ·simp[hel]
   ·intro i h1 h2
    simp[aaD,h2]
  rw[hmap]at g5
  refine⟨.cD a l false,_,rfl,.inr ⟨a,l,ha,rfl,by omega,g2⟩,rfl,?_,by simp only[me,uptoBulk];omega⟩
  have hlens:∀i,i<len->(f i).length=a.size:=λi hi=>(Dm (hf i hi).1).1
  obtain⟨e1,e2⟩:=Eu (f:=f) len hlens
  cases len with
  |zero=>
   have:l=[]:=aaN g1
   subst this
   exact .pq a false (some ad) cap (by simp) (by simp)
  | succ len =>
   have c0:=(Dm (hf 0 (by omega)).1).2 0 h0
   have JE:=hlens 0 (by omega)
   rw[aaw (by omega)]at c0
   simp only[Nat.zero_mul]at c0
   have e0:((ad.add 0).add 0)=ad:=by simp[Addr.add]
   rw[e0]at c0
   have hsp:ad.spot=none:=by
    unfold World.cell? at c0
    split at c0
    ·split at c0
     ·cases c0
     ·rename_i hs;simpa using hs
    ·cases c0
   have hold:old w ad.block:=by
    unfold World.cell? at c0
    split at c0
    ·rename_i hh;exact(aaZ.1 hh).1
    ·cases c0
   have Xh:ad=⟨ad.block,ad.off,none⟩:=by
    obtain⟨b,o,sp⟩:=ad
    simp only at hsp
    subst hsp;rfl
   have key:LR fw w (old w) (.cD a l false) (.slice (some ⟨ad.block,ad.off,none⟩) l.length cap):=by
    refine .cD a l false ad.block ad.off cap (λi=>((List.range (len+1)).flatMap f).getD i undef) g3 hold (λi d hd=>?_) (λi d hd=>?_) (by omega) (by simp)
    ·have hi:i<(au l).length:=cU hd
     rw[g4.len,e1]at hi
     have hq:i/a.size<len+1:=(Nat.div_lt_iff_lt_mul h0).2 hi
     have hr:i %a.size<a.size:=ade _ h0
     have En:i/a.size*a.size+i %a.size=i:=by rw[ado];exact Nat.div_add_mod i a.size
     have c1:=(Dm (hf _ hq).1).2 _ hr
     rw[add_add hsp,En,<-e2 _ _ hq hr,En]at c1
     rw[c1,aaD,aaw (by omega)]
     rfl
    ·have hi:i<(au l).length:=cU hd
     rw[g4.len]at hi
     refine g4.at_ i d _ hd ?_
     rw[aaD,aaw hi]
     rfl
   rw[<-Xh,g1]at key
   exact key
theorem Y9 : ∀ (n fuel : Nat) (t : TypeId) (cs : List Value) (x : DataW H × List MemPlace) (s : Sh), DataW.trod enc P w base spare held fuel t cs = some x -> Ff P n t = some s -> ∃ d, J0 P n t d /\ aL s d /\ aW (LR fw w (old w)) d.flat cs /\ me d <= uptoBulk x.1
 |0,_,_,_,_,_,_,h=>by simp[Ff]at h
 | _+1,0,_,_,_,_,h,_=>by simp[DataW.trod]at h
 | n + 1, m + 1, t, cs, x, s, h, hs => by
  have ih:=Y9 n m
  have h':=h
  simp only[Ff]at hs
  simp only[J0]
  unfold DataW.trod at h
  cases hu:P.underlying t with
  |none=>simp[hu]at hs
  | some u =>
   rw[hu]at h
   simp only[hu]at hs
   cases u with
   |bool=>
    cases hs
    have:∃b,cs=[.bool b]:=by split at h<;>simp_all
    obtain⟨b,rfl⟩:=this
    exact⟨.raw (.bool b),⟨b,rfl⟩,.leaf _ _ rfl,aW.single (.raw _ rfl),by simp only[me];exact J1 _⟩
   |int k=>
    cases hs
    have:∃q,cs=[.int k q]/\(Lit.int k q).wf=true:=by split at h<;>simp_all
    obtain⟨q,rfl,hw⟩:=this
    exact⟨.raw (.int k q),⟨q,rfl,hw⟩,.leaf _ _ (by simp[nQ]),aW.single (.raw _ rfl),by simp only[me];exact J1 _⟩
   |string=>
    cases hs
    obtain⟨b,rfl,rfl,hw⟩:=DataW.trod_string hu h'
    exact⟨.raw (.string b),⟨b,rfl,hw⟩,.leaf _ _ rfl,aW.single (.raw _ rfl),by simp[me,uptoBulk]⟩
   | struct fs =>
    clear h
    simp only at hs
    split at hs
    ·rename_i s' my
     cases hb:(P.cellsOf t==s'.size)with
     |false=>rw[hb]at hs;cases hs
     |true=>
      rw[hb]at hs
      cases hs
      obtain⟨xs,m',hm,rfl,hlen,AG,kg⟩:=DataW.trod_struct hu h'
      have:m=m':=by omega
      subst this
      obtain⟨l,g1,g2,g3,g4,g5,g6⟩:=NX (cs:=cs) ih fs.toList xs 0 s my (by simpa using AG) (λi f hf=>kg i f (by simpa using hf))
      refine⟨.agg s l,⟨s,l,my,rfl,g1⟩,.agg s l g2 g3 g4,?_,by simp only[me,uptoBulk];omega⟩
      have Gr:P.cellsOf t=s.size:=by simpa using hb
      simp only[abu]at g5
      rw[aay (by omega)]at g5
      simpa[D.flat]using g5
    ·cases hs
   | array k e =>
    clear h
    simp only at hs
    split at hs
    ·rename_i a ha
     cases hb:(P.cellsOf e==a.size&&P.cellsOf t==k*a.size)with
     |false=>rw[hb]at hs;cases hs
     | true =>
      rw[hb]at hs
      cases hs
      simp only[aav,acs]at hb
      obtain⟨xs,m',hm,rfl,hlen,AG,kg⟩:=DataW.trod_array hu h'
      have:m=m':=by omega
      subst this
      rw[hb.1]at kg
      obtain⟨l,g1,g2,g3,g4,g5⟩:=Ln ih ha k (λi=>(cs.drop (i*a.size)).take a.size) (λi=>xs.getD i (.nil,[])) (λi hi=>by
       have:=kg i hi
       rw[this]
       simp[aaD,show i<xs.length by omega])
      have hmap:(List.range k).map (λi=>xs.getD i (.nil,[]))=xs:=by
       apply ac1
       ·simp[AG]
       ·intro i h1 h2
        simp[aaD,h2]
      rw[hmap]at g5
      refine⟨.agg (.ar k a) l,⟨a,l,ha,rfl,g1,g2⟩,.agg _ l rfl (by simp[Sh.count,g1]) (λi e' d' hi jP=>?_),?_,by simp only[me,uptoBulk];omega⟩
      ·simp only[Sh.sub]at hi
       split at hi
       ·cases hi;exact g3 d' (bH jP)
       ·cases hi
      ·have e1:(List.range k).flatMap (λi=>(cs.drop (i*a.size)).take a.size)=cs.take (k*a.size):=by
        clear g4 g5 hmap g1 kg AG hlen hb hu h'
        induction k with
        |zero=>simp
        |succ k ihk=>
         rw[abM,ad4,ihk,acM,aeh]
         simp
       rw[e1,aay (by omega)]at g4
       simpa[D.flat]using g4
    ·cases hs
   | slice e =>
    clear h
    simp only at hs
    split at hs
    ·rename_i a ha
     cases hb:(P.cellsOf e==a.size&&Nat.blt 0 a.size)with
     |false=>rw[hb]at hs;cases hs
     |true=>
      rw[hb]at hs
      cases hs
      simp only[aav,acs]at hb
      obtain⟨d,v,rfl,h1,h2,h3,h4⟩:=slice_D ih hu h' ha hb.1 (adT.mp hb.2)
      exact⟨d,h1,.ref d h2,by rw[b9 h2];exact aW.single h3,h4⟩
    ·cases hs
   | _=>cases hs
end
end Go.Am
namespace Go.Am
variable {P:Program} {H:Type} {enc:TypeId×Value->H} {w:World} {base:Nat} {spare:Nat->Bool} {held:Bool}
theorem Vw{s t:Sh}{l:List D}(h:aL s (.agg t l)):s.isAgg=true:=by
 cases h with
 |ref _ h=>simp[D.eN]at h
 |agg s l h1 _ _=>exact h1
theorem arg_D{r:Reach}{b0 n fuel:Nat}{t:TypeId}{v:Value}{x:DataW H×List MemPlace}{s:Sh}(hw:Value.okWide P w r b0 t v)(h:DataW.trod enc P w base spare held fuel t v.cells.toList=some x)(hs:Ff P n t=some s):
  ∃d,J0 P n t d/\VR fw w (old w) d v/\me d<=Go.Proofs.YtgcejocgnfkciaaGreatDoor.Rows.uptoBulk x.1:=by
 obtain⟨d,h1,h2,h3,h4⟩:=Y9 n fuel t _ x s h hs
 refine⟨d,h1,?_,h4⟩
 cases n with
 |zero=>exact h1.elim
 | succ n =>
  simp only[J0]at h1
  unfold Value.okWide at hw
  have one:d.eN=true->v.oneCell'=true->VR fw w (old w) d v:=by
   intro hl hv
   rw[b9 hl,xZ hv]at h3
   exact VR.bB h3.head
  have agg:(∃cs,v= .agg cs/\cs.size=P.cellsOf t/\Row.okWide P w r b0 t cs)->(∃s l,d= .agg s l)->VR fw w (old w) d v:=by
   rintro⟨cs,rfl,-⟩ ⟨s',l,rfl⟩
   exact VR.yZ (qU.Nk h2 (Vw h2) (by simpa[Value.cells]using h3))
  cases hu:P.underlying t with
  |none=>simp[hu]at h1
  | some u =>
   simp only[hu]at h1 hw
   cases u with
   |struct fs=>
    obtain⟨s',l,_,hd,_⟩:=h1
    exact agg hw ⟨s',l,hd⟩
   |array k e=>
    obtain⟨s',l,_,hd,_⟩:=h1
    exact agg hw ⟨_,l,hd⟩
   |bool=>
    obtain⟨b,rfl⟩:=h1
    refine one rfl ?_
    simp only[Cell.okWide,Cell.ok,hu]at hw
    cases v<;>simp_all[Value.oneCell']
   |int k=>
    obtain⟨b,rfl,_⟩:=h1
    refine one rfl ?_
    simp only[Cell.okWide,Cell.ok,hu]at hw
    cases v<;>simp_all[Value.oneCell']
   |string=>
    obtain⟨b,rfl,_⟩:=h1
    refine one rfl ?_
    simp only[Cell.okWide,Cell.ok,hu]at hw
    cases v<;>simp_all[Value.oneCell']
   |slice e=>
    refine one (by rcases h1 with rfl|⟨_,_,_,rfl,_⟩<;>rfl) ?_
    simp only[Cell.okWide,Cell.ok,hu]at hw
    cases v<;>simp_all[Value.oneCell']
   | _=>exact h1.elim
end Go.Am
namespace Go.Am
open Go.ChangeShapes Go.WideShapes Go.ChangeAt Go.RowKit
theorem Step.below{ρ ρ':Pl}{T T':Nat->Prop}{aa:Rows}{w w':World}(h:Step ρ T [] w ρ' T' aa w'):Below w.heap.size w w':=
 ⟨h.os,h.tape,h.output,h.size,λk hk=>h.keep k hk (by intro r row L h1;simp[live]at h1)⟩
section
variable {H:Type} {enc:TypeId×Value->H} {P:Program}
theorem QI{f:Func}{s:ChangeSpec}{apart fresh handsOn again:Bool}{W W':World}{args:Array Value}{v:Value}{ds gs:List (DataW H)}{before pa pv:List MemPlace}
  (hW:DataW.Whole enc P f.params.toList s.vars apart W args.toList ds gs before)
  (hres:∀(b:Nat) (sp:Nat->Bool) (hd:Bool),DataW.TrodAll enc P W' b sp hd f.resultTypes.toList (v.resultList f.resultTypes.size) (s.fn H (ds++gs)).results [])
  (hargs:∀sp:Nat->Bool,(∀p∈before,sp p.block=true)->DataW.TrodAll enc P W' 0 sp true f.params.toList args.toList (s.fn H (ds++gs)).args pa)
  (hvars:∀sp:Nat->Bool,(∀p∈before,sp p.block=true)->DataW.TrodVars enc P W' sp s.vars (s.fn H (ds++gs)).vars pv)
  (hps:before=pa++pv)(hb:Below W.heap.size W W')
  (hok:∀(j:Nat) (t:TypeId) (r:Value),f.resultTypes[j]?=some t->(v.resultList f.resultTypes.size)[j]?=some r->Value.okWide P W' .any 0 t r):
  s.post enc P f apart fresh handsOn again W args v W':=by
 have hlt:∀p∈before,p.block<W.heap.size:=λp hp=>hW.lt p hp
 have hold:∀p∈before,(λb=>decide (b<W.heap.size)) p.block=true:=λp hp=>by simpa using hlt p hp
 refine⟨ds,gs,before,[],pa,pv,hW,hres _ _ _,hargs _ hold,hvars _ hold,World.keptBut_mono (λp hp=>⟨hp,?_⟩) (hb.frame (· ∈before)),λ_=>?_⟩
 ·rw[hps,aaU]at hp
  exact Or.inr hp
 ·obtain⟨_,_,_,_,_,hz,hn⟩:=hW
  refine⟨hok,_,_,([]++pa)++pv,⟨[]++pa,pv,trodAll_append (hargs _ (λ_ _=>rfl)) (hres _ _ _),hvars _ (λ_ _=>rfl),rfl,?_,?_⟩,?_⟩
  ·intro b off hp
   have hin:MemPlace.cell b off∈before:=by rw[hps];simpa using hp
   rw[hb.frozen (hlt _ hin)]
   exact hz b off hin
  ·intro ha
   have:=hn ha
   rw[hps]at this
   simpa using this
  ·intro p hp _
   rw[hps]
   simpa using hp
theorem Za{n:Nat}{base:Nat}{W:World}:∀{ts:List TypeId} {vs:List Value} {ds:List (DataW H)} {p:List MemPlace},DataW.TrodAll enc P W 0 (λ_=>true) true ts vs ds p->
  (∀(j:Nat) t v,ts[j]?=some t->vs[j]?=some v->Value.okWide P W .any base t v)->(∀t∈ts,(Ff P n t).isSome=true)->
  ∃dd,aW (λt d=>J0 P n t d) ts dd/\aW (VR fw W (old W)) dd vs/\fY dd<=Go.Proofs.YtgcejocgnfkciaaGreatDoor.Rows.uptoBulkAll ds
 |[],vs,ds,p,h,_,_=>by
  obtain⟨rfl,rfl,rfl⟩:=trodAll_nil h
  exact⟨[],.nil,.nil,by simp[fY]⟩
 |t::ts,vs,ds,p,h,hv,ht=>by
  obtain⟨v,vs1,d,ds1,a,b,rfl,rfl,rfl,h1,h2⟩:=trodAll_cons h
  obtain⟨fuel,hf⟩:=h1
  obtain⟨s,hs⟩:=aeg.1 (ht t (by simp))
  obtain⟨d',g1,g2,g3⟩:=arg_D (hv 0 t v rfl rfl) hf hs
  obtain⟨dd,q1,q2,q3⟩:=Za h2 (λj t' v' h3 h4=>hv (j+1) t' v' (by simpa using h3) (by simpa using h4)) (λt' h3=>ht t' (by simp[h3]))
  exact⟨d'::dd,.cons g1 q1,.cons g2 q2,by simp only[fY,Go.Proofs.YtgcejocgnfkciaaGreatDoor.Rows.uptoBulkAll]at*;omega⟩
theorem J2{W W':World}(hl:laidOutB P=true)(hb:Below W.heap.size W W'){sp:Nat->Bool}:∀{ts:List TypeId} {vs:List Value} {ds:List (DataW H)} {p:List MemPlace},DataW.TrodAll enc P W 0 (λ_=>true) true ts vs ds p->
  (∀t∈ts,P.readableRec t=true/\t<P.types.size)->(∀x∈p,x.block<W.heap.size)->(∀x∈p,sp x.block=true)->DataW.TrodAll enc P W' 0 sp true ts vs ds p
 |[],vs,ds,p,h,_,_,_=>by
  obtain⟨rfl,rfl,rfl⟩:=trodAll_nil h
  exact rfl
 |t::ts,vs,ds,p,h,ht,hlt,hs=>by
  obtain⟨v,vs1,d,ds1,a,b,rfl,rfl,rfl,h1,h2⟩:=trodAll_cons h
  obtain⟨r1,r2⟩:=ht t (by simp)
  exact⟨a,b,WideElems.Trod_stays hl r1 r2 h1 (λx hx=>hb.same (hlt x (by simp[hx]))) (λx hx=>hs x (by simp[hx])),J2 hl hb h2 (λt' h3=>ht t' (by simp[h3])) (λx hx=>hlt x (by simp[hx])) (λx hx=>hs x (by simp[hx])),rfl⟩
theorem Lo{f:FuncId}{fn:Func}{spec:ChangeSpec}{A:j9}{n:Nat}{tb:TypeId}{G:Nat->Option D}(hA:aP G P f A)(hl:laidOutB P=true)
  (hty:(fn.params.toList.all λt=>(Ff P n t).isSome&&P.readableRec t&&decide (t<P.types.size))=true)
  (hvars:spec.vars=[])(hres:fn.resultTypes=#[tb])(htb:P.underlying tb=some .bool)
  (hspec:∀ds:List (DataW H),ds.length=fn.params.toList.length->spec.fn H ds={results:=[.lit (.bool true)],args:=ds})
  {W:World}{base:Nat}{args:Array Value}{ds gs:List (DataW H)}{before:List MemPlace}
  (Zb:∀dd,aW (λt d=>J0 P n t d) fn.params.toList dd->fY dd<=Go.Proofs.YtgcejocgnfkciaaGreatDoor.Rows.uptoBulkAll (ds++gs)->∃Xr,aW Xq dd Xr/\A Xr [] (λd _=>d= .raw (.bool true)))
  (hval:∀(j:Nat) t v,fn.params[j]?=some t->args[j]?=some v->Value.okWide P W .any base t v)
  (hW:DataW.Whole enc P fn.params.toList spec.vars false W args.toList ds gs before)(hG:∀g d,G g=some d->LR fw W (old W) (.b5 d) (.pointer (some ⟨g,0,none⟩))):
  Calls P f args W λe W'=>∃v,e= .returned v/\spec.post enc P fn false true false false W args v W':=by
 have hW':=hW
 obtain⟨p,q,Dn,hV,rfl,hfz,CN⟩:=hW
 rw[hvars]at hV
 obtain⟨rfl,rfl⟩:=trodVars_none hV
 have hty':∀t∈fn.params.toList,(Ff P n t).isSome=true/\P.readableRec t=true/\t<P.types.size:=by
  intro t ht
  have:=abc.1 hty t ht
  simp only[aav,aaA]at this
  exact⟨this.1.1,this.1.2,this.2⟩
 obtain⟨dd,g1,g2,g3⟩:=Za (n:=n) (base:=base) Dn (λj t v h1 h2=>hval j t v (by simpa using h1) (by simpa using h2)) (λt ht=>(hty' t ht).1)
 rw[aa4]at Zb
 have hlt:∀x∈p,x.block<W.heap.size:=λx hx=>hW'.lt x (by simp[hx])
 have hlen:ds.length=fn.params.toList.length:=by
  clear Zb g1 g2 g3 dd hW' hfz CN hlt hV hty hty' hval hspec
  generalize fn.params.toList=ts at Dn⊢
  generalize args.toList=vs at Dn
  induction ts generalizing vs ds p with
  |nil=>obtain⟨rfl,rfl,rfl⟩:=trodAll_nil Dn;rfl
  |cons t ts ih=>
   obtain⟨v,vs1,d,ds1,a,b,rfl,rfl,rfl,h1,h2⟩:=trodAll_cons Dn
   simp[ih _ _ h2]
 obtain⟨Xr,n1,n2⟩:=Zb dd g1 g3
 have g2':aW (VR fw W (old W)) Xr args.toList:=by
  refine⟨by rw[<-n1.len];exact g2.len,λi x y hx hy=>?_⟩
  have hi:i<dd.length:=by rw[n1.len];exact cU hx
  have hd:=aaw hi
  exact(n1.at_ i _ x hd hx).vr (g2.at_ i _ y hd hy)
 refine(hA Xr [] _ n2 fw W (old W) args ⟨λr row L h=>by simp[live]at h,λr _ row _ _ _ h=>by simp[live]at h⟩ (λ_ _=>rfl) (λb h=>h) g2' hG).mono λe W' hb=>?_
 obtain⟨v,d,aa,ρ',T',rfl,rfl,-,-,-,hst,hv⟩:=hb.ex
 have lZ:=hv.ofRaw
 subst lZ
 have QJ:=hst.below
 simp only[aa4]at hW'
 refine⟨_,rfl,QI (pa:=p) (pv:=[]) hW' (λ_ _ _=>?_) (λsp hsp=>?_) (λsp _=>?_) (by simp) QJ (ok_one hres rfl (okWide_bool_mk htb _))⟩
 ·rw[aa4,hspec ds hlen,hres]
  exact trodAll_cons_mk (shut_bool htb _) trodAll_mk0
 ·rw[aa4,hspec ds hlen]
  exact J2 hl QJ Dn (λt ht=>(hty' t ht).2) hlt hsp
 ·rw[aa4,hspec ds hlen,hvars]
  exact rfl
end
end Go.Am
namespace Go.Am
open Go.ChangeShapes Go.WideShapes Go.ChangeAt Go.RowKit
mutual
/-- a type whose values are data -/
inductive TK where
 |bool
 |int (k:IntKind)
 |str
 |struct (l:Vx)
 |arr (n:Nat) (t:TK)
 |slice (t:TK)
inductive Vx where
 |nil
 |cons (a:TK) (l:Vx)
end
mutual
def TK.sh:TK->Sh
 | .bool=> .leaf .bool
 | .int k=> .leaf (.int k)
 | .str=> .leaf .str
 | .struct l=>l.sh
 | .arr n t=> .ar n t.sh
 | .slice _=> .ref
def Vx.sh:Vx->Sh
 | .nil=> .nil
 | .cons a l=> .cons a.sh l.sh
end
def Xs(f:TypeId->Option TK):List TypeId->Option Vx
 |[]=>some .nil
 | x :: l => match f x with
  |some a=>match Xs f l with
   |some b=>some (.cons a b)
   |none=>none
  |none=>none
def QK(P:Program):Nat->TypeId->Option TK
 |0,_=>none
 | n + 1, t => match P.underlying t with
  |some .bool=>some .bool
  |some (.int k)=>some (.int k)
  |some .string=>some .str
  |some (.struct fs)=>match Xs (QK P n) (fs.toList.map (·.type))with
   |some l=>some (.struct l)
   |none=>none
  |some (.array m e)=>match QK P n e with
   |some a=>some (.arr m a)
   |none=>none
  |some (.slice e)=>match QK P n e with
   |some a=>some (.slice a)
   |none=>none
  | _=>none
mutual
/-- data of a type -/
def DK:TK->D->Prop
 | .bool,d=>∃b,d= .raw (.bool b)
 | .int .u8,d=>∃x:BitVec 8,d= .raw (u8 x)
 | .int .u16,d=>∃x:BitVec 16,d= .raw (u16 x)
 | .int .u32,d=>∃x:BitVec 32,d= .raw (u32 x)
 | .int .u64,d=>∃x:BitVec 64,d= .raw (u64 x)
 | .int .i64,d=>∃n:Int,(-9223372036854775808<=n/\n<9223372036854775808)/\d= .raw (it n)
 | .int k,d=>∃n:Int,d= .raw (.int k n)/\(Lit.int k n).wf=true
 | .str,d=>∃b,d= .raw (.string b)/\b.size<=maxLen
 | .struct l,d=>∃ds,d= .agg l.sh ds/\DKs l ds
 | .arr n t,d=>∃l,d= .agg (.ar n t.sh) l/\l.length=n/\∀x∈l,DK t x
 | .slice t,d=>d= .raw (.slice none 0 0)\/∃l,d= .cD t.sh l false/\l.length<=maxLen/\∀x∈l,DK t x
def DKs:Vx->List D->Prop
 | .nil,[]=>True
 | .cons a l,d::ds=>DK a d/\DKs l ds
 | _,_=>False
end
variable {P:Program}
theorem Zc{n:Nat}(ih:∀(t:TypeId) (k:TK) (s:Sh),QK P n t=some k->Ff P n t=some s->s=k.sh):∀(fs:List Field) (off:Nat) (l:Vx) (s:Sh),
  Xs (QK P n) (fs.map (·.type))=some l->flX P (Ff P n) off fs=some s->s=l.sh
 |[],off,l,s,h1,h2=>by
  simp[Xs]at h1;simp[flX]at h2
  subst h1;subst h2;rfl
 | f :: fs, off, l, s, h1, h2 => by
  simp only[abw,Xs]at h1
  simp only[flX]at h2
  split at h1
  ·rename_i a ha
   split at h1
   ·rename_i b hb
    cases h1
    split at h2
    ·rename_i s1 Xt
     cases hq:(f.offset==off&&P.cellsOf f.type==s1.size)with
     |false=>rw[hq]at h2;cases h2
     | true =>
      rw[hq]at h2
      simp only[aaY]at h2
      split at h2
      ·rename_i s2 uZ
       cases h2
       rw[ih _ _ _ ha Xt,Zc ih fs _ _ _ hb uZ]
       rfl
      ·cases h2
    ·cases h2
   ·cases h1
  ·cases h1
theorem Tt:∀(n:Nat) (t:TypeId) (k:TK) (s:Sh),QK P n t=some k->Ff P n t=some s->s=k.sh
 |0,t,k,s,h1,h2=>by simp[QK]at h1
 | n + 1, t, k, s, h1, h2 => by
  have ih:=Tt n
  simp only[QK]at h1
  simp only[Ff]at h2
  cases hu:P.underlying t with
  |none=>simp[hu]at h1
  | some u =>
   simp only[hu]at h1 h2
   cases u with
   |bool=>cases h1;cases h2;rfl
   |int=>cases h1;cases h2;rfl
   |string=>cases h1;cases h2;rfl
   | struct fs =>
    simp only at h1 h2
    split at h1
    ·rename_i l hl
     cases h1
     split at h2
     ·rename_i s' gh
      cases hq:(P.cellsOf t==s'.size)with
      |false=>rw[hq]at h2;cases h2
      |true=>
       rw[hq]at h2
       cases h2
       exact Zc ih _ _ _ _ hl gh
     ·cases h2
    ·cases h1
   | array m e =>
    simp only at h1 h2
    split at h1
    ·rename_i a ha
     cases h1
     split at h2
     ·rename_i s' gh
      cases hq:(P.cellsOf e==s'.size&&P.cellsOf t==m*s'.size)with
      |false=>rw[hq]at h2;cases h2
      |true=>
       rw[hq]at h2
       cases h2
       rw[ih _ _ _ ha gh]
       rfl
     ·cases h2
    ·cases h1
   | slice e =>
    simp only at h1 h2
    split at h1
    ·rename_i a ha
     cases h1
     split at h2
     ·rename_i s' gh
      cases hq:(P.cellsOf e==s'.size&&Nat.blt 0 s'.size)with
      |false=>rw[hq]at h2;cases h2
      |true=>rw[hq]at h2;cases h2;rfl
     ·cases h2
    ·cases h1
   | _=>cases h1
theorem Tu{w:Nat}{m:Int}(h:0<=m/\m<2^w):m=((BitVec.ofInt w m).toNat:Int):=by
 rw[acJ]
 rw[adx h.1 (by simpa using h.2)]
 omega
theorem dof_int{k:IntKind}{m:Int}(h:(Lit.int k m).wf=true):DK (.int k) (.raw (.int k m)):=by
 have hw:=h
 cases k<;>simp only[Lit.wf,aav,aaA,IntKind.min,IntKind.max,IntKind.signed,IntKind.bits,DK]at h⊢
 ·exact⟨m,rfl,h⟩
 ·exact⟨m,rfl,h⟩
 ·exact⟨m,rfl,h⟩
 ·exact⟨m,by simp at h;omega,rfl⟩
 ·exact⟨BitVec.ofInt 8 m,by unfold u8;rw[<-Tu];simp at h;omega⟩
 ·exact⟨BitVec.ofInt 16 m,by unfold u16;rw[<-Tu];simp at h;omega⟩
 ·exact⟨BitVec.ofInt 32 m,by unfold u32;rw[<-Tu];simp at h;omega⟩
 ·exact⟨BitVec.ofInt 64 m,by unfold u64;rw[<-Tu];simp at h;omega⟩
theorem fl_dk{n:Nat}(ih:∀(t:TypeId) (k:TK) (d:D),QK P n t=some k->J0 P n t d->DK k d):∀(fs:List Field) (l:Vx) (ds:List D),
  Xs (QK P n) (fs.map (·.type))=some l->aW (λ(f:Field) x=>J0 P n f.type x) fs ds->DKs l ds
 |[],l,ds,h1,h2=>by
  simp[Xs]at h1
  have:ds=[]:=aaN (by simpa using h2.len.symm)
  subst h1;subst this;trivial
 | f :: fs, l, ds, h1, h2 => by
  simp only[abw,Xs]at h1
  split at h1
  ·rename_i a ha
   split at h1
   ·rename_i b hb
    cases h1
    match ds,h2.len with
    |d::ds,_=>exact⟨ih _ _ _ ha h2.head,fl_dk ih fs _ _ hb h2.tail⟩
   ·cases h1
  ·cases h1
theorem Zd:∀(n:Nat) (t:TypeId) (k:TK) (d:D),QK P n t=some k->J0 P n t d->DK k d
 |0,t,k,d,h1,h2=>by simp[QK]at h1
 | n + 1, t, k, d, h1, h2 => by
  have ih:=Zd n
  simp only[QK]at h1
  simp only[J0]at h2
  cases hu:P.underlying t with
  |none=>simp[hu]at h1
  | some u =>
   simp only[hu]at h1 h2
   cases u with
   |bool=>cases h1;exact h2
   |int k=>cases h1;obtain⟨m,rfl,hw⟩:=h2;exact dof_int hw
   |string=>cases h1;exact h2
   | struct fs =>
    simp only at h1 h2
    split at h1
    ·rename_i l hl
     cases h1
     obtain⟨s,ds,g1,rfl,g2⟩:=h2
     have:=Zc (Tt n) _ _ _ _ hl g1
     subst this
     exact⟨ds,rfl,fl_dk ih _ _ _ hl g2⟩
    ·cases h1
   | array m e =>
    simp only at h1 h2
    split at h1
    ·rename_i a ha
     cases h1
     obtain⟨s,l,g1,rfl,g2,g3⟩:=h2
     have:=Tt n _ _ _ ha g1
     subst this
     exact⟨l,rfl,g2,λx hx=>ih _ _ _ ha (g3 x hx)⟩
    ·cases h1
   | slice e =>
    simp only at h1 h2
    split at h1
    ·rename_i a ha
     cases h1
     rcases h2 with rfl|⟨s,l,g1,rfl,g2,g3⟩
     ·exact .inl rfl
     ·have:=Tt n _ _ _ ha g1
      subst this
      exact .inr ⟨l,rfl,g2,λx hx=>ih _ _ _ ha (g3 x hx)⟩
    ·cases h1
   | _=>cases h1
theorem NY{n:Nat}:∀{ts:List TypeId} {ks:Vx} {dd:List D},Xs (QK P n) ts=some ks->aW (λt d=>J0 P n t d) ts dd->DKs ks dd
 |[],ks,dd,h1,h2=>by
  simp[Xs]at h1
  have:dd=[]:=aaN (by simpa using h2.len.symm)
  subst h1;subst this;trivial
 | t :: ts, ks, dd, h1, h2 => by
  simp only[Xs]at h1
  split at h1
  ·rename_i a ha
   split at h1
   ·rename_i b hb
    cases h1
    match dd,h2.len with
    |d::ds,_=>exact⟨Zd _ _ _ _ ha h2.head,NY hb h2.tail⟩
   ·cases h1
  ·cases h1
theorem G4:∀{l:List D},(∀x∈l,DK (.int .u8) x)->∃l':List (BitVec 8),l=bs l'
 |[],_=>⟨[],rfl⟩
 |x::l,h=>by
  obtain⟨b,rfl⟩:=h x (by simp)
  obtain⟨l',rfl⟩:=G4 (l:=l) (λy hy=>h y (by simp[hy]))
  exact⟨b::l',rfl⟩
theorem Vy(l:List (BitVec 8)):fY (bs l)=l.length:=by
 induction l with
 |nil=>rfl
 |cons x l ih=>simp only[bs,abw,fY]at ih⊢;rw[ih];simp[me,u8];omega
theorem dk_arr8{n:Nat}{d:D}(h:DK (.arr n (.int .u8)) d):∃l:List (BitVec 8),d= .agg (.ar n (.leaf v5)) (bs l)/\l.length=n:=by
 obtain⟨l,rfl,g1,g2⟩:=h
 obtain⟨l',rfl⟩:=G4 g2
 exact⟨l',rfl,by simpa[bs]using g1⟩
def DN:TK->D->Prop
 | .slice t,d=>∃l,d= .cD t.sh l false/\l.length<=maxLen/\∀x∈l,DK t x
 |k,d=>DK k d
def DNs:Vx->List D->Prop
 | .nil,[]=>True
 | .cons a l,d::ds=>DN a d/\DNs l ds
 | _,_=>False
theorem dk_dn{k:TK}{d:D}(h:DK k d):∃d',Xq d d'/\DN k d'/\me d'<=me d:=by
 cases k with
 |slice t=>
  rcases h with rfl|⟨l,rfl,g1,g2⟩
  ·exact⟨_,.nil t.sh false,⟨[],rfl,by simp,by simp⟩,by simp[me,fY]⟩
  ·exact⟨_,.refl _,⟨l,rfl,g1,g2⟩,aaL _⟩
 | _=>exact⟨d,.refl _,h,aaL _⟩
theorem Tv:∀{ks:Vx} {dd:List D},DKs ks dd->∃Xr,aW Xq dd Xr/\DNs ks Xr/\fY Xr<=fY dd
 | .nil,[],_=>⟨[],.nil,trivial,aaL _⟩
 | .nil,_::_,h=>by simp[DKs]at h
 | .cons a l,[],h=>by simp[DKs]at h
 | .cons a l,d::ds,h=>by
  obtain⟨d',h1,h2,h3⟩:=dk_dn h.1
  obtain⟨ds',g1,g2,g3⟩:=Tv h.2
  exact⟨d'::ds',.cons h1 g1,⟨h2,g2⟩,by simp only[fY];omega⟩
theorem dn_bs{d:D}(h:DN (.slice (.int .u8)) d):∃l:List (BitVec 8),d= .cD L8 (bs l) false/\l.length<=maxLen/\me d=l.length+1:=by
 obtain⟨l,rfl,g1,g2⟩:=h
 obtain⟨l',rfl⟩:=G4 g2
 exact⟨l',rfl,by simpa[bs]using g1,by simp only[me,Vy]⟩
theorem row_law{H:Type}{enc:TypeId×Value->H}{f:FuncId}{fn:Func}{spec:ChangeSpec}{A:j9}{ks:Vx}{n:Nat}{tb:TypeId}{G:Nat->Option D}(hA:aP G P f A)(hl:laidOutB P=true)
  (hty:(fn.params.toList.all λt=>(Ff P n t).isSome&&P.readableRec t&&decide (t<P.types.size))=true)(hks:Xs (QK P n) fn.params.toList=some ks)
  (hvars:spec.vars=[])(hres:fn.resultTypes=#[tb])(htb:P.underlying tb=some .bool)
  (hspec:∀ds:List (DataW H),ds.length=fn.params.toList.length->spec.fn H ds={results:=[.lit (.bool true)],args:=ds})
  {W:World}{base:Nat}{args:Array Value}{ds gs:List (DataW H)}{before:List MemPlace}
  (Zb:∀dd,DNs ks dd->fY dd<=Go.Proofs.YtgcejocgnfkciaaGreatDoor.Rows.uptoBulkAll (ds++gs)->A dd [] (λd _=>d= .raw (.bool true)))
  (hval:∀(j:Nat) t v,fn.params[j]?=some t->args[j]?=some v->Value.okWide P W .any base t v)
  (hW:DataW.Whole enc P fn.params.toList spec.vars false W args.toList ds gs before)(hG:∀g d,G g=some d->LR fw W (old W) (.b5 d) (.pointer (some ⟨g,0,none⟩))):
  Calls P f args W λe W'=>∃v,e= .returned v/\spec.post enc P fn false true false false W args v W':=
 Lo hA hl hty hvars hres htb hspec (λdd h1 h2=>by
  obtain⟨Xr,g1,g2,g3⟩:=Tv (NY hks h1)
  exact⟨Xr,g1,Zb Xr g2 (by omega)⟩) hval hW hG
end Go.Am
namespace Go.Am
def wK(k:IntKind)(zs:List Int):D:= .agg (.ar zs.length (.leaf (.int k))) (zs.map λz=> .raw (.int k z))
theorem J3(k:IntKind):∀zs:List Int,au (zs.map λz=>D.raw (.int k z))=zs.map λz=>D.raw (.int k z)
 |[]=>rfl
 |z::zs=>by simp[au,D.flat,J3 k zs]
theorem NZ{P:Program}{W:World}{name:String}{k:IntKind}{zs:List Int}{g:Nat}{t e:TypeId}{n:Nat}
  (hg:P.globalNamed name=some g)(hty:(P.globals[g]?).map (·.type)=some t)(ht:P.underlying t=some (.array n e))(he:P.underlying e=some (.int k))(hce:P.cellsOf e=1)(hct:P.cellsOf t=n):
  ∀{l:List (String×DataW Unit)} {ps:List MemPlace},DataW.LaidVars P W l ps->(name,Lib.tabData k zs)∈l->Lib.TabIs P W name k zs
 |[],ps,_,hm=>by cases hm
 | (n', d') :: r, ps, h, hm => by
  obtain⟨g',t',cs,fuel,p,q,PN,yB,hvar,hd,hr,_⟩:=h
  rcases aaW.1 hm with hm|hm
  ·cases hm
   obtain rfl:=abe (hg.symm.trans PN)
   obtain rfl:=abe (hty.symm.trans yB)
   unfold Lib.TabIs
   rw[hvar,<-Lib.cells_of_tab ht he hce hct hd]
  ·exact NZ hg hty ht he hce hct hr hm
theorem Dp{P:Program}{W:World}{name:String}{k:IntKind}{zs:List Int}{g:Nat}{t e:TypeId}{n:Nat}{l:List (String×DataW Unit)}(h:laidMet P l W)(hm:(name,Lib.tabData k zs)∈l)
  (hg:P.globalNamed name=some g)(hty:(P.globals[g]?).map (·.type)=some t)(ht:P.underlying t=some (.array n e))(he:P.underlying e=some (.int k))(hce:P.cellsOf e=1)(hct:P.cellsOf t=n)(hz:zs≠[]):
  LR fw W (old W) (.b5 (wK k zs)) (.pointer (some ⟨g,0,none⟩)):=by
 obtain⟨ps,hv,_⟩:=h
 have hT:=NZ hg hty ht he hce hct hv hm
 refine LR.zJ (cs:=zs.map λz=>Value.int k z) (s:= .ar zs.length (.leaf (.int k))) ?_ ?_ ?_ ?_
 ·refine .agg _ _ rfl (by simp[Sh.count]) λi e d h1 h2=>?_
  simp only[Sh.sub]at h1
  split at h1
  ·cases h1
   obtain⟨z,_,rfl⟩:=ac6.1 (bH h2)
   exact .leaf _ _ (by simp[nQ])
  ·cases h1
 ·have:=hT.cell hg 0 (by cases zs<;>simp_all)
  show g<W.heap.size
  rw[World.cell?]at this
  split at this
  ·rename_i h0;exact(aaZ.1 h0).1
  ·cases this
 ·rw[wK,D.flat,J3]
  clear hT hm hz
  induction zs with
  |nil=>exact .nil
  |cons z zs ih=>exact .cons (.raw _ rfl) ih
 ·intro j x hx
  have hj:j<zs.length:=by have:=cU hx;simpa using this
  have:=hT.cell hg j hj
  rw[abO,this]
  simp[hj]at hx
  simp[hj,<-hx]
end Go.Am

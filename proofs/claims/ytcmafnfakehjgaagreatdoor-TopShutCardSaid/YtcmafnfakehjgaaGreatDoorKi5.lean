import Derived.Test.YtcmafnfakehjgaaGreatDoorKi4
import Derived.Test.YtcmafnfakehjgaaGreatDoorRows
import Derived.OpenShut
import Derived.WalkKit
import Derived.ProofKit
import Derived.JoinedCond
import Derived.Carry
import Derived.Lib.LaidTab
set_option linter.unusedSimpArgs false
set_option linter.unusedVariables false
namespace Go.Am
def u8(x:BitVec 8):Value:= .int .u8 (x.toNat:Int)
def u16(x:BitVec 16):Value:= .int .u16 (x.toNat:Int)
def u32(x:BitVec 32):Value:= .int .u32 (x.toNat:Int)
def u64(x:BitVec 64):Value:= .int .u64 (x.toNat:Int)
def it(n:Int):Value:= .int .i64 n
def wz(n:Int):Int:=IntKind.i64.wrap n
theorem bh{n:Int}(h:-9223372036854775808<=n/\n<9223372036854775808):wz n=n:=by
 unfold wz IntKind.wrap
 have e1:(2:Int)^IntKind.i64.bits=18446744073709551616:=by decide
 have e2:(2:Int)^(IntKind.i64.bits-1)=9223372036854775808:=by decide
 simp only[e1,e2]
 rcases Int.lt_or_le n 0 with h0|h0
 ·have:n %18446744073709551616=n+18446744073709551616:=by omega
  rw[this,aaJ (by simp[IntKind.signed];omega)]
  omega
 ·have:n %18446744073709551616=n:=by omega
  rw[this,aaC (by simp[IntKind.signed];omega)]
def asMp:D->Option Nat
 | .mp r=>some r
 | _=>none
def mres(vs:Sh)(ok:Bool)(z:D):Option Value->D
 |some v=>bif ok then .cd [dV vs v,.raw (.bool true)]else dV vs v
 |none=>bif ok then .cd [z,.raw (.bool false)]else z
def asIt:D->Option Int
 | .raw (.int .i64 n)=>some n
 | _=>none
def ZF:D->Option Int
 | .raw (.int _ n)=>some n
 | _=>none
def DY(kd:IntKind):D->Option Value
 | .raw (.int _ n)=>some (.int kd (kd.wrap n))
 | _=>none
def kSeq(C:aU)(b:aj)(Q:gF->Env->Rows->Prop):gF->Env->Rows->Prop:=λe env rows=>match e with
 | .normal=>aw C b Q env rows
 |e=>Q e env rows
def SN(id:Nat)(Q:gF->Env->Rows->Prop):gF->Env->Rows->Prop:=λe env rows=>match e with
 | .exit i=>(i=id->Q .normal env rows)/\(i≠id->Q (.exit i) env rows)
 |e=>Q e env rows
def Ie(C:aU)(a b:aj)(Q:gF->Env->Rows->Prop)(env:Env)(rows:Rows):D->Prop
 | .raw (.bool t)=>(t=true->aw C a Q env rows)/\(t=false->aw C b Q env rows)
 | _=>False
def ZG(C:aU)(dst:Option Nat)(o:nY)(want:Bool)(os:List aS)(env:Env)(rows:Rows)(K:Env->Rows->Prop):D->Prop
 | .raw (.bool t)=>(t=want->dX C env rows o λd rows=>dR C os (put dst d env) rows K)/\(t=!want->dR C os (put dst (.cd []) env) rows K)
 | .cd []=>dR C os (put dst (.cd []) env) rows K
 | _=>False
def kOp(C:aU)(dst:Option Nat)(os:List aS)(env:Env)(K:Env->Rows->Prop):D->Rows->Prop:=λd rows=>dR C os (put dst d env) rows K
def Vt(C:aU)(a b:X)(env:Env)(rows:Rows)(k:D->Rows->Prop):D->Prop
 | .raw (.bool t)=>bj (bif t then ev C env a else ev C env b) λd=>k d rows
 | _=>False
def aG(A:Fn)(rows:Rows)(k:D->Rows->Prop)(ds:List D):Prop:=
 (aX ds=true->bj (eK (view rows 9) ds) λds'=>bj (A ds' []) λr=>(cv r.1&&bf r.2)=true/\k (shift rows.length r.1) (rows++af rows.length r.2))/\
   (aX ds=false->bj (A ds []) λr=>k (shift rows.length r.1) (rows++af rows.length r.2))
def kFn(C:aU)(rows:Rows)(f:FuncId)(k:D->Rows->Prop):Option Fn->List D->Prop
 |some A,ds=>aG A rows k ds
 |none,ds=>bj (C.Pb f) λA=>A ds rows k
theorem Vu{C rows f ds k}:Bv C rows f ds k=kFn C rows f k (C.fn f) ds:=by unfold Bv;cases C.fn f<;>rfl
theorem cI{C rows f k}{o o':Option Fn}{d d':List D}(h:o=o')(h2:d=d'):kFn C rows f k o d=kFn C rows f k o' d':=by rw[h,h2]
def Np:D->D->Option Bool
 | .raw (.pointer none),.raw (.pointer none)=>some true
 | .ptr _ _ _,.raw (.pointer none)=>some false
 | .cb _,.raw (.pointer none)=>some false
 | _,_=>none
def eqA(s:Sh):D->D->Option Bool
 | .agg s1 l,.agg s2 l'=>bif s1==s&&s2==s then DW l l' else none
 | _,_=>none
def kTail(C:aU)(tl:List aS)(K:Env->Rows->Prop):Env->Rows->Prop:=λenv rows=>dR C tl env rows K
def kStab(C:aU)(dl:List aS)(K:Env->Rows->Prop):Env->Rows->Prop:=λenv rows=>tU C env rows dl/\K env rows
def PV(env:Env)(rows:Rows)(t:Nat):D->Rows->Prop:=λd r=>look env t=some d/\r=rows
def Nq(C:aU)(dl:List aS)(K:Env->Rows->Prop):Env->Rows->Prop:=λenv rows=>p7 C env rows dl/\K env rows
def kIntF(C:aU)(fl dl:List aS)(K:Env->Rows->Prop):Env->Rows->Prop:=λenv rows=>dR C fl env rows (Nq C dl K)
def El(rows:Rows)(ds:List D):Option (List D):=bif aX ds then eK (view rows 9) ds else some ds
def pC(s:Sh)(n:Int)(rows:Rows)(k:D->Rows->Prop):D->Prop
 | .sl t r p off len _=>t=s/\0<=n/\n<(len:Int)/\k (.ptr s r (p++[off+n.toNat])) rows
 | .dh t l _=>t=s/\0<=n/\n<(l.length:Int)/\bj (l[n.toNat]?) λd=>k (.cb d) rows
 | _=>False
def If (s : Sh) (l h c : Option Int) (rows : Rows) (k : D -> Rows -> Prop) (dx : D) : Prop :=
 bj (dW dx) λn=>nB (l.getD 0) (h.getD n) (c.getD (h.getD n)) n λl h' c'=>match dx with
    | .raw (.slice none 0 0)=>k (.raw (.slice none 0 0)) rows
    | .sl t r p off len e=>t=s/\k (.sl s r p (off+l) (h'-l) (qB c h' c' len e)) rows
    | .dh t els e=>t=s/\k (.dh s ((els.drop l).take (h'-l)) (qB c h' c' els.length e)) rows
    | _=>False
def BS(mu:List aN)(K:D->Rows->Prop):gF->Env->Rows->Prop:=λe env rows=>(e= .normal\/e= .ret)/\bj (BQ env rows mu) λl=>K (zS l) rows
theorem ae{C:aU}{np:Nat}{mu:List aN}{ac:aj}{ds:List D}{rows:Rows}{K:D->Rows->Prop}(h1:ds.length=np)(h2:aw C ac (BS mu K) (rv 0 ds) rows):aB C np mu ac ds rows K:=⟨h1,h2⟩
def qc:D->Option D
 | .cd _=>none
 |d=>some d
def LP(C:aU)(a:aj)(Q:gF->Env->Rows->Prop)(env:Env)(rows:Rows):Prop:=∃n,qX (aw C a) Q n env rows
theorem cJ{α:Type}{x y:Option α}{k:α->Prop}(h:x=y):bj x k=bj y k:=by rw[h]
theorem bI{C a b Q env rows}{d d':D}(h:d=d'):Ie C a b Q env rows d=Ie C a b Q env rows d':=by rw[h]
theorem cK{C dst o want os env rows K}{d d':D}(h:d=d'):ZG C dst o want os env rows K d=ZG C dst o want os env rows K d':=by rw[h]
theorem bJ{C a b env rows k}{d d':D}(h:d=d'):Vt C a b env rows k d=Vt C a b env rows k d':=by rw[h]
theorem bK{A rows k}{d d':List D}(h:d=d'):aG A rows k d=aG A rows k d':=by rw[h]
theorem b6{s}{n n':Int}{rows aa:Rows}{k}{d d':D}(h1:n=n')(h2:rows=aa)(h3:d=d'):pC s n rows k d=pC s n' aa k d':=by rw[h1,h2,h3]
theorem bw{s}{l l' h h' c c':Option Int}{rows aa:Rows}{k}{d d':D}(h0:l=l')(h1:h=h')(hc:c=c')(h2:rows=aa)(h3:d=d'):If s l h c rows k d=If s l' h' c' aa k d':=by rw[h0,h1,hc,h2,h3]
theorem bN{C a Q env env'}{rows aa:Rows}(h:env=env')(h':rows=aa):LP C a Q env rows=LP C a Q env' aa:=by rw[h,h']
theorem bO{α:Type}{c d:Bool}{a b:α}(h:c=d):cond c a b=cond d a b:=by rw[h]
theorem b7{op}{a a' b b':Value}{k}(h:a=a')(h2:b=b'):cm op a b k=cm op a' b' k:=by rw[h,h2]
theorem bi{l l' h h' m m':Int}{n n':Nat}{k}(h1:l=l')(h2:h=h')(h3:m=m')(h4:n=n'):nB l h m n k=nB l' h' m' n' k:=by rw[h1,h2,h3,h4]
theorem b8{rows aa:Rows}{s bytes}{a a':D}{l l':List D}{k}(h1:rows=aa)(h2:a=a')(h3:l=l'):xh rows s bytes a l k=xh aa s bytes a' l' k:=by rw[h1,h2,h3]
theorem bP{rows aa:Rows}{s}{a a':D}{l l':List D}{k}(h1:rows=aa)(h2:a=a')(h3:l=l'):oq rows s a l k=oq aa s a' l' k:=by rw[h1,h2,h3]
def pkO(t:Bool)(x y:Option D):Option D:=bif t then x else y
section eqs
variable (C:aU) (env:Env) (rows:Rows) (Q:gF->Env->Rows->Prop) (k:D->Rows->Prop) (K:Env->Rows->Prop)
theorem q_skip:aw C .skip Q env rows=Q .normal env rows:=aav rfl rfl
theorem q_region(ops):aw C (.region false ops) Q env rows=dR C ops env rows (Q .normal):=aav rfl rfl
theorem Xu(ops):aw C (.region true ops) Q env rows=dR C.quiet ops env rows (Q .normal):=aav rfl rfl
theorem q_draw1(pre tail):aw C (.U1 pre tail) Q env rows=dR C.quiet pre env rows (kTail C tail (Q .normal)):=aav rfl rfl
theorem q_draw(pre dl tail):aw C (.draw pre dl tail) Q env rows=dR C.quiet pre env rows (kStab C.quiet dl λenv rows=>xj C.quiet tail env rows (Q .normal)):=aav rfl rfl
theorem q_tail(tl):kTail C tl K env rows=dR C tl env rows K:=aav rfl rfl
theorem q_stab(dl):kStab C dl K env rows=(tU C env rows dl/\K env rows):=aav rfl rfl
theorem q_st0:tU C env rows []=True:=aav rfl rfl
theorem q_st1(t o g l):tU C env rows (⟨some t,o,g⟩::l)=(dX C env rows o (PV env rows t)/\tU C env rows l):=by
 simp only[tU]
 congr 1
theorem q_st2(t d r):PV env rows t d r=(look env t=some d/\r=rows):=aav rfl rfl
theorem q_ta0:xj C [] env rows K=K env rows:=aav rfl rfl
theorem q_ta1(x dl l):xj C ((x,dl)::l) env rows K=dR C [x] env rows (kStab C dl λenv rows=>xj C l env rows K):=aav rfl rfl
theorem q_drawf(pre dl tail):aw C (.U2 pre dl tail) Q env rows=dR C.quiet pre env rows (Nq C.quiet dl λenv rows=>zK C tail env rows (Q .normal)):=aav rfl rfl
theorem q_stabF(dl):Nq C dl K env rows=(p7 C env rows dl/\K env rows):=aav rfl rfl
theorem q_intF(fl dl):kIntF C fl dl K env rows=dR C fl env rows (Nq C dl K):=aav rfl rfl
theorem q_sf0:p7 C env rows []=True:=aav rfl rfl
theorem q_sf1(t o l):p7 C env rows (⟨some t,o,none⟩::l)=(jf C env rows o t/\p7 C env rows l):=aav rfl rfl
theorem q_sfa(s z t):jf C env rows (.alloc s z) t=bj (look env t) (ZT s [z] rows):=aav rfl rfl
theorem q_sfm(x t):jf C env rows (.mv x) t=dX C env rows (.mv x) (PV env rows t):=by
 simp only[jf]
 congr 1
theorem q_sfl(s x t):jf C env rows (.load s x) t=dX C env rows (.load s x) (PV env rows t):=by
 simp only[jf]
 congr 1
theorem q_sfe(x i t):jf C env rows (.ext x i) t=dX C env rows (.ext x i) (PV env rows t):=by
 simp only[jf]
 congr 1
theorem q_sff(s x i t):jf C env rows (.fx s x i) t=dX C env rows (.fx s x i) (PV env rows t):=by
 simp only[jf]
 congr 1
theorem q_isp(s l s' r p):ZT s l rows (.ptr s' r p)=(s'=s/\p=[0]/\live rows r=some ⟨s,l⟩):=aav rfl rfl
theorem q_tf0:zK C [] env rows K=K env rows:=aav rfl rfl
theorem q_tf1(x fl dl l):zK C ((x,fl,dl)::l) env rows K=dR C [x] env rows (kIntF C.quiet fl dl λenv rows=>zK C l env rows K):=aav rfl rfl
theorem q_qfn(f):C.quiet.fn f=C.fn f:=aav rfl rfl
theorem q_qgl(f):C.quiet.aZ f=C.aZ f:=aav rfl rfl
theorem q_seq(a b):aw C (.seq a b) Q env rows=aw C a (kSeq C b Q) env rows:=aav rfl rfl
theorem q_cond(c a b):aw C (.cond c a b) Q env rows=bj (ev C env c) (Ie C a b Q env rows):=aav rfl rfl
theorem q_block(id a):aw C (.block id a) Q env rows=aw C a (SN id Q) env rows:=aav rfl rfl
theorem q_loop(a):aw C (.loop a) Q env rows=LP C a Q env rows:=aav rfl rfl
theorem q_exit(id):aw C (.exit id) Q env rows=Q (.exit id) env rows:=aav rfl rfl
theorem q_ret:aw C .ret Q env rows=Q .ret env rows:=aav rfl rfl
theorem q_fr(mu)(R:D->Rows->Prop):BS mu R .ret env rows=bj (BQ env rows mu) λl=>R (zS l) rows:=by simp[BS]
theorem q_fn(mu)(R:D->Rows->Prop):BS mu R .normal env rows=bj (BQ env rows mu) λl=>R (zS l) rows:=by simp[BS]
theorem q_a0:BQ env rows []=some []:=aav rfl rfl
theorem q_a1(r l):BQ env rows (r::l)=(FJ env rows r).bind λd=>(BQ env rows l).map λds=>d::ds:=by
 simp only[BQ]
 cases FJ env rows r with
 |none=>rfl
 |some d=>cases BQ env rows l<;>rfl
theorem q_at(t):FJ env rows (.tmp t)=(look env t).bind qc:=by
 simp only[FJ]
 cases look env t with
 |none=>rfl
 |some d=>cases d<;>rfl
theorem q_ac(t s):FJ env rows (.cell t s)=match look env t with
  |some (.ptr s' r p)=>bif s'==s then(match live rows r with
   |some row=>cM row.els p
   |none=>none)else none
  | _=>none:=aav rfl rfl
theorem n_raw(v):qc (.raw v)=some (.raw v):=aav rfl rfl
theorem n_ptr(s r p):qc (.ptr s r p)=some (.ptr s r p):=aav rfl rfl
theorem n_sl(s r p o n e):qc (.sl s r p o n e)=some (.sl s r p o n e):=aav rfl rfl
theorem n_lst(s l e):qc (.dh s l e)=some (.dh s l e):=aav rfl rfl
theorem q_r1(d):zS [d]=d:=aav rfl rfl
theorem q_r0:zS []= .cd []:=aav rfl rfl
theorem q_r2(d e l):zS (d::e::l)= .cd (d::e::l):=aav rfl rfl
theorem sl_sl(s r p o n e):dW (.sl s r p o n e)=some n:=aav rfl rfl
theorem sl_lst(s l e):dW (.dh s l e)=some l.length:=aav rfl rfl
theorem sl_nil:dW (.raw (.slice none 0 0))=some 0:=aav rfl rfl
theorem so_sl(s t r p o n e):pw rows s (.sl t r p o n e)=bif s==t then elems rows (.sl t r p o n e)else none:=aav rfl rfl
theorem so_lst(s t l e):pw rows s (.dh t l e)=bif s==t then some l else none:=aav rfl rfl
theorem so_nil(s):pw rows s (.raw (.slice none 0 0))=some []:=aav rfl rfl
theorem el_sl(s r off len e):elems rows (.sl s r [] off len e)=(live rows r).map λrow=>(row.els.drop off).take len:=by simp only[elems];cases live rows r<;>rfl
theorem el_lst(s l e):elems rows (.dh s l e)=some l:=aav rfl rfl
theorem lv_0(row):live (some row::rows) 0=some row:=aav rfl rfl
theorem lv_s(x n):live (x::rows) (n+1)=live rows n:=by simp[live]
theorem lv_new(row):live (rows++[some row]) rows.length=some row:=by simp[live]
theorem g_row(els:List D)(i p):cM els (i::p)=(els[i]?).bind λd=>d.get p:=by simp only[cM];cases els[i]?<;>rfl
theorem g_nil(d):D.get d []=some d:=by cases d<;>rfl
theorem g_agg(s)(l:List D)(i p):D.get (.agg s l) (i::p)=(l[i]?).bind λd=>d.get p:=by simp only[D.get];cases l[i]?<;>rfl
theorem s_row(els:List D)(i p x):mL els (i::p) x=(els[i]?).bind λd=>(d.set p x).map λd'=>els.set i d':=by
 simp only[mL]
 cases els[i]? with
 |none=>rfl
 |some d=>
  simp only[abg]
  cases D.set d p x<;>rfl
theorem s_nil(d x):D.set d [] x=some x:=by cases d<;>rfl
theorem s_agg(s)(l:List D)(i p x):D.set (.agg s l) (i::p) x=(l[i]?).bind λd=>(d.set p x).map λd'=> .agg s (l.set i d'):=by
 simp only[D.set]
 cases l[i]? with
 |none=>rfl
 |some d=>
  simp only[abg]
  cases D.set d p x<;>rfl
theorem sub_0(a b):(Sh.cons a b).sub 0=some a:=aav rfl rfl
theorem sub_s(a b i):(Sh.cons a b).sub (i+1)=b.sub i:=aav rfl rfl
theorem sub_ar(n s i):(Sh.ar n s).sub i=if i<n then some s else none:=aav rfl rfl
theorem a_nil(s bytes)(news:List D):xh rows s bytes (.raw (.slice none 0 0)) news k=(news.length*bytes<=most/\news.length<=most/\k (.sl s rows.length [] 0 news.length false) (rows++[some ⟨s,news⟩])):=by simp[xh,elems,dW,bj,fg,isNil,kill]
theorem a_sl(s bytes t r n e)(news:List D):xh rows s bytes (.sl t r [] 0 n e) news k=bj (live rows r) λrow=>(s==t)=true/\(row.els.take n).length=n/\(n+news.length)*bytes<=most/\n+news.length<=most/\k (.sl s rows.length [] 0 (n+news.length) false) (rows.set r none++[some ⟨s,row.els.take n++news⟩]):=by
 simp only[xh,elems,dW,fg,isNil,owned,kill]
 cases live rows r<;>simp[bj]
theorem most_eq:most=1099511627776:=rfl
theorem q_bd(l h m:Int)(n:Nat)(kk:Nat->Nat->Nat->Prop):nB l h m n kk=(0<=l/\l<=h/\h<=m/\m<=(n:Int)/\kk l.toNat h.toNat m.toNat):=aav rfl rfl
theorem q_skl(s l h c t els e):If s l h c rows k (.dh t els e)=nB (l.getD 0) (h.getD els.length) (c.getD (h.getD els.length)) els.length λl h' c'=>t=s/\k (.dh s ((els.drop l).take (h'-l)) (qB c h' c' els.length e)) rows:=aav rfl rfl
theorem q_sks(s l h c t r p off)(n:Nat)(e):If s l h c rows k (.sl t r p off n e)=nB (l.getD 0) (h.getD n) (c.getD (h.getD n)) n λl h' c'=>t=s/\k (.sl s r p (off+l) (h'-l) (qB c h' c' n e)) rows:=aav rfl rfl
theorem q_sn(b):kSeq C b Q .normal env rows=aw C b Q env rows:=aav rfl rfl
theorem q_sr(b):kSeq C b Q .ret env rows=Q .ret env rows:=aav rfl rfl
theorem q_se(b i):kSeq C b Q (.exit i) env rows=Q (.exit i) env rows:=aav rfl rfl
theorem q_bn(id):SN id Q .normal env rows=Q .normal env rows:=aav rfl rfl
theorem q_br(id):SN id Q .ret env rows=Q .ret env rows:=aav rfl rfl
theorem q_be(id i):SN id Q (.exit i) env rows=bif i==id then Q .normal env rows else Q (.exit i) env rows:=by
 simp only[SN]
 by_cases h:i=id
 ·subst h;simp
 ·have:(i==id)=false:=by simpa using h
  simp[h,this]
theorem q_ct(a b):Ie C a b Q env rows (.raw (.bool true))=aw C a Q env rows:=by simp[Ie]
theorem q_cf(a b):Ie C a b Q env rows (.raw (.bool false))=aw C b Q env rows:=by simp[Ie]
theorem q_on:dR C [] env rows K=K env rows:=aav rfl rfl
theorem q_oc(dst o os):dR C (⟨dst,o,none⟩::os) env rows K=dX C env rows o (kOp C dst os env K):=aav rfl rfl
theorem q_og(dst o g want os):dR C (⟨dst,o,some (g,want)⟩::os) env rows K=bj (look env g) (ZG C dst o want os env rows K):=aav rfl rfl
theorem q_gtt(dst o os):ZG C dst o true os env rows K (.raw (.bool true))=dX C env rows o (kOp C dst os env K):=by simp only[ZG];simp;rfl
theorem q_gtf(dst o os):ZG C dst o false os env rows K (.raw (.bool true))=dR C os (put dst (.cd []) env) rows K:=by simp[ZG]
theorem q_gft(dst o os):ZG C dst o true os env rows K (.raw (.bool false))=dR C os (put dst (.cd []) env) rows K:=by simp[ZG]
theorem q_gff(dst o os):ZG C dst o false os env rows K (.raw (.bool false))=dX C env rows o (kOp C dst os env K):=by simp only[ZG];simp;rfl
theorem q_gz(dst o want os):ZG C dst o want os env rows K (.cd [])=dR C os (put dst (.cd []) env) rows K:=aav rfl rfl
theorem q_ko(dst os d):kOp C dst os env K d rows=dR C os (put dst d env) rows K:=aav rfl rfl
theorem q_bs{α:Type}(a:α)(k:α->Prop):bj (some a) k=k a:=aav rfl rfl
theorem q_et(t):ev C env (.tmp t)=look env t:=aav rfl rfl
theorem q_ec(v):ev C env (.const v)=some (.raw v):=aav rfl rfl
theorem q_eg(g):ev C env (.aZ g)=(C.aZ g).map D.cb:=by
 simp only[ev]
 cases C.aZ g<;>rfl
theorem q_lk(j t d):look ((j,d)::env) t=bif j==t then some d else look env t:=aav rfl rfl
theorem q_ps(t d):put (some t) d env=(t,d)::env:=aav rfl rfl
theorem q_pn(d):put none d env=env:=aav rfl rfl
theorem q_es0:OZ C env []=some []:=aav rfl rfl
theorem q_es1(x l):OZ C env (x::l)=match ev C env x with|some d=>(match OZ C env l with|some ds=>some (d::ds)|none=>none)|none=>none:=aav rfl rfl
theorem q_eo0:Ks C env none=some none:=aav rfl rfl
theorem q_eo1(x):Ks C env (some x)=(ev C env x).bind λd=>(ZF d).map some:=by
 show(match ev C env x with|some (.raw (.int _ n))=>some (some n)| _=>none)=_
 cases ev C env x with
 |none=>rfl
 |some d=>cases d with
  |raw v=>cases v<;>rfl
  | _=>rfl
theorem o_mv(x):dX C env rows (.mv x) k=bj (ev C env x) λd=>k d rows:=aav rfl rfl
theorem o_pick(c a b):dX C env rows (.pick c a b) k=bj (ev C env c) (Vt C a b env rows k):=aav rfl rfl
theorem o_bin(op x y):dX C env rows (.bin op x y) k=bj (ev C env x) fun
  | .raw a=>bj (ev C env y) fun
   | .raw b=>cm op a b λd=>k d rows
   | _=>False
  | _=>False:=aav rfl rfl
theorem o_eqa(s neg x y):dX C env rows (.eqa s neg x y) k=bj (ev C env x) λdx=>bj (ev C env y) λdy=>bj (eqA s dx dy) λb=>k (.raw (.bool (bif neg then !b else b))) rows:=by
 show bj _ _=_
 congr 1
 funext dx
 cases dx with
 | agg s1 l =>
  show bj _ _=_
  congr 1
  funext dy
  cases dy with
  | agg s2 l' =>
   show(s1=s/\s2=s/\_)=_
   unfold eqA
   by_cases h1:s1=s
   ·by_cases h2:s2=s
    ·simp[h1,h2]
    ·have:(s2==s)=false:=by simpa using h2
     simp[h2,this,bj]
   ·have:(s1==s)=false:=by simpa using h1
    simp[h1,this,bj]
  | _=>rfl
 | _=>
  cases ev C env y<;>rfl
theorem eL_n:DW [] []=some true:=aav rfl rfl
theorem eL_c(a l b l'):DW (a::l) (b::l')=(zJ a b).bind λt=>(DW l l').map λu=>t&&u:=by
 simp only[DW]
 cases zJ a b with
 |none=>rfl
 |some t=>cases DW l l'<;>rfl
theorem eD_agg(s l s' l'):zJ (.agg s l) (.agg s' l')=DW l l':=by simp only[zJ]
theorem eD_u32(a b):zJ (.raw (u32 a)) (.raw (u32 b))=some (decide (a=b)):=by simp only[zJ,lu,u32,abR];congr 1;exact aeg.2 ⟨λh=>aaL (by omega),λh=>by rw[h]⟩
theorem o_beq(neg x y):dX C env rows (.beq neg x y) k=bj (ev C env x) fun
  | .raw (.bool a)=>bj (ev C env y) fun
   | .raw (.bool b)=>k (.raw (.bool (bif neg then !(a==b)else a==b))) rows
   | _=>False
  | _=>False:=aav rfl rfl
theorem o_un(op x):dX C env rows (.un op x) k=bj (ev C env x) fun
  | .raw a=>aUn op a λd=>k d rows
  | _=>False:=aav rfl rfl
theorem o_conv(kd x):dX C env rows (.conv kd x) k=bj (ev C env x) λd=>bj (DY kd d) λv=>k (.raw v) rows:=by
 show(bj _ _)=_
 congr 1
 funext d
 cases d with
 |raw v=>cases v<;>rfl
 | _=>rfl
theorem o_alloc(s z):dX C env rows (.alloc s z) k=k (.ptr s rows.length [0]) (rows++[some ⟨s,[z]⟩]):=aav rfl rfl
theorem o_box(s x):dX C env rows (.box s x) k=bj (ev C env x) λd=>d.fits s=true/\k (.ptr s rows.length [0]) (rows++[some ⟨s,[d]⟩]):=aav rfl rfl
theorem o_build(s z parts):dX C env rows (.build s z parts) k=bj (qi C env s.sub parts z) λl=>k (.agg s l) rows:=aav rfl rfl
theorem o_bslice(s n z parts):dX C env rows (.fw s n z parts) k=bj (qi C env (Sh.ar n s).sub parts (List.replicate n z)) λl=>k (.sl s rows.length [] 0 n true) (rows++[some ⟨s,l⟩]):=aav rfl rfl
theorem o_load(s x):dX C env rows (.load s x) k=bj (ev C env x) fun
  | .ptr s' r p=>s'=s/\bj (live rows r) λrow=>bj (cM row.els p) λd=>k d rows
  | .cb d=>d.fits s=true/\k d rows
  | .nX m t r p off=>s= .ar m t/\bj (elems rows (.sl t r p off m false)) λl=>l.length=m/\k (.agg s l) rows
  | _=>False:=aav rfl rfl
theorem o_store(s x v):dX C env rows (.store s x v) k=bj (ev C env x) fun
  | .ptr s' r p => bj (ev C env v) λd => d.fits s = true /\ s' = s /\ bj (live rows r) λrow => bj (mL row.els p d) λels =>
    k (.cd []) (rows.set r (some ⟨row.sh,els⟩))
  | _=>False:=aav rfl rfl
theorem o_nilc(x):dX C env rows (.qA x) k=bj (ev C env x) fun
  | .ptr s r p=>k (.ptr s r p) rows
  | .cb d=>k (.cb d) rows
  | _=>False:=aav rfl rfl
theorem o_faddr(s x i):dX C env rows (.fx s x i) k=bj (ev C env x) fun
  | .ptr s' r p=>s'=s/\bj (s.sub i) λe=>k (.ptr e r (p++[i])) rows
  | .cb (.agg s' l)=>s'=s/\bj (l[i]?) λd=>k (.cb d) rows
  | _=>False:=aav rfl rfl
theorem o_field(s x i):dX C env rows (.field s x i) k=bj (ev C env x) fun
  | .agg s' l=>s'=s/\bj (l[i]?) λd=>k d rows
  | _=>False:=aav rfl rfl
theorem o_iaddra(m s x i):dX C env rows (.xf m s x i) k=bj (ev C env x) λdx=>bj (ev C env i) λdi=>bj (ZF di) λn=>match dx with
   | .ptr t r p=>t= .ar m s/\0<=n/\n<(m:Int)/\k (.ptr s r (p++[n.toNat])) rows
   | .cb (.agg t l)=>t= .ar m s/\0<=n/\n<(m:Int)/\bj (l[n.toNat]?) λd=>k (.cb d) rows
   | _=>False:=by
 show(bj _ _)=_
 congr 1
 funext dx
 show(bj _ _)=_
 congr 1
 funext d
 cases d with
 |raw v=>cases v<;>rfl
 | _=>rfl
theorem o_iaddrs(s x i):dX C env rows (.js s x i) k=bj (ev C env x) λdx=>bj (ev C env i) λdi=>bj (ZF di) λn=>pC s n rows k dx:=by
 show(bj _ _)=_
 congr 1
 funext dx
 show(bj _ _)=_
 congr 1
 funext d
 cases d with
 |raw v=>cases v<;>rfl
 | _=>rfl
theorem q_ixl(s n t l e):pC s n rows k (.dh t l e)=(t=s/\0<=n/\n<(l.length:Int)/\bj (l[n.toNat]?) λd=>k (.cb d) rows):=aav rfl rfl
theorem q_ixs(s n t r p off len e):pC s n rows k (.sl t r p off len e)=(t=s/\0<=n/\n<(len:Int)/\k (.ptr s r (p++[off+n.toNat])) rows):=aav rfl rfl
theorem o_index(m s x i):dX C env rows (.index m s x i) k=bj (ev C env x) fun
  | .agg t l=>bj (ev C env i) λdi=>bj (ZF di) λn=>t= .ar m s/\0<=n/\n<(m:Int)/\bj (l[n.toNat]?) λd=>k d rows
  | _=>False:=by
 show(bj _ _)=_
 congr 1
 funext dx
 cases dx with
 |agg t l=>
  show(bj _ _)=_
  congr 1
  funext d
  cases d with
  |raw v=>cases v<;>rfl
  | _=>rfl
 | _=>rfl
theorem o_sindex(x i):dX C env rows (.vk x i) k=bj (ev C env x) fun
  | .raw (.string b)=>bj (ev C env i) λdi=>bj (ZF di) λn=>0<=n/\bj (b.data.toList[n.toNat]?) λc=>k (.raw (u8 c.toBitVec)) rows
  | _=>False:=by
 show(bj _ _)=_
 congr 1
 funext dx
 cases dx with
 | raw v => cases v with
  |string b=>
   show(bj _ _)=_
   congr 1
   funext d
   cases d with
   |raw v=>cases v<;>rfl
   | _=>rfl
  | _=>rfl
 | _=>rfl
theorem o_slicea(m s x lo hi mx):dX C env rows (.Ay m s x lo hi mx) k=bj (ev C env x) λdx=>bj (Ks C env lo) λl=>bj (Ks C env hi) λh=>bj (Ks C env mx) λc=>
   nB (l.getD 0) (h.getD m) (c.getD m) m λl h c=>match dx with
    | .ptr t r p=>t= .ar m s/\k (.sl s r p l (h-l) (h==c)) rows
    | .cb (.agg t els)=>t= .ar m s/\k (.dh s ((els.drop l).take (h-l)) (h==c)) rows
    | _=>False:=aav rfl rfl
theorem o_slice(s x lo hi mx):dX C env rows (.slice s x lo hi mx) k=bj (ev C env x) λdx=>bj (Ks C env lo) λl=>bj (Ks C env hi) λh=>bj (Ks C env mx) λc=>If s l h c rows k dx:=aav rfl rfl
theorem o_mks(s bytes z len cap):dX C env rows (.mks s bytes z len cap) k=bj (ev C env len) λdl=>bj (ZF dl) λl=>bj (ev C env cap) λdc=>bj (ZF dc) λc=>0<=l/\l<=c/\c*bytes<=(most:Int)/\c<=(most:Int)/\
     k (.sl s rows.length [] 0 l.toNat (decide (l=c))) (rows++[some ⟨s,List.replicate l.toNat z⟩]):=by
 show(bj _ _)=_
 congr 1
 funext d
 cases d with
 | raw v => cases v with
  |int kk l=>
   show(bj _ _)=_
   congr 1
   funext d
   cases d with
   |raw v=>cases v<;>rfl
   | _=>rfl
  | _=>rfl
 | _=>rfl
theorem o_ext(x i):dX C env rows (.ext x i) k=bj (ev C env x) fun
  | .cd l=>bj (l[i]?) λd=>k d rows
  | _=>False:=aav rfl rfl
theorem o_len(x):dX C env rows (.len x) k=bj (ev C env x) λd=>bj (dW d) λn=>k (.raw (it n)) rows:=aav rfl rfl
theorem o_strlen(x):dX C env rows (.Az x) k=bj (ev C env x) fun
  | .raw (.string b)=>k (.raw (it b.size)) rows
  | _=>False:=aav rfl rfl
theorem o_append(s bytes a b):dX C env rows (.append s bytes a b) k=bj (ev C env a) λda=>bj (ev C env b) λdb=>bj (pw rows s db) λnews=>(∀k,dW db=some k->news.length=k)/\xh rows s bytes da news k:=aav rfl rfl
theorem Xv(s bytes z a n):dX C env rows (.vl s bytes z a n) k=bj (ev C env a) λda=>bj (ev C env n) λdn=>bj (ZF dn) λm=>0<=m/\xh rows s bytes da (List.replicate m.toNat z) k:=by
 show(bj _ _)=_
 congr 1
 funext dx
 show(bj _ _)=_
 congr 1
 funext d
 cases d with
 |raw v=>cases v<;>rfl
 | _=>rfl
theorem o_copy(s a b):dX C env rows (.copy s a b) k=bj (ev C env a) λda=>bj (ev C env b) λdb=>bj (pw rows s db) λsrc=>(∀k,dW db=some k->src.length=k)/\oq rows s da src k:=aav rfl rfl
theorem o_minmax(mx l):dX C env rows (.xg mx l) k=bj (OZ C env l) λds=>bj (Bs mx ds) λr=>k (.raw (.int r.1 r.2)) rows:=aav rfl rfl
theorem mm_c(mx n l):Bs mx (.raw (it n)::l)=(oE mx .i64 n l).map λm=>(IntKind.i64,m):=by
 simp only[Bs,it]
 cases oE mx .i64 n l<;>rfl
theorem mf_n(mx kd n):oE mx kd n []=some n:=aav rfl rfl
theorem mf_c(mx n m l):oE mx .i64 n (.raw (it m)::l)=oE mx .i64 (bif mx then max n m else min n m) l:=by simp[oE,it]
theorem fold_it(n):Value.int .i64 n=it n:=aav rfl rfl
theorem o_b2s(x):dX C env rows (.ZS x) k=bj (ev C env x) λd=>fg (.leaf u5) d=true/\bj (elems rows d) λl=>bj (dW d) λn=>l.length=n/\bj (eK toByte l) λbs=>k (.raw (.string ⟨bs.toArray⟩)) rows:=aav rfl rfl
theorem o_s2b(x):dX C env rows (.s2b x) k=bj (ev C env x) fun
  | .raw (.string b)=>k (.dh (.leaf u5) (ofBytes b) false) rows
  | _=>False:=aav rfl rfl
theorem o_call(f args):dX C env rows (.call f args) k=bj (OZ C env args) λds=>kFn C rows f k (C.fn f) ds:=by simp only[<-Vu];exact aav rfl rfl
theorem q_fns(f A ds):kFn C rows f k (some A) ds=aG A rows k ds:=aav rfl rfl
theorem q_fnn(f ds):kFn C rows f k none ds=bj (C.Pb f) λA=>A ds rows k:=aav rfl rfl
theorem q_frq(f):C.Pb f=(C.cV f).or ((C.fnq f).map qrun):=by unfold aU.Pb;cases C.cV f<;>rfl
theorem q_ors(A:lQ)(o:Option lQ):(some A:Option lQ).or o=some A:=aav rfl rfl
theorem o_callv(fs x args):dX C env rows (.qW fs x args) k=bj (ev C env x) fun
  | .raw (.func (.func f) c1 c2)=>c1=#[]/\c2=#[]/\M2 f fs=true/\bj (OZ C env args) λds=>kFn C rows f k (C.fn f) ds
  | .Fx f s r p=>M2 f fs=true/\bj (OZ C env args) λds=>kFn C rows f k (C.fn f) (ds++[.ptr s r p])
  | _=>False:=by simp only[<-Vu];exact aav rfl rfl
theorem o_eqnil(neg x y):dX C env rows (.Br neg x y) k=bj (ev C env x) λdx=>bj (ev C env y) λdy=>bj (Np dx dy) λb=>k (.raw (.bool (bif neg then !b else b))) rows:=by
 show bj _ _=_
 congr 1
 funext dx
 show bj _ _=_
 congr 1
 funext dy
 cases dy with
 | raw v => cases v with
  | pointer ad => cases ad with
   | none => cases dx with
    |raw v=>cases v with
     |pointer ad=>cases ad<;>cases neg<;>rfl
     | _=>rfl
    | _=>cases neg<;>rfl
   | some _ => cases dx with
    |raw v=>cases v with
     |pointer ad=>cases ad<;>rfl
     | _=>rfl
    | _=>rfl
  | _ => cases dx with
    |raw v=>cases v with
     |pointer ad=>cases ad<;>rfl
     | _=>rfl
    | _=>rfl
 | _ => cases dx with
  |raw v=>cases v with
   |pointer ad=>cases ad<;>rfl
   | _=>rfl
  | _=>rfl
theorem nb_nn:Np (.raw (.pointer none)) (.raw (.pointer none))=some true:=aav rfl rfl
theorem nb_pn(s r p):Np (.ptr s r p) (.raw (.pointer none))=some false:=aav rfl rfl
theorem nb_cn(d):Np (.cb d) (.raw (.pointer none))=some false:=aav rfl rfl
theorem o_eqsn(neg x y):dX C env rows (.O9 neg x y) k=bj (ev C env x) λdx=>bj (ev C env y) fun
  | .raw (.slice none 0 0)=>match dx with
   | .raw (.slice none 0 0)=>k (.raw (.bool (!neg))) rows
   | .dh _ l _=>(l.length=0->k (.raw (.bool (!neg))) rows)/\k (.raw (.bool neg)) rows
   | .sl _ _ _ _ len _=>(len=0->k (.raw (.bool (!neg))) rows)/\k (.raw (.bool neg)) rows
   | _=>False
  | _=>False:=aav rfl rfl
theorem o_s2a(n s x):dX C env rows (.s2a n s x) k=bj (ev C env x) fun
  | .sl t r p off len _=>t=s/\n<=len/\0<n/\k (.nX n s r p off) rows
  | .dh t l _=>t=s/\n<=l.length/\0<n/\k (.cb (.agg (.ar n s) (l.take n))) rows
  | _=>False:=aav rfl rfl
theorem o_frzb(s x):dX C env rows (.Pa s x) k=bj (ev C env x) fun
  | .sl t r [] off len ex=>t=s/\0<len/\bj (live rows r) λrow=>off+len<=row.els.length/\k (.sl s r [] off len ex) rows
  | _=>False:=aav rfl rfl
theorem o_mnz(x):dX C env rows (.mnz x) k=bj (ev C env x) λdx=>bj (asIt dx) λn=>0<=n/\n<=(most:Int)/\∀l:List (BitVec 8),l.length=n.toNat->k (.sl L8 rows.length [] 0 n.toNat false) (rows++[some ⟨L8,l.map λb=> .raw (u8 b)⟩]):=by
 show(bj _ _)=_
 congr 1
 funext d
 cases d with
 |raw v=>cases v with
  |int kd n=>cases kd<;>simp only[asIt,bj,reduceCtorEq,false_and,abf]<;>rfl
  | _=>rfl
 | _=>rfl
theorem asIt_it(n):asIt (.raw (it n))=some n:=aav rfl rfl
theorem o_mkm(ks vs):dX C env rows (.Zt ks vs) k=k (.mp rows.length) (rows++[some ⟨pX ks vs,[]⟩]):=aav rfl rfl
theorem o_mset(ks vs m x v):dX C env rows (.je ks vs m x v) k=bj (ev C env m) λdm=>bj (asMp dm) λr=>bj (ev C env x) λkd=>bj (ev C env v) λdv=>kd.fits ks=true/\dv.fits vs=true/\bj (live rows r) λrow=>row.sh=pX ks vs/\
     k (.cd []) (rows.set r (some ⟨row.sh,.agg (pX ks vs) [kd,dv]::row.els⟩)):=by show(bj _ _)=_;congr 1;funext d;cases d<;>rfl
theorem o_mget(ks vs ok z m x):dX C env rows (.Gm ks vs ok z m x) k=bj (ev C env m) λdm=>bj (ev C env x) λkd=>kd.fits ks=true/\bj (Ht rows (pX ks vs) dm) λels=>bj (tT kd els) λo=>k (mres vs ok z o) rows:=aav rfl rfl
theorem mr_mp(r):asMp (.mp r)=some r:=aav rfl rfl
theorem me_mp(rows s r):Ht rows s (.mp r)=(live rows r).bind λrow=>bif row.sh==s then some row.els else none:=by simp only[Ht];cases live rows r<;>rfl
theorem mr_ft(vs z v):mres vs false z (some v)=dV vs v:=aav rfl rfl
theorem mr_fn(vs z):mres vs false z none=z:=aav rfl rfl
theorem o_clr(s z x):dX C env rows (.clr s z x) k=bj (ev C env x) λd=>bj (dW d) λn=>oq rows s d (List.replicate n z) λ_ rows=>k (.cd []) rows:=aav rfl rfl
theorem o_mkf(f x):dX C env rows (.mkf f x) k=bj (ev C env x) fun
  | .ptr s r p=>k (.Fx f s r p) rows
  | _=>False:=aav rfl rfl
theorem o_idxb(x y):dX C env rows (.Sk x y) k=bj (ev C env x) fun
  | .raw (.string b)=>bj (ev C env y) fun
   | .raw (.int .u8 c)=>k (.raw (.int .i64 (WZ c b))) rows
   | _=>False
  | _=>False:=aav rfl rfl
theorem q_pk(a b t):Vt C a b env rows k (.raw (.bool t))=bj (pkO t (ev C env a) (ev C env b)) λd=>k d rows:=aav rfl rfl
theorem q_pkt(x y):pkO true x y=x:=aav rfl rfl
theorem q_pkf(x y):pkO false x y=y:=aav rfl rfl
theorem q_f0(sub z):qi C env sub [] z=some z:=aav rfl rfl
theorem q_f1(sub z i x r):qi C env sub ((i,x)::r) z=match ev C env x with
  |some d=>match sub i with
   |some e=>bif d.fits e then qi C env sub r (z.set i d)else none
   |none=>none
  |none=>none:=aav rfl rfl
theorem ii(np mu ac ds):aB C np mu ac ds rows k=(ds.length=np/\aw C ac (BS mu k) (rv 0 ds) rows):=aav rfl rfl
theorem vw_agg(m s l):view rows (m+1) (.agg s l)=bif s.pure then some (.agg s l)else(eK (view rows m) l).map λl'=> .agg s l':=by
 simp only[view]
 cases s.pure with
 |true=>rfl
 |false=>cases eK (view rows m) l<;>rfl
theorem vw_ptr(m s r p):view rows (m+1) (.ptr s r p)=(live rows r).bind λrow=>(cM row.els p).bind λd=>bif s.pure then some (.cb d)else(view rows m d).map .cb:=by
 simp only[view]
 cases live rows r with
 |none=>rfl
 | some row =>
  simp only[abg]
  cases cM row.els p with
  |none=>rfl
  |some d=>
   simp only[abg]
   cases s.pure with
   |true=>rfl
   |false=>cases view rows m d<;>rfl
end eqs
theorem dQ{C:aU}{a:aj}{Q:gF->Env->Rows->Prop}{env:Env}{rows:Rows}(n:Nat)(h:qX (aw C a) Q n env rows):LP C a Q env rows:=⟨n,h⟩
def kLp(C:aU)(a:aj)(Q:gF->Env->Rows->Prop)(n:Nat):gF->Env->Rows->Prop:=λe env rows=>match e with
 | .normal=>qX (aw C a) Q n env rows
 |e=>Q e env rows
theorem lp_s(C:aU)(a:aj)(Q:gF->Env->Rows->Prop)(n:Nat)(env:Env)(rows:Rows):qX (aw C a) Q (n+1) env rows=aw C a (kLp C a Q n) env rows:=aav rfl rfl
theorem lp_n(C:aU)(a:aj)(Q:gF->Env->Rows->Prop)(n:Nat)(env:Env)(rows:Rows):kLp C a Q n .normal env rows=qX (aw C a) Q n env rows:=aav rfl rfl
theorem lp_e(C:aU)(a:aj)(Q:gF->Env->Rows->Prop)(n i:Nat)(env:Env)(rows:Rows):kLp C a Q n (.exit i) env rows=Q (.exit i) env rows:=aav rfl rfl
theorem asI_it(n:Int):ZF (.raw (it n))=some n:=aav rfl rfl
theorem asI_u8(x:BitVec 8):ZF (.raw (u8 x))=some (x.toNat:Int):=aav rfl rfl
theorem isSc_u8(x:BitVec 8):oD (u8 x) (.int .u8)=true:=aav rfl rfl
theorem asI_u32(x:BitVec 32):ZF (.raw (u32 x))=some (x.toNat:Int):=aav rfl rfl
theorem isSc_u32(x:BitVec 32):oD (u32 x) (.int .u32)=true:=aav rfl rfl
theorem asI_u64(x:BitVec 64):ZF (.raw (u64 x))=some (x.toNat:Int):=aav rfl rfl
theorem isSc_u64(x:BitVec 64):oD (u64 x) (.int .u64)=true:=aav rfl rfl
theorem isSc_it(n:Int):oD (it n) (.int .i64)=true:=aav rfl rfl
theorem isSc_b(b:Bool):oD (.bool b) .bool=true:=aav rfl rfl
theorem isSc_s(b:ByteArray):oD (.string b) .str=true:=aav rfl rfl
theorem fits_raw(v:Value)(k:Sc):D.fits (.raw v) (.leaf k)=oD v k:=aav rfl rfl
theorem PW(s:Sh)(l:List D)(t:Sh):D.fits (.agg s l) t=(s==t):=by cases t<;>rfl
theorem sh_beq(s:Sh):(s==s)=true:=by simp
theorem fits_lst(s l e):D.fits (.dh s l e) .ref=true:=aav rfl rfl
theorem fits_sl(s r p o n e):D.fits (.sl s r p o n e) .ref=true:=aav rfl rfl
theorem fits_ptr(s r p):D.fits (.ptr s r p) .ref=true:=aav rfl rfl
theorem fits_mp(r):D.fits (.mp r) .ref=true:=aav rfl rfl
theorem Xw:D.fits (.raw (.slice none 0 0)) .ref=true:=aav rfl rfl
theorem cv_8_32(x:BitVec 8):DY .u32 (.raw (u8 x))=some (u32 (x.setWidth 32)):=by simp only[DY,u8,u32,IntKind.wrap,IntKind.signed,IntKind.bits];have:=x.isLt;simp;try omega
theorem cv_8_it(x:BitVec 8):DY .i64 (.raw (u8 x))=some (it x.toNat):=by simp only[DY,u8,it,IntKind.wrap,IntKind.signed,IntKind.bits];have:=x.isLt;simp;try omega
theorem cv_it_8(n:Int):DY .u8 (.raw (it n))=some (u8 (BitVec.ofInt 8 n)):=by simp only[DY,u8,it,IntKind.wrap,IntKind.signed,IntKind.bits];simp[acz];try omega
theorem cv_16_it(x:BitVec 16):DY .i64 (.raw (u16 x))=some (it x.toNat):=by simp only[DY,u16,it,IntKind.wrap,IntKind.signed,IntKind.bits];have:=x.isLt;simp;try omega
theorem cv_32_8(x:BitVec 32):DY .u8 (.raw (u32 x))=some (u8 (x.setWidth 8)):=by simp only[DY,u32,u8,IntKind.wrap,IntKind.signed,IntKind.bits];have:=x.isLt;simp
theorem cv_32_64(x:BitVec 32):DY .u64 (.raw (u32 x))=some (u64 (x.setWidth 64)):=by simp only[DY,u32,u64,IntKind.wrap,IntKind.signed,IntKind.bits];have:=x.isLt;simp;try omega
theorem cv_32_it(x:BitVec 32):DY .i64 (.raw (u32 x))=some (it x.toNat):=by simp only[DY,u32,it,IntKind.wrap,IntKind.signed,IntKind.bits];have:=x.isLt;simp;try omega
theorem cv_it_32(n:Int):DY .u32 (.raw (it n))=some (u32 (BitVec.ofInt 32 n)):=by simp only[DY,u32,it,IntKind.wrap,IntKind.signed,IntKind.bits];simp[acz];try omega
theorem cv_64_8(x:BitVec 64):DY .u8 (.raw (u64 x))=some (u8 (x.setWidth 8)):=by simp only[DY,u64,u8,IntKind.wrap,IntKind.signed,IntKind.bits];have:=x.isLt;simp
theorem cv_64_it(x:BitVec 64):DY .i64 (.raw (u64 x))=some (it (wz x.toNat)):=aav rfl rfl
theorem cv_it_64(n:Int):DY .u64 (.raw (it n))=some (u64 (BitVec.ofInt 64 n)):=by simp only[DY,u64,it,IntKind.wrap,IntKind.signed,IntKind.bits];simp[acz];try omega
theorem bc{p q:Prop}[Decidable p][Decidable q]{i:IntKind}{k:D->Prop}(h:p↔q):(i=i/\k (.raw (.bool (decide p))))=k (.raw (.bool (decide q))):=by rw[ad0,abf,aeg.2 h]
theorem bcn{p q:Prop}[Decidable p][Decidable q]{i:IntKind}{k:D->Prop}(h:p↔q):(i=i/\k (.raw (.bool (!decide p))))=k (.raw (.bool (!decide q))):=by rw[ad0,abf,aeg.2 h]
theorem nz{w:Nat}(y:BitVec w):((y.toNat:Int)≠0)=(y≠0):=propext ⟨λh h2=>h (by rw[h2];rfl),λh h2=>h (aaL (by simp;omega))⟩
theorem eqn{w:Nat}{x y:BitVec w}:(x.toNat:Int)=y.toNat↔x=y:=⟨λh=>aaL (by omega),λh=>by rw[h]⟩
theorem ze_n(k:Nat):rv k []=[]:=aav rfl rfl
theorem ze_c(k:Nat)(d:D)(ds:List D):rv k (d::ds)=(k,d)::rv (k+1) ds:=aav rfl rfl
section bins
variable (k:D->Prop)
theorem wr8(n:Int):IntKind.u8.wrap n=n %256:=by
 unfold IntKind.wrap
 rw[aaC (by simp[IntKind.signed])]
 rfl
theorem lt8(x:BitVec 8):(x.toNat:Int)<256:=by have:=x.isLt;omega
theorem of8(x:BitVec 8):BitVec.ofInt IntKind.u8.bits (x.toNat:Int)=x:=by rw[abb];exact(adD (m:=8) (x:=x)).trans (adE _)
theorem id8(x:BitVec 8):((x.toNat:Int)) %256=x.toNat:=adn (by omega) (lt8 x)
theorem ba8{n:Int}{z:BitVec 8}{k:D->Prop}(h:n %256=(z.toNat:Int)):(IntKind.u8=IntKind.u8/\k (.raw (.int .u8 (IntKind.u8.wrap n))))=k (.raw (u8 z)):=by rw[ad0,abf,wr8,h];rfl
theorem b_add8(x y:BitVec 8):cm .add (u8 x) (u8 y) k=k (.raw (u8 (x+y))):=ba8 (by rw[acA];omega)
theorem b_sub8(x y:BitVec 8):cm .sub (u8 x) (u8 y) k=k (.raw (u8 (x-y))):=ba8 (by have h1:=x.isLt;have h2:=y.isLt;rw[adR];omega)
theorem b_and8(x y:BitVec 8):cm .and (u8 x) (u8 y) k=k (.raw (u8 (x&&&y))):=ba8 (by rw[of8,of8];exact id8 _)
theorem b_xor8(x y:BitVec 8):cm .xor (u8 x) (u8 y) k=k (.raw (u8 (x^^^y))):=ba8 (by rw[of8,of8];exact id8 _)
theorem Xx(x y:BitVec 8):cm .andNot (u8 x) (u8 y) k=k (.raw (u8 (x&&&~~~y))):=ba8 (by rw[of8,of8];exact id8 _)
theorem b_rem8(x y:BitVec 8):cm .rem (u8 x) (u8 y) k=(y≠0/\k (.raw (u8 (x %y)))):=by
 have h0:=nz y
 have h:((x.toNat:Int).tmod y.toNat)=((x %y).toNat:Int):=by
  rw[abC,abN (by omega),<-acB]
 show(IntKind.u8=IntKind.u8/\(y.toNat:Int)≠0/\k (.raw (.int .u8 _)))=_
 rw[ad0,abf,h,h0]
 rfl
theorem b_eql8(x y:BitVec 8):cm .eql (u8 x) (u8 y) k=k (.raw (.bool (decide (x=y)))):=bc eqn
theorem b_neq8(x y:BitVec 8):cm .neq (u8 x) (u8 y) k=k (.raw (.bool (!decide (x=y)))):=bcn eqn
theorem b_leq8(x y:BitVec 8):cm .leq (u8 x) (u8 y) k=k (.raw (.bool (decide (x<=y)))):=bc (by rw[abx];omega)
theorem b_geq8(x y:BitVec 8):cm .geq (u8 x) (u8 y) k=k (.raw (.bool (decide (y<=x)))):=bc (by rw[abx];omega)
theorem Xy(x:BitVec 8)(c:Nat):((x.toNat:Int)*2^(min c 8)) %256=((x<<<c).toNat:Int):=by
 rw[acq,acC]
 rcases adH c 8 with h|h
 ·rw[abI h,acB,adj,aes];rfl
 ·rw[ac6 h]
  have h1:2^c=2^(c-8)*2^8:=by rw[<-aeu];congr 1;omega
  rw[h1,<-aex,aeh]
  exact aeb _ _
theorem Xz(x:BitVec 8)(c:Nat):(x.toNat:Int).fdiv (2^(min c 8))=((x>>>c).toNat:Int):=by
 rw[abU,abq]
 have hp:((2:Int)^(min c 8))=((2^(min c 8):Nat):Int):=by norm_cast
 rw[hp,ab5 _ (abc _),<-ads]
 congr 1
 rcases adH c 8 with h|h
 ·rw[abI h]
 ·rw[ac6 h]
  have h0:=x.isLt
  rw[acN h0,acN (ab2 h0 (abK (by omega) h))]
theorem XA(x:BitVec 8)(n:Int):cm .shl (u8 x) (it n) k=(0<=n/\k (.raw (u8 (x<<<n.toNat)))):=by
 show(0<=n/\k (.raw (.int .u8 (IntKind.u8.wrap ((x.toNat:Int)*2^(min n.toNat 8))))))=_
 rw[wr8,Xy]
 rfl
theorem XB(x:BitVec 8)(n:Int):cm .shr (u8 x) (it n) k=(0<=n/\k (.raw (u8 (x>>>n.toNat)))):=by
 show(0<=n/\k (.raw (.int .u8 ((x.toNat:Int).fdiv (2^(min n.toNat 8))))))=_
 rw[Xz]
 rfl
theorem wr32(n:Int):IntKind.u32.wrap n=n %4294967296:=by
 unfold IntKind.wrap
 rw[aaC (by simp[IntKind.signed])]
 rfl
theorem lt32(x:BitVec 32):(x.toNat:Int)<4294967296:=by have:=x.isLt;omega
theorem Nr(x:BitVec 32):BitVec.ofInt IntKind.u32.bits (x.toNat:Int)=x:=by rw[abb];exact(adD (m:=32) (x:=x)).trans (adE _)
theorem id32(x:BitVec 32):((x.toNat:Int)) %4294967296=x.toNat:=adn (by omega) (lt32 x)
theorem SO{n:Int}{z:BitVec 32}{k:D->Prop}(h:n %4294967296=(z.toNat:Int)):(IntKind.u32=IntKind.u32/\k (.raw (.int .u32 (IntKind.u32.wrap n))))=k (.raw (u32 z)):=by rw[ad0,abf,wr32,h];rfl
theorem b_add32(x y:BitVec 32):cm .add (u32 x) (u32 y) k=k (.raw (u32 (x+y))):=SO (by rw[acA];omega)
theorem b_sub32(x y:BitVec 32):cm .sub (u32 x) (u32 y) k=k (.raw (u32 (x-y))):=SO (by have h1:=x.isLt;have h2:=y.isLt;rw[adR];omega)
theorem b_mul32(x y:BitVec 32):cm .mul (u32 x) (u32 y) k=k (.raw (u32 (x*y))):=SO (by rw[BitVec.toNat_mul,acB,adj];rfl)
theorem b_and32(x y:BitVec 32):cm .and (u32 x) (u32 y) k=k (.raw (u32 (x&&&y))):=SO (by rw[Nr,Nr];exact id32 _)
theorem b_or32(x y:BitVec 32):cm .or (u32 x) (u32 y) k=k (.raw (u32 (x|||y))):=SO (by rw[Nr,Nr];exact id32 _)
theorem b_xor32(x y:BitVec 32):cm .xor (u32 x) (u32 y) k=k (.raw (u32 (x^^^y))):=SO (by rw[Nr,Nr];exact id32 _)
theorem SP(x y:BitVec 32):cm .andNot (u32 x) (u32 y) k=k (.raw (u32 (x&&&~~~y))):=SO (by rw[Nr,Nr];exact id32 _)
theorem b_rem32(x y:BitVec 32):cm .rem (u32 x) (u32 y) k=(y≠0/\k (.raw (u32 (x %y)))):=by
 have h0:=nz y
 have h:((x.toNat:Int).tmod y.toNat)=((x %y).toNat:Int):=by
  rw[abC,abN (by omega),<-acB]
 show(IntKind.u32=IntKind.u32/\(y.toNat:Int)≠0/\k (.raw (.int .u32 _)))=_
 rw[ad0,abf,h,h0]
 rfl
theorem b_eql32(x y:BitVec 32):cm .eql (u32 x) (u32 y) k=k (.raw (.bool (decide (x=y)))):=bc eqn
theorem b_neq32(x y:BitVec 32):cm .neq (u32 x) (u32 y) k=k (.raw (.bool (!decide (x=y)))):=bcn eqn
theorem b_lss32(x y:BitVec 32):cm .lss (u32 x) (u32 y) k=k (.raw (.bool (decide (x<y)))):=bc (by rw[aci];omega)
theorem b_leq32(x y:BitVec 32):cm .leq (u32 x) (u32 y) k=k (.raw (.bool (decide (x<=y)))):=bc (by rw[abx];omega)
theorem b_gtr32(x y:BitVec 32):cm .gtr (u32 x) (u32 y) k=k (.raw (.bool (decide (y<x)))):=bc (by rw[aci];omega)
theorem b_geq32(x y:BitVec 32):cm .geq (u32 x) (u32 y) k=k (.raw (.bool (decide (y<=x)))):=bc (by rw[abx];omega)
theorem Ig(x:BitVec 32)(c:Nat):((x.toNat:Int)*2^(min c 32)) %4294967296=((x<<<c).toNat:Int):=by
 rw[acq,acC]
 rcases adH c 32 with h|h
 ·rw[abI h,acB,adj,aes];rfl
 ·rw[ac6 h]
  have h1:2^c=2^(c-32)*2^32:=by rw[<-aeu];congr 1;omega
  rw[h1,<-aex,aeh]
  exact aeb _ _
theorem Ih(x:BitVec 32)(c:Nat):(x.toNat:Int).fdiv (2^(min c 32))=((x>>>c).toNat:Int):=by
 rw[abU,abq]
 have hp:((2:Int)^(min c 32))=((2^(min c 32):Nat):Int):=by norm_cast
 rw[hp,ab5 _ (abc _),<-ads]
 congr 1
 rcases adH c 32 with h|h
 ·rw[abI h]
 ·rw[ac6 h]
  have h0:=x.isLt
  rw[acN h0,acN (ab2 h0 (abK (by omega) h))]
theorem SQ(x:BitVec 32)(n:Int):cm .shl (u32 x) (it n) k=(0<=n/\k (.raw (u32 (x<<<n.toNat)))):=by
 show(0<=n/\k (.raw (.int .u32 (IntKind.u32.wrap ((x.toNat:Int)*2^(min n.toNat 32))))))=_
 rw[wr32,Ig]
 rfl
theorem SR(x:BitVec 32)(n:Int):cm .shr (u32 x) (it n) k=(0<=n/\k (.raw (u32 (x>>>n.toNat)))):=by
 show(0<=n/\k (.raw (.int .u32 ((x.toNat:Int).fdiv (2^(min n.toNat 32))))))=_
 rw[Ih]
 rfl
theorem SS(x:BitVec 32)(n:BitVec 64):cm .shl (u32 x) (u64 n) k=k (.raw (u32 (x<<<n.toNat))):=by
 show(0<=(n.toNat:Int)/\k (.raw (.int .u32 (IntKind.u32.wrap ((x.toNat:Int)*2^(min (n.toNat:Int).toNat 32))))))=_
 rw[wr32,aaz,Ig,aas (by omega:0<=(n.toNat:Int)),abf]
 rfl
theorem SU(x:BitVec 32)(n:BitVec 64):cm .shr (u32 x) (u64 n) k=k (.raw (u32 (x>>>n.toNat))):=by
 show(0<=(n.toNat:Int)/\k (.raw (.int .u32 ((x.toNat:Int).fdiv (2^(min (n.toNat:Int).toNat 32))))))=_
 rw[aaz,Ih,aas (by omega:0<=(n.toNat:Int)),abf]
 rfl
theorem u_not32(x:BitVec 32):aUn .xor (u32 x) k=k (.raw (u32 (~~~x))):=by
 show k (.raw (.int .u32 (IntKind.u32.wrap (BitVec.ofInt IntKind.u32.bits (if IntKind.u32.signed then-1 else IntKind.u32.max)^^^BitVec.ofInt IntKind.u32.bits (x.toNat:Int)).toNat)))=_
 have h:BitVec.ofInt IntKind.u32.bits (if IntKind.u32.signed then-1 else IntKind.u32.max)=BitVec.allOnes 32:=by kernel_rfl
 rw[h,Nr,wr32]
 have h2:(BitVec.allOnes 32^^^x)= ~~~x:=BitVec.allOnes_xor
 show k (.raw (.int .u32 (((BitVec.allOnes 32^^^x).toNat:Int) %4294967296)))=_
 rw[h2,id32]
 rfl
theorem wr64(n:Int):IntKind.u64.wrap n=n %18446744073709551616:=by
 unfold IntKind.wrap
 rw[aaC (by simp[IntKind.signed])]
 rfl
theorem lt64(x:BitVec 64):(x.toNat:Int)<18446744073709551616:=by have:=x.isLt;omega
theorem of64(x:BitVec 64):BitVec.ofInt IntKind.u64.bits (x.toNat:Int)=x:=by rw[abb];exact(adD (m:=64) (x:=x)).trans (adE _)
theorem id64(x:BitVec 64):((x.toNat:Int)) %18446744073709551616=x.toNat:=adn (by omega) (lt64 x)
theorem ba64{n:Int}{z:BitVec 64}{k:D->Prop}(h:n %18446744073709551616=(z.toNat:Int)):(IntKind.u64=IntKind.u64/\k (.raw (.int .u64 (IntKind.u64.wrap n))))=k (.raw (u64 z)):=by rw[ad0,abf,wr64,h];rfl
theorem b_add64(x y:BitVec 64):cm .add (u64 x) (u64 y) k=k (.raw (u64 (x+y))):=ba64 (by rw[acA];omega)
theorem b_sub64(x y:BitVec 64):cm .sub (u64 x) (u64 y) k=k (.raw (u64 (x-y))):=ba64 (by have h1:=x.isLt;have h2:=y.isLt;rw[adR];omega)
theorem b_mul64(x y:BitVec 64):cm .mul (u64 x) (u64 y) k=k (.raw (u64 (x*y))):=ba64 (by rw[BitVec.toNat_mul,acB,adj];rfl)
theorem b_and64(x y:BitVec 64):cm .and (u64 x) (u64 y) k=k (.raw (u64 (x&&&y))):=ba64 (by rw[of64,of64];exact id64 _)
theorem b_quo64(x y:BitVec 64):cm .quo (u64 x) (u64 y) k=(y≠0/\k (.raw (u64 (x/y)))):=by
 have h0:=nz y
 have h:((x.toNat:Int).tdiv y.toNat) %18446744073709551616=((x/y).toNat:Int):=by
  rw[aec,ab6 (by omega),<-ads,<-aec]
  exact id64 _
 show(IntKind.u64=IntKind.u64/\(y.toNat:Int)≠0/\k (.raw (.int .u64 _)))=_
 rw[ad0,abf,wr64,h,h0]
 rfl
theorem b_rem64(x y:BitVec 64):cm .rem (u64 x) (u64 y) k=(y≠0/\k (.raw (u64 (x %y)))):=by
 have h0:=nz y
 have h:((x.toNat:Int).tmod y.toNat)=((x %y).toNat:Int):=by
  rw[abC,abN (by omega),<-acB]
 show(IntKind.u64=IntKind.u64/\(y.toNat:Int)≠0/\k (.raw (.int .u64 _)))=_
 rw[ad0,abf,h,h0]
 rfl
theorem b_gtr64(x y:BitVec 64):cm .gtr (u64 x) (u64 y) k=k (.raw (.bool (decide (y<x)))):=bc (by rw[aci];omega)
theorem b_geq64(x y:BitVec 64):cm .geq (u64 x) (u64 y) k=k (.raw (.bool (decide (y<=x)))):=bc (by rw[abx];omega)
theorem SV(x:BitVec 64)(c:Nat):((x.toNat:Int)*2^(min c 64)) %18446744073709551616=((x<<<c).toNat:Int):=by
 rw[acq,acC]
 rcases adH c 64 with h|h
 ·rw[abI h,acB,adj,aes];rfl
 ·rw[ac6 h]
  have h1:2^c=2^(c-64)*2^64:=by rw[<-aeu];congr 1;omega
  rw[h1,<-aex,aeh]
  exact aeb _ _
theorem Ii(x:BitVec 64)(c:Nat):(x.toNat:Int).fdiv (2^(min c 64))=((x>>>c).toNat:Int):=by
 rw[abU,abq]
 have hp:((2:Int)^(min c 64))=((2^(min c 64):Nat):Int):=by norm_cast
 rw[hp,ab5 _ (abc _),<-ads]
 congr 1
 rcases adH c 64 with h|h
 ·rw[abI h]
 ·rw[ac6 h]
  have h0:=x.isLt
  rw[acN h0,acN (ab2 h0 (abK (by omega) h))]
theorem SW(x:BitVec 64)(n:Int):cm .shr (u64 x) (it n) k=(0<=n/\k (.raw (u64 (x>>>n.toNat)))):=by
 show(0<=n/\k (.raw (.int .u64 ((x.toNat:Int).fdiv (2^(min n.toNat 64))))))=_
 rw[Ii]
 rfl
theorem SX(x:BitVec 64)(n:BitVec 64):cm .shl (u64 x) (u64 n) k=k (.raw (u64 (x<<<n.toNat))):=by
 show(0<=(n.toNat:Int)/\k (.raw (.int .u64 (IntKind.u64.wrap ((x.toNat:Int)*2^(min (n.toNat:Int).toNat 64))))))=_
 rw[wr64,aaz,SV,aas (by omega:0<=(n.toNat:Int)),abf]
 rfl
theorem SY(x:BitVec 64)(n:BitVec 64):cm .shr (u64 x) (u64 n) k=k (.raw (u64 (x>>>n.toNat))):=by
 show(0<=(n.toNat:Int)/\k (.raw (.int .u64 ((x.toNat:Int).fdiv (2^(min (n.toNat:Int).toNat 64))))))=_
 rw[aaz,Ii,aas (by omega:0<=(n.toNat:Int)),abf]
 rfl
theorem b_addi(a b:Int):cm .add (it a) (it b) k=k (.raw (it (wz (a+b)))):=by simp only[cm,it,abf];rfl
theorem b_subi(a b:Int):cm .sub (it a) (it b) k=k (.raw (it (wz (a-b)))):=by simp only[cm,it,abf];rfl
theorem b_muli(a b:Int):cm .mul (it a) (it b) k=k (.raw (it (wz (a*b)))):=by simp only[cm,it,abf];rfl
theorem b_quoi(a b:Int):cm .quo (it a) (it b) k=(b≠0/\k (.raw (it (wz (a.tdiv b))))):=by simp only[cm,it,abf];rfl
theorem b_remi(a b:Int):cm .rem (it a) (it b) k=(b≠0/\k (.raw (it (a.tmod b)))):=by simp only[cm,it,abf]
theorem b_eqli(a b:Int):cm .eql (it a) (it b) k=k (.raw (.bool (decide (a=b)))):=by simp only[cm,it,abf]
theorem b_lssi(a b:Int):cm .lss (it a) (it b) k=k (.raw (.bool (decide (a<b)))):=by simp only[cm,it,abf]
theorem b_leqi(a b:Int):cm .leq (it a) (it b) k=k (.raw (.bool (decide (a<=b)))):=by simp only[cm,it,abf]
theorem b_gtri(a b:Int):cm .gtr (it a) (it b) k=k (.raw (.bool (decide (b<a)))):=by simp only[cm,it,abf]
theorem b_geqi(a b:Int):cm .geq (it a) (it b) k=k (.raw (.bool (decide (b<=a)))):=by simp only[cm,it,abf]
theorem b_neqi(a b:Int):cm .neq (it a) (it b) k=k (.raw (.bool (!decide (a=b)))):=by simp only[cm,it,abf]
theorem b_eqls(a b:ByteArray):cm .eql (.string a) (.string b) k=k (.raw (.bool (a.toList==b.toList))):=aav rfl rfl
theorem u_notb(b:Bool):aUn .not (.bool b) k=k (.raw (.bool !b)):=aav rfl rfl
end bins
end Go.Am
namespace Go.Am
def XC(R:Env->Rows->Prop)(Q:gF->Env->Rows->Prop):gF->Env->Rows->Prop:=λe env rows=>match e with
 | .normal=>R env rows
 |e=>Q e env rows
theorem q_rn(R Q env rows):XC R Q .normal env rows=R env rows:=aav rfl rfl
theorem q_rr(R Q env rows):XC R Q .ret env rows=Q .ret env rows:=aav rfl rfl
theorem q_re(R Q i env rows):XC R Q (.exit i) env rows=Q (.exit i) env rows:=aav rfl rfl
theorem qM{C:aU}{a:aj}{Q:gF->Env->Rows->Prop}(I:Nat->Env->Rows->Prop)
  (h:∀k env rows,I k env rows->∀R:Env->Rows->Prop,(∀k' env' aa,k'<k->I k' env' aa->R env' aa)->aw C a (XC R Q) env rows)(k:Nat){env:Env}{rows:Rows}(h0:I k env rows):LP C a Q env rows:=by
 have key:∀n k env rows,k<n->I k env rows->qX (aw C a) Q n env rows:=by
  intro n
  induction n with
  |zero=>intro k env rows hk;omega
  |succ n ih=>
   intro k env rows hk hi
   exact h k env rows hi (qX (aw C a) Q n) (λk' env' aa Ps hi'=>ih k' env' aa (by omega) hi')
 exact⟨k+1,key (k+1) k env rows (by omega) h0⟩
def has(env:Env):Env->Prop
 |[]=>True
 |(t,d)::l=>look env t=some d/\has env l
def jy(s:Sh)(d:D)(rows:Rows)(els:List D):Prop:=
 (els=[]/\d= .raw (.slice none 0 0))\/∃r ex,d= .sl s r [] 0 els.length ex/\live rows r=some ⟨s,els⟩
theorem jy.nil{s:Sh}{rows:Rows}:jy s (.raw (.slice none 0 0)) rows []:= .inl ⟨rfl,rfl⟩
theorem jy.elems{s:Sh}{d:D}{rows:Rows}{els:List D}(h:jy s d rows els):elems rows d=some els:=by
 rcases h with⟨rfl,rfl⟩|⟨r,ex,rfl,hl⟩
 ·rfl
 ·simp only[Am.elems,hl];simp
theorem jy.dW{s:Sh}{d:D}{rows:Rows}{els:List D}(h:jy s d rows els):dW d=some els.length:=by
 rcases h with⟨rfl,rfl⟩|⟨r,ex,rfl,hl⟩
 ·rfl
 ·rfl
theorem jy.fg{s:Sh}{d:D}{rows:Rows}{els:List D}(h:jy s d rows els):fg s d=true:=by
 rcases h with⟨rfl,rfl⟩|⟨r,ex,rfl,hl⟩
 ·rfl
 ·simp[Am.fg]
theorem xF{rows:Rows}{x:Row}:live (rows++[some x]) rows.length=some x:=by simp[live]
theorem bG{rows more:Rows}{r:Nat}{x:Row}(h:live rows r=some x):live (rows++more) r=some x:=by
 have:=aR h
 unfold live at h⊢
 rw[aaM this];exact h
theorem lg{s:Sh}{d:D}{rows:Rows}{els news:List D}{bytes:Nat}{k:D->Rows->Prop}(h:jy s d rows els)(hb:(els.length+news.length)*bytes<=most)(Kv:els.length+news.length<=most)
  (hk:∀d' aa,jy s d' aa (els++news)->(∀r x,live rows r=some x->(∀ex,d≠ .sl s r [] 0 els.length ex)->live aa r=some x)->aa.length=rows.length+1->(∃r ex,d'= .sl s r [] 0 (els++news).length ex)->k d' aa):xh rows s bytes d news k:=by
 unfold xh
 rw[h.elems,h.dW]
 refine⟨h.fg,rfl,hb,Kv,?_⟩
 have e:els.length+news.length=(els++news).length:=by simp
 rcases h with⟨rfl,rfl⟩|⟨r,ex,rfl,hl⟩
 ·simp only[isNil,adI,aaU,kill,e]
  refine hk _ _ (.inr ⟨rows.length,false,rfl,xF⟩) (λr x hx _=>bG hx) (by simp) ⟨_,_,rfl⟩
 ·simp only[isNil,owned,acn,aaU,kill,e]
  have h1:(rows.set r none).length=rows.length:=by simp
  refine hk _ _ (.inr ⟨rows.length,false,rfl,by rw[<-h1];exact xF⟩) (λr' x hx hne=>?_) (by simp) ⟨_,_,rfl⟩
  have hr:r≠r':=λe=>hne ex (by rw[e])
  refine bG ?_
  unfold live at hx⊢
  rw[ab7 hr];exact hx
def bs(l:List (BitVec 8)):List D:=l.map λb=> .raw (u8 b)
def rd8:D->Option (BitVec 8)
 | .raw (.int .u8 n)=>bif decide (0<=n)&&decide (n<256)then some (BitVec.ofInt 8 n)else none
 | _=>none
def ry:D->Option (BitVec 32)
 | .raw (.int .u32 n)=>bif decide (0<=n)&&decide (n<4294967296)then some (BitVec.ofInt 32 n)else none
 | _=>none
def PX:D->Option (BitVec 64)
 | .raw (.int .u64 n)=>bif decide (0<=n)&&decide (n<18446744073709551616)then some (BitVec.ofInt 64 n)else none
 | _=>none
def u9:D->Option Int
 | .raw (.int .i64 n)=>some n
 | _=>none
theorem Ns(x:BitVec 8):rd8 (.raw (u8 x))=some x:=by
 have:=lt8 x
 simp only[rd8,u8]
 rw[show(decide (0<=(x.toNat:Int))&&decide ((x.toNat:Int)<256))=true by simp;omega]
 simp
theorem fL(x:BitVec 32):ry (.raw (u32 x))=some x:=by
 have:=lt32 x
 simp only[ry,u32]
 rw[show(decide (0<=(x.toNat:Int))&&decide ((x.toNat:Int)<4294967296))=true by simp;omega]
 simp
theorem BT(x:BitVec 64):PX (.raw (u64 x))=some x:=by
 have:=lt64 x
 simp only[PX,u64]
 rw[show(decide (0<=(x.toNat:Int))&&decide ((x.toNat:Int)<18446744073709551616))=true by simp;omega]
 simp
theorem qd(n:Int):u9 (.raw (it n))=some n:=rfl
theorem Ij{d:D}{x:BitVec 8}(h:rd8 d=some x):d= .raw (u8 x):=by
 unfold rd8 at h
 split at h
 ·rename_i n
  cases hb:(decide (0<=n)&&decide (n<256))with
  |false=>rw[hb]at h;cases h
  |true=>
   rw[hb]at h
   simp only[aaU,abY]at h
   simp only[aan,aaq]at hb
   subst h
   unfold u8
   rw[acz]
   congr 2
   simp;omega
 ·cases h
theorem dY{d:D}{x:BitVec 32}(h:ry d=some x):d= .raw (u32 x):=by
 unfold ry at h
 split at h
 ·rename_i n
  cases hb:(decide (0<=n)&&decide (n<4294967296))with
  |false=>rw[hb]at h;cases h
  |true=>
   rw[hb]at h
   simp only[aaU,abY]at h
   simp only[aan,aaq]at hb
   subst h
   unfold u32
   rw[acz]
   congr 2
   simp;omega
 ·cases h
theorem qN{d:D}{x:BitVec 64}(h:PX d=some x):d= .raw (u64 x):=by
 unfold PX at h
 split at h
 ·rename_i n
  cases hb:(decide (0<=n)&&decide (n<18446744073709551616))with
  |false=>rw[hb]at h;cases h
  |true=>
   rw[hb]at h
   simp only[aaU,abY]at h
   simp only[aan,aaq]at hb
   subst h
   unfold u64
   rw[acz]
   congr 2
   simp;omega
 ·cases h
theorem bX{d:D}{x:Int}(h:u9 d=some x):d= .raw (it x):=by
 unfold u9 at h
 split at h
 ·cases h;rfl
 ·cases h
def eP:D->Option (List (BitVec 8))
 | .raw (.slice none 0 0)=>some []
 | .dh s l _=>bif s== .leaf u5 then eK rd8 l else none
 | _=>none
theorem mapO_bs(l:List (BitVec 8)):eK rd8 (bs l)=some l:=by
 induction l with
 |nil=>rfl
 |cons x l ih=>
  simp only[bs,abm,eK,Ns]
  have:eK rd8 (List.map (λb=>D.raw (u8 b)) l)=some l:=ih
  rw[this]
theorem PY:∀{l:List D} {l':List (BitVec 8)},eK rd8 l=some l'->l=bs l'
 |[],l',h=>by simp[eK]at h;subst h;rfl
 | x :: l, l', h => by
  simp only[eK]at h
  split at h
  ·rename_i y hy
   split at h
   ·rename_i ys hys
    cases h
    rw[Ij hy,PY hys]
    rfl
   ·cases h
  ·cases h
theorem BU(l:List (BitVec 8))(e:Bool):eP (.dh (.leaf u5) (bs l) e)=some l:=by
 simp only[eP]
 rw[show((Sh.leaf u5)== .leaf u5)=true by simp,aaU,mapO_bs]
def eC(d:D)(l:List (BitVec 8)):Prop:=(d= .raw (.slice none 0 0)/\l=[])\/∃e,d= .dh (.leaf u5) (bs l) e
theorem fC{d:D}{l:List (BitVec 8)}(h:eP d=some l):eC d l:=by
 unfold eP at h
 split at h
 ·cases h;exact .inl ⟨rfl,rfl⟩
 ·rename_i s l0 e
  cases hb:(s== .leaf u5)with
  |false=>rw[hb]at h;cases h
  |true=>
   rw[hb]at h
   have:s= .leaf u5:=by simpa using hb
   subst this
   exact .inr ⟨e,by rw[PY h]⟩
 ·cases h
theorem eC.elems{d:D}{l:List (BitVec 8)}{rows:Rows}(h:eC d l):elems rows d=some (bs l):=by
 rcases h with⟨rfl,rfl⟩|⟨e,rfl⟩<;>rfl
theorem eC.dW{d:D}{l:List (BitVec 8)}(h:eC d l):dW d=some l.length:=by
 rcases h with⟨rfl,rfl⟩|⟨e,rfl⟩
 ·rfl
 ·simp[Am.dW,bs]
theorem eC.fg{d:D}{l:List (BitVec 8)}(h:eC d l):fg (.leaf u5) d=true:=by
 rcases h with⟨rfl,rfl⟩|⟨e,rfl⟩
 ·rfl
 ·simp[Am.fg]
theorem eC.rd{d:D}{l:List (BitVec 8)}(h:eC d l):eP d=some l:=by
 rcases h with⟨rfl,rfl⟩|⟨e,rfl⟩
 ·rfl
 ·exact BU l e
theorem hJ{d:D}{l:List (BitVec 8)}{n:Int}{rows:Rows}{k:D->Rows->Prop}(h:eC d l)(hn:0<=n/\n<l.length):pC (.leaf (.int .u8)) n rows k d=k (.cb (.raw (u8 (l.getD n.toNat 0#8)))) rows:=by
 rcases h with⟨rfl,rfl⟩|⟨e,rfl⟩
 ·simp at hn;omega
 ·have h1:n.toNat<l.length:=by omega
  have h2:(bs l)[n.toNat]?=some (.raw (u8 (l.getD n.toNat 0#8))):=by simp[bs,h1]
  simp only[pC,h2,bj]
  simp[bs,hn]
theorem aE(l:List (BitVec 8)):(bs l).length=l.length:=by simp[bs]
theorem qe(a b:List (BitVec 8)):bs a++bs b=bs (a++b):=by simp[bs]
theorem tJ{l:List (BitVec 8)}{i:Nat}(h:i<l.length):(bs l)[i]?=some (.raw (u8 (l.getD i 0#8))):=by
 simp[bs,h]
theorem Vv(l:List (BitVec 8))(x:BitVec 8):bs (l++[x])=bs l++[.raw (u8 x)]:=by simp[bs]
theorem rz{α:Type}{a:List α}{i:Nat}{z:α}(h:i<a.length):a.take (i+1)=a.take i++[a.getD i z]:=by
 rw[aaX h];simp[h]
theorem hU(l:List (BitVec 8))(n:Nat):(bs l).drop n=bs (l.drop n):=by simp[bs]
theorem fM(l:List (BitVec 8))(n:Nat):(bs l).take n=bs (l.take n):=by simp[bs]
theorem jy.view{d:D}{rows:Rows}{l:List (BitVec 8)}(h:jy (.leaf u5) d rows (bs l)):∃d',view rows 9 d=some d'/\eC d' l:=by
 rcases h with⟨h1,rfl⟩|⟨r,ex,rfl,hl⟩
 ·have:l=[]:=by cases l<;>simp_all[bs]
  subst this
  exact⟨_,rfl,.inl ⟨rfl,rfl⟩⟩
 ·refine⟨.dh (.leaf u5) (bs l) ex,?_,.inr ⟨ex,rfl⟩⟩
  simp only[Am.view]
  have:Am.elems rows (.sl (.leaf u5) r [] 0 (bs l).length ex)=some (bs l):=by simp only[Am.elems,hl];simp
  rw[this]
  simp[Sh.pure]
theorem aJ{P:Program}{G:Nat->Option D}{f:FuncId}{A:lQ}{F:Fn}(hA:aQ G P f A)
  (h:∀ds rows r,F ds rows=some r->rows=[]/\A ds [] (λd rows=>xE rows d r.1 r.2)):aQ G P f (Fn.run F):=by
 intro ds rows K hr ρ w T args hrows nD BL hargs hG
 unfold Fn.run at hr
 obtain⟨r,hr,hk⟩:=au hr
 obtain⟨rfl,h2⟩:=h ds rows r hr
 have hdom':∀r,ρ r=none:=λr=>nD r (by simp)
 exact(hA _ [] _ h2 ρ w T args hrows nD BL hargs hG).mono λe w' hb=>Eg.No hdom' hb λd rows hx=>⟨_,_,hx,hk⟩
def nv{α:Type}(rd:D->Option α)(pre:α->Bool)(out:α->D×Rows):Fn
 |[d],[]=>match rd d with
  |some x=>bif pre x then some (out x)else none
  |none=>none
 | _,_=>none
def zy{α β:Type}(rd:D->Option α)(rd':D->Option β)(pre:α->β->Bool)(out:α->β->D×Rows):Fn
 |[d,e],[]=>match rd d,rd' e with
  |some x,some y=>bif pre x y then some (out x y)else none
  | _,_=>none
 | _,_=>none
theorem bd{α:Type}{rd:D->Option α}{pre:α->Bool}{out:α->D×Rows}{ds:List D}{rows:Rows}{r:D×Rows}(h:nv rd pre out ds rows=some r):
  ∃d x,ds=[d]/\rows=[]/\rd d=some x/\pre x=true/\r=out x:=by
 unfold nv at h
 split at h
 ·rename_i d
  split at h
  ·rename_i x hx
   cases hp:pre x with
   |false=>rw[hp]at h;cases h
   |true=>rw[hp]at h;cases h;exact⟨d,x,rfl,rfl,hx,hp,rfl⟩
  ·cases h
 ·cases h
theorem dS{α β:Type}{rd:D->Option α}{rd':D->Option β}{pre:α->β->Bool}{out:α->β->D×Rows}{ds:List D}{rows:Rows}{r:D×Rows}(h:zy rd rd' pre out ds rows=some r):
  ∃d e x y,ds=[d,e]/\rows=[]/\rd d=some x/\rd' e=some y/\pre x y=true/\r=out x y:=by
 unfold zy at h
 split at h
 ·rename_i d e
  split at h
  ·rename_i x y hx hy
   cases hp:pre x y with
   |false=>rw[hp]at h;cases h
   |true=>rw[hp]at h;cases h;exact⟨d,e,x,y,rfl,rfl,hx,hy,hp,rfl⟩
  ·cases h
 ·cases h
theorem fa{α:Type}{rd:D->Option α}{pre:α->Bool}{out:α->D×Rows}{d:D}{x:α}(h:rd d=some x)(hp:pre x=true):nv rd pre out [d] []=some (out x):=by
 simp[nv,h,hp]
theorem lF{α β:Type}{rd:D->Option α}{rd':D->Option β}{pre:α->β->Bool}{out:α->β->D×Rows}{d e:D}{x:α}{y:β}(h:rd d=some x)(h':rd' e=some y)(hp:pre x y=true):
  zy rd rd' pre out [d,e] []=some (out x y):=by
 simp[zy,h,h',hp]
def eR(l:List (BitVec 8))(ex:Bool):D×Rows:=(.sl (.leaf u5) 0 [] 0 l.length ex,[some ⟨.leaf u5,bs l⟩])
def aY(rows:Rows)(d:D)(l:List (BitVec 8)):Prop:=(∃d',view rows 9 d=some d'/\eC d' l)/\(bb d=false->eC d l)
theorem eC.to{rows:Rows}{d:D}{l:List (BitVec 8)}(h:eC d l):aY rows d l:=by
 refine⟨?_,λ_=>h⟩
 rcases h with⟨rfl,rfl⟩|⟨e,rfl⟩
 ·exact⟨_,rfl,.inl ⟨rfl,rfl⟩⟩
 ·exact⟨.dh (.leaf u5) (bs l) e,rfl,.inr ⟨e,rfl⟩⟩
theorem jy.to{rows:Rows}{d:D}{l:List (BitVec 8)}(h:jy (.leaf u5) d rows (bs l)):aY rows d l:=by
 refine⟨h.view,λhr=>?_⟩
 rcases h with⟨h1,rfl⟩|⟨r,ex,rfl,hl⟩
 ·have:l=[]:=by cases l<;>simp_all[bs]
  exact .inl ⟨rfl,this⟩
 ·simp[bb]at hr
noncomputable def cj{α:Type}(mk:α->D)(d:D):Option α:=open Classical in if h:∃x,d=mk x then some h.choose else none
theorem aH{α:Type}{mk:α->D}{d:D}{x:α}(h:cj mk d=some x):d=mk x:=by
 unfold cj at h
 split at h
 ·rename_i hh
  cases h
  exact hh.choose_spec
 ·cases h
theorem bZ{α:Type}{mk:α->D}(hinj:∀x y,mk x=mk y->x=y)(x:α):cj mk (mk x)=some x:=by
 have h:∃y,mk x=mk y:=⟨x,rfl⟩
 unfold cj
 rw[dif_pos h]
 exact ach some (hinj _ _ h.choose_spec.symm)
theorem AQ{x y:BitVec 8}:u8 x=u8 y↔x=y:=⟨λh=>by unfold u8 at h;injection h with _ h;exact aaL (by omega),λh=>by rw[h]⟩
theorem lV{x y:BitVec 32}:u32 x=u32 y↔x=y:=⟨λh=>by unfold u32 at h;injection h with _ h;exact aaL (by omega),λh=>by rw[h]⟩
theorem u64_inj{x y:BitVec 64}:u64 x=u64 y↔x=y:=⟨λh=>by unfold u64 at h;injection h with _ h;exact aaL (by omega),λh=>by rw[h]⟩
theorem Ik{x y:Int}:it x=it y↔x=y:=⟨λh=>by unfold it at h;injection h,λh=>by rw[h]⟩
theorem bk{A:Fn}{rows:Rows}{k:D->Rows->Prop}{ds:List D}{r:D×Rows}(h:aX ds=false)(hA:A ds []=some r):aG A rows k ds=k (shift rows.length r.1) (rows++af rows.length r.2):=by
 unfold aG
 rw[h,hA]
 simp[bj]
theorem BV{A:Fn}{rows:Rows}{k:D->Rows->Prop}{d:D}{r:D×Rows}(hv:∀d',view rows 9 d=some d'->A [d'] []=some r)(hs:∃d',view rows 9 d=some d')(hn:bb d=false->A [d] []=some r)
  (hr:(cv r.1&&bf r.2)=true):aG A rows k [d]=k (shift rows.length r.1) (rows++af rows.length r.2):=by
 obtain⟨d',lz⟩:=hs
 unfold aG
 have h1:aX [d]=bb d:=by simp[aX]
 rw[h1]
 cases hh:bb d with
 |true=>
  simp only[adf,eK,lz,bj,hv d' lz,hr,abf]
  simp
 |false=>
  simp only[adf,bj,hn hh]
  simp
theorem qO{pre:List (BitVec 8)->Bool}{out:List (BitVec 8)->D×Rows}{rows:Rows}{k:D->Rows->Prop}{d:D}{a:List (BitVec 8)}(h:aY rows d a)(hp:pre a=true)
  (hr:(cv (out a).1&&bf (out a).2)=true):aG (nv eP pre out) rows k [d]=k (shift rows.length (out a).1) (rows++af rows.length (out a).2):=by
 obtain⟨⟨d',lz,hb⟩,hn⟩:=h
 refine BV (λd2 xu=>?_) ⟨d',lz⟩ (λhh=>fa (hn hh).rd hp) hr
 rw[lz]at xu
 cases xu
 exact fa hb.rd hp
theorem Em{pre:List (BitVec 8)->List (BitVec 8)->Bool}{out:List (BitVec 8)->List (BitVec 8)->D×Rows}{rows:Rows}{k:D->Rows->Prop}{d e:D}{a b:List (BitVec 8)}(h:aY rows d a)(h':aY rows e b)(hp:pre a b=true)
  (hr:(cv (out a b).1&&bf (out a b).2)=true):aG (zy eP eP pre out) rows k [d,e]=k (shift rows.length (out a b).1) (rows++af rows.length (out a b).2):=by
 obtain⟨⟨d',lz,hb⟩,hn⟩:=h
 obtain⟨⟨e',he',HI⟩,Nd⟩:=h'
 unfold aG
 simp only[eK,lz,he',bj,lF hb.rd HI.rd hp,hr,abf]
 cases hh:aX [d,e]with
 |true=>simp
 |false=>
  simp[aX]at hh
  simp only[lF (hn hh.1).rd (Nd hh.2).rd hp]
  simp
theorem jy.push{s:Sh}{d:D}{rows more:Rows}{els:List D}(h:jy s d rows els):jy s d (rows++more) els:=by
 rcases h with⟨h1,rfl⟩|⟨r,ex,rfl,hl⟩
 ·exact .inl ⟨h1,rfl⟩
 ·exact .inr ⟨r,ex,rfl,bG hl⟩
theorem jy.qc{s:Sh}{d:D}{rows:Rows}{els:List D}(h:jy s d rows els):qc d=some d:=by
 rcases h with⟨h1,rfl⟩|⟨r,ex,rfl,hl⟩<;>rfl
theorem eC.qc{d:D}{l:List (BitVec 8)}(h:eC d l):qc d=some d:=by
 rcases h with⟨rfl,h1⟩|⟨ex,rfl⟩<;>rfl
theorem jy.No{d:D}{rows:Rows}{l:List (BitVec 8)}(h:jy (.leaf u5) d rows (bs l)):xE rows d (eR l false).1 (eR l false).2:=by
 rcases h with⟨h1,rfl⟩|⟨r,ex,rfl,hl⟩
 ·have:l=[]:=by cases l<;>simp_all[bs]
  subst this
  exact .nil0 _
 ·have:(bs l).length=l.length:=by simp[bs]
  rw[this]
  exact .own _ r 0 _ ex false _ hl rfl (λh=>by cases h)
inductive ZH:D->D->Prop where
 |refl (d:D):ZH d d
 |nil (s:Sh) (e:Bool):ZH (.raw (.slice none 0 0)) (.dh s [] e)
theorem ZH.vr{ρ:Pl}{w:World}{T:Nat->Prop}{d d':D}{v:Value}(h:ZH d d')(hv:VR ρ w T d v):VR ρ w T d' v:=by
 cases h with
 |refl=>exact hv
 |nil s e=>
  have:=hv.ofRaw
  subst this
  exact VR.bE (.qC s e none 0 (λ_=>rfl) (λ_=>rfl))
end Go.Am
namespace Go.Am
open Go.Proofs.YtcmafnfakehjgaaGreatDoor.Rows (uptoBulk uptoBulkAll)
def flX(P:Program)(f:TypeId->Option Sh):Nat->List Field->Option Sh
 | _,[]=>some .nil
 | off, x :: l => match f x.type with
  |some a=>bif x.offset==off&&P.cellsOf x.type==a.size then(match flX P f (off+a.size) l with
   |some b=>some (.cons a b)
   |none=>none)else none
  |none=>none
def Gx(P:Program):Nat->TypeId->Option Sh
 |0,_=>none
 | n + 1, t => match P.underlying t with
  |some .bool=>some (.leaf .bool)
  |some (.int k)=>some (.leaf (.int k))
  |some .string=>some (.leaf .str)
  |some (.struct fs)=>match flX P (Gx P n) 0 fs.toList with
   |some s=>bif P.cellsOf t==s.size then some s else none
   |none=>none
  |some (.array m e)=>match Gx P n e with
   |some a=>bif P.cellsOf e==a.size&&P.cellsOf t==m*a.size then some (.ar m a)else none
   |none=>none
  |some (.slice e)=>match Gx P n e with
   |some a=>bif P.cellsOf e==a.size&&Nat.blt 0 a.size then some .ref else none
   |none=>none
  | _=>none
def LQ(P:Program):Nat->TypeId->D->Prop
 |0,_,_=>False
 |n+1,t,d=>match P.underlying t with
  |some .bool=>∃b,d= .raw (.bool b)
  |some (.int k)=>∃m,d= .raw (.int k m)/\(Lit.int k m).wf=true
  |some .string=>∃b,d= .raw (.string b)/\b.size<=maxLen
  |some (.struct fs)=>∃s l,flX P (Gx P n) 0 fs.toList=some s/\d= .agg s l/\aW (λ(f:Field) x=>LQ P n f.type x) fs.toList l
  |some (.array m e)=>∃s l,Gx P n e=some s/\d= .agg (.ar m s) l/\l.length=m/\∀x∈l,LQ P n e x
  |some (.slice e)=>d= .raw (.slice none 0 0)\/∃s l,Gx P n e=some s/\d= .dh s l false/\l.length<=maxLen/\∀x∈l,LQ P n e x
  | _=>False
mutual
/-- how many values and letters -/
def m8:D->Nat
 | .raw (.string b)=>b.size+1
 | .raw _=>1
 | .dh _ l _=>gy l+1
 | .agg _ l=>gy l+1
 | _=>0
def gy:List D->Nat
 |[]=>0
 |d::l=>m8 d+gy l
end
theorem SZ(a b:List D):gy (a++b)=gy a+gy b:=by
 induction a with
 |nil=>simp[gy]
 |cons x a ih=>simp[gy,ih];omega
theorem uall_app{H:Type}(a b:List (DataW H)):uptoBulkAll (a++b)=uptoBulkAll a+uptoBulkAll b:=by
 induction a with
 |nil=>simp[uptoBulkAll]
 |cons x a ih=>simp[uptoBulkAll,ih];omega
def old(w:World):Nat->Prop:=λb=>b<w.heap.size
section
variable {P:Program} {H:Type} {enc:TypeId×Value->H} {w:World} {base:Nat} {spare:Nat->Bool} {held:Bool}
theorem LU(x:DataW H):1<=uptoBulk x:=by
 cases x with
 |lit l=>cases l<;>simp[uptoBulk]
 | _=>simp[uptoBulk]
theorem PZ{m n:Nat}{cs:List Value}(ih:∀(t:TypeId) (cs:List Value) (x:DataW H×List MemPlace) (s:Sh),DataW.trod enc P w base spare held m t cs=some x->Gx P n t=some s->∃d,LQ P n t d/\aL s d/\aW (LR fB w (old w)) d.flat cs/\m8 d<=uptoBulk x.1):
  ∀(fs:List Field) (xs:List (DataW H×List MemPlace)) (off:Nat) (s:Sh),flX P (Gx P n) off fs=some s->xs.length=fs.length->(∀(i:Nat) (f:Field),fs[i]?=some f->DataW.trod enc P w base spare held m f.type ((cs.drop f.offset).take (P.cellsOf f.type))=xs[i]?)->
  ∃l,aW (λ(f:Field) x=>LQ P n f.type x) fs l/\s.isAgg=true/\l.length=s.count/\(∀i e d,s.sub i=some e->l[i]?=some d->aL e d)/\aW (LR fB w (old w)) (ak l) ((cs.drop off).take s.size)/\gy l<=uptoBulkAll (xs.map (·.1))
 |[],xs,off,s,h,_,_=>by
  simp[flX]at h;subst h
  exact⟨[],.nil,rfl,rfl,by simp[Sh.sub],by simp[ak,Sh.size];exact .nil,by simp[gy]⟩
 |f::fs,[],off,s,h,FK,hx=>by simp at FK
 | f :: fs, x0 :: xs, off, s, h, FK, hx => by
  simp only[flX]at h
  split at h
  ·rename_i a ha
   cases hb:(f.offset==off&&P.cellsOf f.type==a.size)with
   |false=>rw[hb]at h;cases h
   | true =>
    rw[hb]at h
    simp only[aaU]at h
    split at h
    ·rename_i b hbq
     cases h
     simp only[aan,ack]at hb
     have rq:=hx 0 f rfl
     obtain⟨d,hd1,xu,KD,hd4⟩:=ih _ _ _ _ rq ha
     obtain⟨l,g1,g2,g3,g4,g5,g6⟩:=PZ ih fs xs (off+a.size) b hbq (by simpa using FK) (λi f' hf'=>by simpa using hx (i+1) f' (by simpa using hf'))
     refine⟨d::l,.cons hd1 g1,g2,by simp[Sh.count,g3],λi e d' hi lz=>?_,?_,by simp only[gy,abm,uptoBulkAll];omega⟩
     ·cases i with
      |zero=>simp[Sh.sub]at hi lz;subst hi;subst lz;exact xu
      |succ i=>exact g4 i e d' (by simpa[Sh.sub]using hi) (by simpa using lz)
     ·simp only[ak,Sh.size]
      rw[hb.1,hb.2]at KD
      have:(cs.drop off).take (a.size+b.size)=(cs.drop off).take a.size++((cs.drop (off+a.size)).take b.size):=by
       rw[aef,abr]
      rw[this]
      exact KD.append g5
    ·cases h
  ·cases h
theorem Nt{m n:Nat}{e:TypeId}{a:Sh}(ih:∀(t:TypeId) (cs:List Value) (x:DataW H×List MemPlace) (s:Sh),DataW.trod enc P w base spare held m t cs=some x->Gx P n t=some s->∃d,LQ P n t d/\aL s d/\aW (LR fB w (old w)) d.flat cs/\m8 d<=uptoBulk x.1)
  (ha:Gx P n e=some a):∀(k:Nat) (f:Nat->List Value) (g:Nat->DataW H×List MemPlace),(∀i,i<k->DataW.trod enc P w base spare held m e (f i)=some (g i))->
  ∃l,l.length=k/\(∀x∈l,LQ P n e x)/\(∀x∈l,aL a x)/\aW (LR fB w (old w)) (ak l) ((List.range k).flatMap f)/\gy l<=uptoBulkAll (((List.range k).map g).map (·.1))
 |0,f,_,_=>⟨[],rfl,by simp,by simp,by simp[ak];exact .nil,by simp[gy]⟩
 | k + 1, f, g, h => by
  obtain⟨l,g1,g2,g3,g4,g5⟩:=Nt ih ha k f g (λi hi=>h i (by omega))
  have hx:=h k (by omega)
  obtain⟨d,h1,h2,h3,h4⟩:=ih _ _ _ _ hx ha
  refine⟨l++[d],by simp[g1],?_,?_,?_,by rw[SZ,abL,adi,adi,uall_app];simp only[gy,abm,adJ,uptoBulkAll];omega⟩
  ·intro y hy
   rcases aaQ.1 hy with hy|hy
   ·exact g2 y hy
   ·simp at hy;subst hy;exact h1
  ·intro y hy
   rcases aaQ.1 hy with hy|hy
   ·exact g3 y hy
   ·simp at hy;subst hy;exact h2
  ·have e1:ak (l++[d])=ak l++d.flat:=by
    have:∀l:List D,ak (l++[d])=ak l++d.flat:=by
     intro l
     induction l with
     |nil=>simp[ak]
     |cons q l ih=>simp[ak,ih]
    exact this l
   rw[e1,abL,adW]
   exact g4.append (by simpa using h3)
theorem FL{α:Type}{f:Nat->List α}{c:Nat}:∀(k:Nat),(∀i,i<k->(f i).length=c)->((List.range k).flatMap f).length=k*c/\∀i j,i<k->j<c->((List.range k).flatMap f)[i*c+j]?=(f i)[j]?
 |0,_=>⟨by simp,λi j hi=>by omega⟩
 | k + 1, h => by
  obtain⟨h1,h2⟩:=FL (f:=f) (c:=c) k (λi hi=>h i (by omega))
  have hk:=h k (by omega)
  rw[abL,adW]
  have e:List.flatMap f [k]=f k:=by simp
  rw[e]
  refine⟨by rw[aap,h1,hk,acE],λi j hi hj=>?_⟩
  rcases aaT i k with h3|h3
  ·have:i*c+j<k*c:=by
    have:(i+1)*c<=k*c:=abB c h3
    rw[acE]at this
    omega
   rw[aaM (by omega)]
   exact h2 i j h3 hj
  ·have:i=k:=by omega
   subst this
   rw[aaO (by omega),h1]
   congr 1
   omega
theorem En{a:Addr}{c:Nat}{l:List Value}(h:w.cells? base a c=some l):l.length=c/\∀j,j<c->w.cell? (a.add j)=l[j]?:=by
 unfold World.cells? at h
 split at h
 ·refine⟨by simpa using mapM_some_length h,λj hj=>?_⟩
  exact mapM_some_get h j j (by simp[hj])
 ·cases h
theorem add_add{a:Addr}(h:a.spot=none)(i j:Nat):(a.add i).add j=⟨a.block,a.off+(i+j),none⟩:=by
 obtain⟨b,o,sp⟩:=a
 simp only at h
 subst h
 unfold Addr.add
 by_cases hi:i=0<;>by_cases hj:j=0<;>simp[hi,hj]<;>omega
theorem slice_D{m n:Nat}{t e:TypeId}{cs:List Value}{x:DataW H×List MemPlace}{a:Sh}(ih:∀(t:TypeId) (cs:List Value) (x:DataW H×List MemPlace) (s:Sh),DataW.trod enc P w base spare held m t cs=some x->Gx P n t=some s->∃d,LQ P n t d/\aL s d/\aW (LR fB w (old w)) d.flat cs/\m8 d<=uptoBulk x.1)
  (ht:P.underlying t=some (.slice e))(h:DataW.trod enc P w base spare held (m+1) t cs=some x)(ha:Gx P n e=some a)(hc:P.cellsOf e=a.size)(h0:0<a.size):
  ∃d v,cs=[v]/\(d= .raw (.slice none 0 0)\/∃s l,Gx P n e=some s/\d= .dh s l false/\l.length<=maxLen/\∀x∈l,LQ P n e x)/\d.eZ=true/\LR fB w (old w) d v/\m8 d<=uptoBulk x.1:=by
 rcases DataW.trod_slice ht h with⟨rfl,rfl⟩|⟨ad,len,cap,elems,rest,m',hm,rfl,rfl,_,hlc,hcm,hel,lp,_⟩
 ·exact⟨_,_,rfl,.inl rfl,rfl,.raw _ rfl,by simp[m8,uptoBulk]⟩
 ·have:m=m':=by omega
  subst this
  rw[hc]at lp
  let f:Nat->List Value:=λi=>(w.cells? base (ad.add (i*a.size)) a.size).getD []
  have hf:∀i,i<len->w.cells? base (ad.add (i*a.size)) a.size=some (f i)/\DataW.trod enc P w base spare held m e (f i)=some (elems.getD i (.nil,[])):=by
   intro i hi
   have h1:=lp i hi
   rw[aao (by omega)]at h1
   cases jt:w.cells? base (ad.add (i*a.size)) a.size with
   |none=>rw[jt]at h1;cases h1
   |some l=>
    rw[jt]at h1
    have:f i=l:=by simp[f,jt]
    rw[this]
    refine⟨rfl,?_⟩
    simp only[abg]at h1
    rw[h1]
    simp[aay,show i<elems.length by omega]
  obtain⟨l,g1,g2,g3,g4,g5⟩:=Nt ih ha len f _ (λi hi=>(hf i hi).2)
  have hmap:(List.range len).map (λi=>elems.getD i (.nil,[]))=elems:=by
   apply ac7
   ·simp[hel]
   ·intro i h1 h2
    simp[aay,h2]
  rw[hmap]at g5
  refine⟨.dh a l false,_,rfl,.inr ⟨a,l,ha,rfl,by omega,g2⟩,rfl,?_,by simp only[m8,uptoBulk];omega⟩
  have hlens:∀i,i<len->(f i).length=a.size:=λi hi=>(En (hf i hi).1).1
  obtain⟨e1,e2⟩:=FL (f:=f) len hlens
  cases len with
  |zero=>
   have:l=[]:=aaF g1
   subst this
   exact .qC a false (some ad) cap (by simp) (by simp)
  | succ len =>
   have c0:=(En (hf 0 (by omega)).1).2 0 h0
   have Ls:=hlens 0 (by omega)
   rw[aao (by omega)]at c0
   simp only[Nat.zero_mul]at c0
   have e0:((ad.add 0).add 0)=ad:=by simp[Addr.add]
   rw[e0]at c0
   have hsp:ad.spot=none:=by
    unfold World.cell? at c0
    split at c0
    ·split at c0
     ·cases c0
     ·rename_i hs;simpa using hs
    ·cases c0
   have hold:old w ad.block:=by
    unfold World.cell? at c0
    split at c0
    ·rename_i hh;exact(aaR.1 hh).1
    ·cases c0
   have Zw:ad=⟨ad.block,ad.off,none⟩:=by
    obtain⟨b,o,sp⟩:=ad
    simp only at hsp
    subst hsp;rfl
   have key:LR fB w (old w) (.dh a l false) (.slice (some ⟨ad.block,ad.off,none⟩) l.length cap):=by
    refine .dh a l false ad.block ad.off cap (λi=>((List.range (len+1)).flatMap f).getD i undef) g3 hold (λi d hd=>?_) (λi d hd=>?_) (by omega) (by simp)
    ·have hi:i<(ak l).length:=dj hd
     rw[g4.len,e1]at hi
     have hq:i/a.size<len+1:=(Nat.div_lt_iff_lt_mul h0).2 hi
     have hr:i %a.size<a.size:=ac0 _ h0
     have KF:i/a.size*a.size+i %a.size=i:=by rw[adg];exact Nat.div_add_mod i a.size
     have c1:=(En (hf _ hq).1).2 _ hr
     rw[add_add hsp,KF,<-e2 _ _ hq hr,KF]at c1
     rw[c1,aay,aao (by omega)]
     rfl
    ·have hi:i<(ak l).length:=dj hd
     rw[g4.len]at hi
     refine g4.at_ i d _ hd ?_
     rw[aay,aao hi]
     rfl
   rw[<-Zw,g1]at key
   exact key
theorem trod_D : ∀ (n fuel : Nat) (t : TypeId) (cs : List Value) (x : DataW H × List MemPlace) (s : Sh), DataW.trod enc P w base spare held fuel t cs = some x -> Gx P n t = some s -> ∃ d, LQ P n t d /\ aL s d /\ aW (LR fB w (old w)) d.flat cs /\ m8 d <= uptoBulk x.1
 |0,_,_,_,_,_,_,h=>by simp[Gx]at h
 | _+1,0,_,_,_,_,h,_=>by simp[DataW.trod]at h
 | n + 1, m + 1, t, cs, x, s, h, hs => by
  have ih:=trod_D n m
  have h':=h
  simp only[Gx]at hs
  simp only[LQ]
  unfold DataW.trod at h
  cases hu:P.underlying t with
  |none=>simp[hu]at hs
  | some u =>
   rw[hu]at h
   simp only[hu]at hs
   cases u with
   |bool=>
    cases hs
    have:∃b,cs=[.bool b]:=by split at h<;>simp_all
    obtain⟨b,rfl⟩:=this
    exact⟨.raw (.bool b),⟨b,rfl⟩,.leaf _ _ rfl,aW.single (.raw _ rfl),by simp only[m8];exact LU _⟩
   |int k=>
    cases hs
    have:∃q,cs=[.int k q]/\(Lit.int k q).wf=true:=by split at h<;>simp_all
    obtain⟨q,rfl,hw⟩:=this
    exact⟨.raw (.int k q),⟨q,rfl,hw⟩,.leaf _ _ (by simp[oD]),aW.single (.raw _ rfl),by simp only[m8];exact LU _⟩
   |string=>
    cases hs
    obtain⟨b,rfl,rfl,hw⟩:=DataW.trod_string hu h'
    exact⟨.raw (.string b),⟨b,rfl,hw⟩,.leaf _ _ rfl,aW.single (.raw _ rfl),by simp[m8,uptoBulk]⟩
   | struct fs =>
    clear h
    simp only at hs
    split at hs
    ·rename_i s' qj
     cases hb:(P.cellsOf t==s'.size)with
     |false=>rw[hb]at hs;cases hs
     |true=>
      rw[hb]at hs
      cases hs
      obtain⟨xs,m',hm,rfl,hlen,FK,lp⟩:=DataW.trod_struct hu h'
      have:m=m':=by omega
      subst this
      obtain⟨l,g1,g2,g3,g4,g5,g6⟩:=PZ (cs:=cs) ih fs.toList xs 0 s qj (by simpa using FK) (λi f hf=>lp i f (by simpa using hf))
      refine⟨.agg s l,⟨s,l,qj,rfl,g1⟩,.agg s l g2 g3 g4,?_,by simp only[m8,uptoBulk];omega⟩
      have HI:P.cellsOf t=s.size:=by simpa using hb
      simp only[abz]at g5
      rw[aar (by omega)]at g5
      simpa[D.flat]using g5
    ·cases hs
   | array k e =>
    clear h
    simp only at hs
    split at hs
    ·rename_i a ha
     cases hb:(P.cellsOf e==a.size&&P.cellsOf t==k*a.size)with
     |false=>rw[hb]at hs;cases hs
     | true =>
      rw[hb]at hs
      cases hs
      simp only[aan,ack]at hb
      obtain⟨xs,m',hm,rfl,hlen,FK,lp⟩:=DataW.trod_array hu h'
      have:m=m':=by omega
      subst this
      rw[hb.1]at lp
      obtain⟨l,g1,g2,g3,g4,g5⟩:=Nt ih ha k (λi=>(cs.drop (i*a.size)).take a.size) (λi=>xs.getD i (.nil,[])) (λi hi=>by
       have:=lp i hi
       rw[this]
       simp[aay,show i<xs.length by omega])
      have hmap:(List.range k).map (λi=>xs.getD i (.nil,[]))=xs:=by
       apply ac7
       ·simp[FK]
       ·intro i h1 h2
        simp[aay,h2]
      rw[hmap]at g5
      refine⟨.agg (.ar k a) l,⟨a,l,ha,rfl,g1,g2⟩,.agg _ l rfl (by simp[Sh.count,g1]) (λi e' d' hi lz=>?_),?_,by simp only[m8,uptoBulk];omega⟩
      ·simp only[Sh.sub]at hi
       split at hi
       ·cases hi;exact g3 d' (bQ lz)
       ·cases hi
      ·have e1:(List.range k).flatMap (λi=>(cs.drop (i*a.size)).take a.size)=cs.take (k*a.size):=by
        clear g4 g5 hmap g1 lp FK hlen hb hu h'
        induction k with
        |zero=>simp
        |succ k ihk=>
         rw[abL,adW,ihk,acE,aef]
         simp
       rw[e1,aar (by omega)]at g4
       simpa[D.flat]using g4
    ·cases hs
   | slice e =>
    clear h
    simp only at hs
    split at hs
    ·rename_i a ha
     cases hb:(P.cellsOf e==a.size&&Nat.blt 0 a.size)with
     |false=>rw[hb]at hs;cases hs
     |true=>
      rw[hb]at hs
      cases hs
      simp only[aan,ack]at hb
      obtain⟨d,v,rfl,h1,h2,h3,h4⟩:=slice_D ih hu h' ha hb.1 (adQ.mp hb.2)
      exact⟨d,h1,.ref d h2,by rw[cn h2];exact aW.single h3,h4⟩
    ·cases hs
   | _=>cases hs
end
end Go.Am
namespace Go.Am
variable {P:Program} {H:Type} {enc:TypeId×Value->H} {w:World} {base:Nat} {spare:Nat->Bool} {held:Bool}
theorem XD{s t:Sh}{l:List D}(h:aL s (.agg t l)):s.isAgg=true:=by
 cases h with
 |ref _ h=>simp[D.eZ]at h
 |agg s l h1 _ _=>exact h1
theorem arg_D{r:Reach}{b0 n fuel:Nat}{t:TypeId}{v:Value}{x:DataW H×List MemPlace}{s:Sh}(hw:Value.okWide P w r b0 t v)(h:DataW.trod enc P w base spare held fuel t v.cells.toList=some x)(hs:Gx P n t=some s):
  ∃d,LQ P n t d/\VR fB w (old w) d v/\m8 d<=Go.Proofs.YtcmafnfakehjgaaGreatDoor.Rows.uptoBulk x.1:=by
 obtain⟨d,h1,h2,h3,h4⟩:=trod_D n fuel t _ x s h hs
 refine⟨d,h1,?_,h4⟩
 cases n with
 |zero=>exact h1.elim
 | succ n =>
  simp only[LQ]at h1
  unfold Value.okWide at hw
  have one:d.eZ=true->v.oneCell'=true->VR fB w (old w) d v:=by
   intro hl hv
   rw[cn hl,yN hv]at h3
   exact VR.bE h3.head
  have agg:(∃cs,v= .agg cs/\cs.size=P.cellsOf t/\Row.okWide P w r b0 t cs)->(∃s l,d= .agg s l)->VR fB w (old w) d v:=by
   rintro⟨cs,rfl,-⟩ ⟨s',l,rfl⟩
   exact VR.zP (sJ.Pk h2 (XD h2) (by simpa[Value.cells]using h3))
  cases hu:P.underlying t with
  |none=>simp[hu]at h1
  | some u =>
   simp only[hu]at h1 hw
   cases u with
   |struct fs=>
    obtain⟨s',l,_,hd,_⟩:=h1
    exact agg hw ⟨s',l,hd⟩
   |array k e=>
    obtain⟨s',l,_,hd,_⟩:=h1
    exact agg hw ⟨_,l,hd⟩
   |bool=>
    obtain⟨b,rfl⟩:=h1
    refine one rfl ?_
    simp only[Cell.okWide,Cell.ok,hu]at hw
    cases v<;>simp_all[Value.oneCell']
   |int k=>
    obtain⟨b,rfl,_⟩:=h1
    refine one rfl ?_
    simp only[Cell.okWide,Cell.ok,hu]at hw
    cases v<;>simp_all[Value.oneCell']
   |string=>
    obtain⟨b,rfl,_⟩:=h1
    refine one rfl ?_
    simp only[Cell.okWide,Cell.ok,hu]at hw
    cases v<;>simp_all[Value.oneCell']
   |slice e=>
    refine one (by rcases h1 with rfl|⟨_,_,_,rfl,_⟩<;>rfl) ?_
    simp only[Cell.okWide,Cell.ok,hu]at hw
    cases v<;>simp_all[Value.oneCell']
   | _=>exact h1.elim
end Go.Am
namespace Go.Am
open Go.ChangeShapes Go.WideShapes Go.ChangeAt Go.RowKit
theorem Step.below{ρ ρ':Pl}{T T':Nat->Prop}{aa:Rows}{w w':World}(h:Step ρ T [] w ρ' T' aa w'):Below w.heap.size w w':=
 ⟨h.os,h.tape,h.output,h.size,λk hk=>h.keep k hk (by intro r row L h1;simp[live]at h1)⟩
section
variable {H:Type} {enc:TypeId×Value->H} {P:Program}
theorem Ta{f:Func}{s:ChangeSpec}{apart fresh handsOn again:Bool}{W W':World}{args:Array Value}{v:Value}{ds gs:List (DataW H)}{before pa pv:List MemPlace}
  (hW:DataW.Whole enc P f.params.toList s.vars apart W args.toList ds gs before)
  (hres:∀(b:Nat) (sp:Nat->Bool) (hd:Bool),DataW.TrodAll enc P W' b sp hd f.resultTypes.toList (v.resultList f.resultTypes.size) (s.fn H (ds++gs)).results [])
  (hargs:∀sp:Nat->Bool,(∀p∈before,sp p.block=true)->DataW.TrodAll enc P W' 0 sp true f.params.toList args.toList (s.fn H (ds++gs)).args pa)
  (hvars:∀sp:Nat->Bool,(∀p∈before,sp p.block=true)->DataW.TrodVars enc P W' sp s.vars (s.fn H (ds++gs)).vars pv)
  (hps:before=pa++pv)(hb:Below W.heap.size W W')
  (hok:∀(j:Nat) (t:TypeId) (r:Value),f.resultTypes[j]?=some t->(v.resultList f.resultTypes.size)[j]?=some r->Value.okWide P W' .any 0 t r):
  s.post enc P f apart fresh handsOn again W args v W':=by
 have hlt:∀p∈before,p.block<W.heap.size:=λp hp=>hW.lt p hp
 have hold:∀p∈before,(λb=>decide (b<W.heap.size)) p.block=true:=λp hp=>by simpa using hlt p hp
 refine⟨ds,gs,before,[],pa,pv,hW,hres _ _ _,hargs _ hold,hvars _ hold,World.keptBut_mono (λp hp=>⟨hp,?_⟩) (hb.frame (· ∈before)),λ_=>?_⟩
 ·rw[hps,aaQ]at hp
  exact Or.inr hp
 ·obtain⟨_,_,_,_,_,hz,hn⟩:=hW
  refine⟨hok,_,_,([]++pa)++pv,⟨[]++pa,pv,trodAll_append (hargs _ (λ_ _=>rfl)) (hres _ _ _),hvars _ (λ_ _=>rfl),rfl,?_,?_⟩,?_⟩
  ·intro b off hp
   have hin:MemPlace.cell b off∈before:=by rw[hps];simpa using hp
   rw[hb.frozen (hlt _ hin)]
   exact hz b off hin
  ·intro ha
   have:=hn ha
   rw[hps]at this
   simpa using this
  ·intro p hp _
   rw[hps]
   simpa using hp
theorem args_D{n:Nat}{base:Nat}{W:World}:∀{ts:List TypeId} {vs:List Value} {ds:List (DataW H)} {p:List MemPlace},DataW.TrodAll enc P W 0 (λ_=>true) true ts vs ds p->
  (∀(j:Nat) t v,ts[j]?=some t->vs[j]?=some v->Value.okWide P W .any base t v)->(∀t∈ts,(Gx P n t).isSome=true)->
  ∃dd,aW (λt d=>LQ P n t d) ts dd/\aW (VR fB W (old W)) dd vs/\gy dd<=Go.Proofs.YtcmafnfakehjgaaGreatDoor.Rows.uptoBulkAll ds
 |[],vs,ds,p,h,_,_=>by
  obtain⟨rfl,rfl,rfl⟩:=trodAll_nil h
  exact⟨[],.nil,.nil,by simp[gy]⟩
 |t::ts,vs,ds,p,h,hv,ht=>by
  obtain⟨v,vs1,d,ds1,a,b,rfl,rfl,rfl,h1,h2⟩:=trodAll_cons h
  obtain⟨fuel,hf⟩:=h1
  obtain⟨s,hs⟩:=aee.1 (ht t (by simp))
  obtain⟨d',g1,g2,g3⟩:=arg_D (hv 0 t v rfl rfl) hf hs
  obtain⟨dd,q1,q2,q3⟩:=args_D h2 (λj t' v' h3 h4=>hv (j+1) t' v' (by simpa using h3) (by simpa using h4)) (λt' h3=>ht t' (by simp[h3]))
  exact⟨d'::dd,.cons g1 q1,.cons g2 q2,by simp only[gy,Go.Proofs.YtcmafnfakehjgaaGreatDoor.Rows.uptoBulkAll]at*;omega⟩
theorem LV{W W':World}(hl:laidOutB P=true)(hb:Below W.heap.size W W'){sp:Nat->Bool}:∀{ts:List TypeId} {vs:List Value} {ds:List (DataW H)} {p:List MemPlace},DataW.TrodAll enc P W 0 (λ_=>true) true ts vs ds p->
  (∀t∈ts,P.readableRec t=true/\t<P.types.size)->(∀x∈p,x.block<W.heap.size)->(∀x∈p,sp x.block=true)->DataW.TrodAll enc P W' 0 sp true ts vs ds p
 |[],vs,ds,p,h,_,_,_=>by
  obtain⟨rfl,rfl,rfl⟩:=trodAll_nil h
  exact rfl
 |t::ts,vs,ds,p,h,ht,hlt,hs=>by
  obtain⟨v,vs1,d,ds1,a,b,rfl,rfl,rfl,h1,h2⟩:=trodAll_cons h
  obtain⟨r1,r2⟩:=ht t (by simp)
  exact⟨a,b,WideElems.Trod_stays hl r1 r2 h1 (λx hx=>hb.same (hlt x (by simp[hx]))) (λx hx=>hs x (by simp[hx])),LV hl hb h2 (λt' h3=>ht t' (by simp[h3])) (λx hx=>hlt x (by simp[hx])) (λx hx=>hs x (by simp[hx])),rfl⟩
theorem Nu{f:FuncId}{fn:Func}{spec:ChangeSpec}{A:lQ}{n:Nat}{tb:TypeId}{G:Nat->Option D}(hA:aQ G P f A)(hl:laidOutB P=true)
  (hty:(fn.params.toList.all λt=>(Gx P n t).isSome&&P.readableRec t&&decide (t<P.types.size))=true)
  (hvars:spec.vars=[])(hres:fn.resultTypes=#[tb])(htb:P.underlying tb=some .bool)
  (hspec:∀ds:List (DataW H),ds.length=fn.params.toList.length->spec.fn H ds={results:=[.lit (.bool true)],args:=ds})
  {W:World}{base:Nat}{args:Array Value}{ds gs:List (DataW H)}{before:List MemPlace}
  (hlaw:∀dd,aW (λt d=>LQ P n t d) fn.params.toList dd->gy dd<=Go.Proofs.YtcmafnfakehjgaaGreatDoor.Rows.uptoBulkAll (ds++gs)->∃ZI,aW ZH dd ZI/\A ZI [] (λd _=>d= .raw (.bool true)))
  (hval:∀(j:Nat) t v,fn.params[j]?=some t->args[j]?=some v->Value.okWide P W .any base t v)
  (hW:DataW.Whole enc P fn.params.toList spec.vars false W args.toList ds gs before)(hG:∀g d,G g=some d->LR fB W (old W) (.cb d) (.pointer (some ⟨g,0,none⟩))):
  Calls P f args W λe W'=>∃v,e= .returned v/\spec.post enc P fn false true false false W args v W':=by
 have hW':=hW
 obtain⟨p,q,hA0,hV,rfl,hfz,DX⟩:=hW
 rw[hvars]at hV
 obtain⟨rfl,rfl⟩:=trodVars_none hV
 have hty':∀t∈fn.params.toList,(Gx P n t).isSome=true/\P.readableRec t=true/\t<P.types.size:=by
  intro t ht
  have:=aa4.1 hty t ht
  simp only[aan,aaq]at this
  exact⟨this.1.1,this.1.2,this.2⟩
 obtain⟨dd,g1,g2,g3⟩:=args_D (n:=n) (base:=base) hA0 (λj t v h1 h2=>hval j t v (by simpa using h1) (by simpa using h2)) (λt ht=>(hty' t ht).1)
 rw[aaS]at hlaw
 have hlt:∀x∈p,x.block<W.heap.size:=λx hx=>hW'.lt x (by simp[hx])
 have hlen:ds.length=fn.params.toList.length:=by
  clear hlaw g1 g2 g3 dd hW' hfz DX hlt hV hty hty' hval hspec
  generalize fn.params.toList=ts at hA0⊢
  generalize args.toList=vs at hA0
  induction ts generalizing vs ds p with
  |nil=>obtain⟨rfl,rfl,rfl⟩:=trodAll_nil hA0;rfl
  |cons t ts ih=>
   obtain⟨v,vs1,d,ds1,a,b,rfl,rfl,rfl,h1,h2⟩:=trodAll_cons hA0
   simp[ih _ _ h2]
 obtain⟨ZI,n1,n2⟩:=hlaw dd g1 g3
 have g2':aW (VR fB W (old W)) ZI args.toList:=by
  refine⟨by rw[<-n1.len];exact g2.len,λi x y hx hy=>?_⟩
  have hi:i<dd.length:=by rw[n1.len];exact dj hx
  have hd:=aao hi
  exact(n1.at_ i _ x hd hx).vr (g2.at_ i _ y hd hy)
 refine(hA ZI [] _ n2 fB W (old W) args ⟨λr row L h=>by simp[live]at h,λr _ row _ _ _ h=>by simp[live]at h⟩ (λ_ _=>rfl) (λb h=>h) g2' hG).mono λe W' hb=>?_
 obtain⟨v,d,aa,ρ',T',rfl,rfl,-,-,-,hst,hv⟩:=hb.ex
 have mW:=hv.ofRaw
 subst mW
 have P0:=hst.below
 simp only[aaS]at hW'
 refine⟨_,rfl,Ta (pa:=p) (pv:=[]) hW' (λ_ _ _=>?_) (λsp hsp=>?_) (λsp _=>?_) (by simp) P0 (ok_one hres rfl (okWide_bool_mk htb _))⟩
 ·rw[aaS,hspec ds hlen,hres]
  exact trodAll_cons_mk (shut_bool htb _) trodAll_mk0
 ·rw[aaS,hspec ds hlen]
  exact LV hl P0 hA0 (λt ht=>(hty' t ht).2) hlt hsp
 ·rw[aaS,hspec ds hlen,hvars]
  exact rfl
end
end Go.Am
namespace Go.Am
open Go.ChangeShapes Go.WideShapes Go.ChangeAt Go.RowKit
mutual
/-- a type whose values are data -/
inductive TK where
 |bool
 |int (k:IntKind)
 |str
 |struct (l:XE)
 |arr (n:Nat) (t:TK)
 |slice (t:TK)
inductive XE where
 |nil
 |cons (a:TK) (l:XE)
end
mutual
def TK.sh:TK->Sh
 | .bool=> .leaf .bool
 | .int k=> .leaf (.int k)
 | .str=> .leaf .str
 | .struct l=>l.sh
 | .arr n t=> .ar n t.sh
 | .slice _=> .ref
def XE.sh:XE->Sh
 | .nil=> .nil
 | .cons a l=> .cons a.sh l.sh
end
def ZJ(f:TypeId->Option TK):List TypeId->Option XE
 |[]=>some .nil
 | x :: l => match f x with
  |some a=>match ZJ f l with
   |some b=>some (.cons a b)
   |none=>none
  |none=>none
def Tb(P:Program):Nat->TypeId->Option TK
 |0,_=>none
 | n + 1, t => match P.underlying t with
  |some .bool=>some .bool
  |some (.int k)=>some (.int k)
  |some .string=>some .str
  |some (.struct fs)=>match ZJ (Tb P n) (fs.toList.map (·.type))with
   |some l=>some (.struct l)
   |none=>none
  |some (.array m e)=>match Tb P n e with
   |some a=>some (.arr m a)
   |none=>none
  |some (.slice e)=>match Tb P n e with
   |some a=>some (.slice a)
   |none=>none
  | _=>none
mutual
/-- data of a type -/
def DK:TK->D->Prop
 | .bool,d=>∃b,d= .raw (.bool b)
 | .int .u8,d=>∃x:BitVec 8,d= .raw (u8 x)
 | .int .u16,d=>∃x:BitVec 16,d= .raw (u16 x)
 | .int .u32,d=>∃x:BitVec 32,d= .raw (u32 x)
 | .int .u64,d=>∃x:BitVec 64,d= .raw (u64 x)
 | .int .i64,d=>∃n:Int,(-9223372036854775808<=n/\n<9223372036854775808)/\d= .raw (it n)
 | .int k,d=>∃n:Int,d= .raw (.int k n)/\(Lit.int k n).wf=true
 | .str,d=>∃b,d= .raw (.string b)/\b.size<=maxLen
 | .struct l,d=>∃ds,d= .agg l.sh ds/\DKs l ds
 | .arr n t,d=>∃l,d= .agg (.ar n t.sh) l/\l.length=n/\∀x∈l,DK t x
 | .slice t,d=>d= .raw (.slice none 0 0)\/∃l,d= .dh t.sh l false/\l.length<=maxLen/\∀x∈l,DK t x
def DKs:XE->List D->Prop
 | .nil,[]=>True
 | .cons a l,d::ds=>DK a d/\DKs l ds
 | _,_=>False
end
variable {P:Program}
theorem fl_sh{n:Nat}(ih:∀(t:TypeId) (k:TK) (s:Sh),Tb P n t=some k->Gx P n t=some s->s=k.sh):∀(fs:List Field) (off:Nat) (l:XE) (s:Sh),
  ZJ (Tb P n) (fs.map (·.type))=some l->flX P (Gx P n) off fs=some s->s=l.sh
 |[],off,l,s,h1,h2=>by
  simp[ZJ]at h1;simp[flX]at h2
  subst h1;subst h2;rfl
 | f :: fs, off, l, s, h1, h2 => by
  simp only[abm,ZJ]at h1
  simp only[flX]at h2
  split at h1
  ·rename_i a ha
   split at h1
   ·rename_i b hb
    cases h1
    split at h2
    ·rename_i s1 Ha
     cases hq:(f.offset==off&&P.cellsOf f.type==s1.size)with
     |false=>rw[hq]at h2;cases h2
     | true =>
      rw[hq]at h2
      simp only[aaU]at h2
      split at h2
      ·rename_i s2 tI
       cases h2
       rw[ih _ _ _ ha Ha,fl_sh ih fs _ _ _ hb tI]
       rfl
      ·cases h2
    ·cases h2
   ·cases h1
  ·cases h1
theorem Vw:∀(n:Nat) (t:TypeId) (k:TK) (s:Sh),Tb P n t=some k->Gx P n t=some s->s=k.sh
 |0,t,k,s,h1,h2=>by simp[Tb]at h1
 | n + 1, t, k, s, h1, h2 => by
  have ih:=Vw n
  simp only[Tb]at h1
  simp only[Gx]at h2
  cases hu:P.underlying t with
  |none=>simp[hu]at h1
  | some u =>
   simp only[hu]at h1 h2
   cases u with
   |bool=>cases h1;cases h2;rfl
   |int=>cases h1;cases h2;rfl
   |string=>cases h1;cases h2;rfl
   | struct fs =>
    simp only at h1 h2
    split at h1
    ·rename_i l hl
     cases h1
     split at h2
     ·rename_i s' ib
      cases hq:(P.cellsOf t==s'.size)with
      |false=>rw[hq]at h2;cases h2
      |true=>
       rw[hq]at h2
       cases h2
       exact fl_sh ih _ _ _ _ hl ib
     ·cases h2
    ·cases h1
   | array m e =>
    simp only at h1 h2
    split at h1
    ·rename_i a ha
     cases h1
     split at h2
     ·rename_i s' ib
      cases hq:(P.cellsOf e==s'.size&&P.cellsOf t==m*s'.size)with
      |false=>rw[hq]at h2;cases h2
      |true=>
       rw[hq]at h2
       cases h2
       rw[ih _ _ _ ha ib]
       rfl
     ·cases h2
    ·cases h1
   | slice e =>
    simp only at h1 h2
    split at h1
    ·rename_i a ha
     cases h1
     split at h2
     ·rename_i s' ib
      cases hq:(P.cellsOf e==s'.size&&Nat.blt 0 s'.size)with
      |false=>rw[hq]at h2;cases h2
      |true=>rw[hq]at h2;cases h2;rfl
     ·cases h2
    ·cases h1
   | _=>cases h1
theorem Vx{w:Nat}{m:Int}(h:0<=m/\m<2^w):m=((BitVec.ofInt w m).toNat:Int):=by
 rw[acz]
 rw[adn h.1 (by simpa using h.2)]
 omega
theorem dof_int{k:IntKind}{m:Int}(h:(Lit.int k m).wf=true):DK (.int k) (.raw (.int k m)):=by
 have hw:=h
 cases k<;>simp only[Lit.wf,aan,aaq,IntKind.min,IntKind.max,IntKind.signed,IntKind.bits,DK]at h⊢
 ·exact⟨m,rfl,h⟩
 ·exact⟨m,rfl,h⟩
 ·exact⟨m,rfl,h⟩
 ·exact⟨m,by simp at h;omega,rfl⟩
 ·exact⟨BitVec.ofInt 8 m,by unfold u8;rw[<-Vx];simp at h;omega⟩
 ·exact⟨BitVec.ofInt 16 m,by unfold u16;rw[<-Vx];simp at h;omega⟩
 ·exact⟨BitVec.ofInt 32 m,by unfold u32;rw[<-Vx];simp at h;omega⟩
 ·exact⟨BitVec.ofInt 64 m,by unfold u64;rw[<-Vx];simp at h;omega⟩
theorem fl_dk{n:Nat}(ih:∀(t:TypeId) (k:TK) (d:D),Tb P n t=some k->LQ P n t d->DK k d):∀(fs:List Field) (l:XE) (ds:List D),
  ZJ (Tb P n) (fs.map (·.type))=some l->aW (λ(f:Field) x=>LQ P n f.type x) fs ds->DKs l ds
 |[],l,ds,h1,h2=>by
  simp[ZJ]at h1
  have:ds=[]:=aaF (by simpa using h2.len.symm)
  subst h1;subst this;trivial
 | f :: fs, l, ds, h1, h2 => by
  simp only[abm,ZJ]at h1
  split at h1
  ·rename_i a ha
   split at h1
   ·rename_i b hb
    cases h1
    match ds,h2.len with
    |d::ds,_=>exact⟨ih _ _ _ ha h2.head,fl_dk ih fs _ _ hb h2.tail⟩
   ·cases h1
  ·cases h1
theorem dof_dk:∀(n:Nat) (t:TypeId) (k:TK) (d:D),Tb P n t=some k->LQ P n t d->DK k d
 |0,t,k,d,h1,h2=>by simp[Tb]at h1
 | n + 1, t, k, d, h1, h2 => by
  have ih:=dof_dk n
  simp only[Tb]at h1
  simp only[LQ]at h2
  cases hu:P.underlying t with
  |none=>simp[hu]at h1
  | some u =>
   simp only[hu]at h1 h2
   cases u with
   |bool=>cases h1;exact h2
   |int k=>cases h1;obtain⟨m,rfl,hw⟩:=h2;exact dof_int hw
   |string=>cases h1;exact h2
   | struct fs =>
    simp only at h1 h2
    split at h1
    ·rename_i l hl
     cases h1
     obtain⟨s,ds,g1,rfl,g2⟩:=h2
     have:=fl_sh (Vw n) _ _ _ _ hl g1
     subst this
     exact⟨ds,rfl,fl_dk ih _ _ _ hl g2⟩
    ·cases h1
   | array m e =>
    simp only at h1 h2
    split at h1
    ·rename_i a ha
     cases h1
     obtain⟨s,l,g1,rfl,g2,g3⟩:=h2
     have:=Vw n _ _ _ ha g1
     subst this
     exact⟨l,rfl,g2,λx hx=>ih _ _ _ ha (g3 x hx)⟩
    ·cases h1
   | slice e =>
    simp only at h1 h2
    split at h1
    ·rename_i a ha
     cases h1
     rcases h2 with rfl|⟨s,l,g1,rfl,g2,g3⟩
     ·exact .inl rfl
     ·have:=Vw n _ _ _ ha g1
      subst this
      exact .inr ⟨l,rfl,g2,λx hx=>ih _ _ _ ha (g3 x hx)⟩
    ·cases h1
   | _=>cases h1
theorem P2{n:Nat}:∀{ts:List TypeId} {ks:XE} {dd:List D},ZJ (Tb P n) ts=some ks->aW (λt d=>LQ P n t d) ts dd->DKs ks dd
 |[],ks,dd,h1,h2=>by
  simp[ZJ]at h1
  have:dd=[]:=aaF (by simpa using h2.len.symm)
  subst h1;subst this;trivial
 | t :: ts, ks, dd, h1, h2 => by
  simp only[ZJ]at h1
  split at h1
  ·rename_i a ha
   split at h1
   ·rename_i b hb
    cases h1
    match dd,h2.len with
    |d::ds,_=>exact⟨dof_dk _ _ _ _ ha h2.head,P2 hb h2.tail⟩
   ·cases h1
  ·cases h1
theorem Il:∀{l:List D},(∀x∈l,DK (.int .u8) x)->∃l':List (BitVec 8),l=bs l'
 |[],_=>⟨[],rfl⟩
 |x::l,h=>by
  obtain⟨b,rfl⟩:=h x (by simp)
  obtain⟨l',rfl⟩:=Il (l:=l) (λy hy=>h y (by simp[hy]))
  exact⟨b::l',rfl⟩
theorem XF(l:List (BitVec 8)):gy (bs l)=l.length:=by
 induction l with
 |nil=>rfl
 |cons x l ih=>simp only[bs,abm,gy]at ih⊢;rw[ih];simp[m8,u8];omega
theorem dk_arr8{n:Nat}{d:D}(h:DK (.arr n (.int .u8)) d):∃l:List (BitVec 8),d= .agg (.ar n (.leaf u5)) (bs l)/\l.length=n:=by
 obtain⟨l,rfl,g1,g2⟩:=h
 obtain⟨l',rfl⟩:=Il g2
 exact⟨l',rfl,by simpa[bs]using g1⟩
def DN:TK->D->Prop
 | .slice t,d=>∃l,d= .dh t.sh l false/\l.length<=maxLen/\∀x∈l,DK t x
 |k,d=>DK k d
def DNs:XE->List D->Prop
 | .nil,[]=>True
 | .cons a l,d::ds=>DN a d/\DNs l ds
 | _,_=>False
theorem dk_dn{k:TK}{d:D}(h:DK k d):∃d',ZH d d'/\DN k d'/\m8 d'<=m8 d:=by
 cases k with
 |slice t=>
  rcases h with rfl|⟨l,rfl,g1,g2⟩
  ·exact⟨_,.nil t.sh false,⟨[],rfl,by simp,by simp⟩,by simp[m8,gy]⟩
  ·exact⟨_,.refl _,⟨l,rfl,g1,g2⟩,aax _⟩
 | _=>exact⟨d,.refl _,h,aax _⟩
theorem Vy:∀{ks:XE} {dd:List D},DKs ks dd->∃ZI,aW ZH dd ZI/\DNs ks ZI/\gy ZI<=gy dd
 | .nil,[],_=>⟨[],.nil,trivial,aax _⟩
 | .nil,_::_,h=>by simp[DKs]at h
 | .cons a l,[],h=>by simp[DKs]at h
 | .cons a l,d::ds,h=>by
  obtain⟨d',h1,h2,h3⟩:=dk_dn h.1
  obtain⟨ds',g1,g2,g3⟩:=Vy h.2
  exact⟨d'::ds',.cons h1 g1,⟨h2,g2⟩,by simp only[gy];omega⟩
theorem dn_bs{d:D}(h:DN (.slice (.int .u8)) d):∃l:List (BitVec 8),d= .dh L8 (bs l) false/\l.length<=maxLen/\m8 d=l.length+1:=by
 obtain⟨l,rfl,g1,g2⟩:=h
 obtain⟨l',rfl⟩:=Il g2
 exact⟨l',rfl,by simpa[bs]using g1,by simp only[m8,XF]⟩
theorem row_law{H:Type}{enc:TypeId×Value->H}{f:FuncId}{fn:Func}{spec:ChangeSpec}{A:lQ}{ks:XE}{n:Nat}{tb:TypeId}{G:Nat->Option D}(hA:aQ G P f A)(hl:laidOutB P=true)
  (hty:(fn.params.toList.all λt=>(Gx P n t).isSome&&P.readableRec t&&decide (t<P.types.size))=true)(hks:ZJ (Tb P n) fn.params.toList=some ks)
  (hvars:spec.vars=[])(hres:fn.resultTypes=#[tb])(htb:P.underlying tb=some .bool)
  (hspec:∀ds:List (DataW H),ds.length=fn.params.toList.length->spec.fn H ds={results:=[.lit (.bool true)],args:=ds})
  {W:World}{base:Nat}{args:Array Value}{ds gs:List (DataW H)}{before:List MemPlace}
  (hlaw:∀dd,DNs ks dd->gy dd<=Go.Proofs.YtcmafnfakehjgaaGreatDoor.Rows.uptoBulkAll (ds++gs)->A dd [] (λd _=>d= .raw (.bool true)))
  (hval:∀(j:Nat) t v,fn.params[j]?=some t->args[j]?=some v->Value.okWide P W .any base t v)
  (hW:DataW.Whole enc P fn.params.toList spec.vars false W args.toList ds gs before)(hG:∀g d,G g=some d->LR fB W (old W) (.cb d) (.pointer (some ⟨g,0,none⟩))):
  Calls P f args W λe W'=>∃v,e= .returned v/\spec.post enc P fn false true false false W args v W':=
 Nu hA hl hty hvars hres htb hspec (λdd h1 h2=>by
  obtain⟨ZI,g1,g2,g3⟩:=Vy (P2 hks h1)
  exact⟨ZI,g1,hlaw ZI g2 (by omega)⟩) hval hW hG
end Go.Am
namespace Go.Am
def xG(k:IntKind)(zs:List Int):D:= .agg (.ar zs.length (.leaf (.int k))) (zs.map λz=> .raw (.int k z))
theorem LW(k:IntKind):∀zs:List Int,ak (zs.map λz=>D.raw (.int k z))=zs.map λz=>D.raw (.int k z)
 |[]=>rfl
 |z::zs=>by simp[ak,D.flat,LW k zs]
theorem P3{P:Program}{W:World}{name:String}{k:IntKind}{zs:List Int}{g:Nat}{t e:TypeId}{n:Nat}
  (hg:P.globalNamed name=some g)(hty:(P.globals[g]?).map (·.type)=some t)(ht:P.underlying t=some (.array n e))(he:P.underlying e=some (.int k))(hce:P.cellsOf e=1)(hct:P.cellsOf t=n):
  ∀{l:List (String×DataW Unit)} {ps:List MemPlace},DataW.LaidVars P W l ps->(name,Lib.tabData k zs)∈l->Lib.TabIs P W name k zs
 |[],ps,_,hm=>by cases hm
 | (n', d') :: r, ps, h, hm => by
  obtain⟨g',t',cs,fuel,p,q,hg',AO,hvar,hd,hr,_⟩:=h
  rcases aaI.1 hm with hm|hm
  ·cases hm
   obtain rfl:=abd (hg.symm.trans hg')
   obtain rfl:=abd (hty.symm.trans AO)
   unfold Lib.TabIs
   rw[hvar,<-Lib.cells_of_tab ht he hce hct hd]
  ·exact P3 hg hty ht he hce hct hr hm
theorem Eo{P:Program}{W:World}{name:String}{k:IntKind}{zs:List Int}{g:Nat}{t e:TypeId}{n:Nat}{l:List (String×DataW Unit)}(h:laidMet P l W)(hm:(name,Lib.tabData k zs)∈l)
  (hg:P.globalNamed name=some g)(hty:(P.globals[g]?).map (·.type)=some t)(ht:P.underlying t=some (.array n e))(he:P.underlying e=some (.int k))(hce:P.cellsOf e=1)(hct:P.cellsOf t=n)(hz:zs≠[]):
  LR fB W (old W) (.cb (xG k zs)) (.pointer (some ⟨g,0,none⟩)):=by
 obtain⟨ps,hv,_⟩:=h
 have hT:=P3 hg hty ht he hce hct hv hm
 refine LR.AE (cs:=zs.map λz=>Value.int k z) (s:= .ar zs.length (.leaf (.int k))) ?_ ?_ ?_ ?_
 ·refine .agg _ _ rfl (by simp[Sh.count]) λi e d h1 h2=>?_
  simp only[Sh.sub]at h1
  split at h1
  ·cases h1
   obtain⟨z,_,rfl⟩:=acL.1 (bQ h2)
   exact .leaf _ _ (by simp[oD])
  ·cases h1
 ·have:=hT.cell hg 0 (by cases zs<;>simp_all)
  show g<W.heap.size
  rw[World.cell?]at this
  split at this
  ·rename_i h0;exact(aaR.1 h0).1
  ·cases this
 ·rw[xG,D.flat,LW]
  clear hT hm hz
  induction zs with
  |nil=>exact .nil
  |cons z zs ih=>exact .cons (.raw _ rfl) ih
 ·intro j x hx
  have hj:j<zs.length:=by have:=dj hx;simpa using this
  have:=hT.cell hg j hj
  rw[abk,this]
  simp[hj]at hx
  simp[hj,<-hx]
end Go.Am

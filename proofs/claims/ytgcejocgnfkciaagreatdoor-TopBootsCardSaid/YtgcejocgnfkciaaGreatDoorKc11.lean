import Derived.Test.YtgcejocgnfkciaaGreatDoorKc10
namespace Go.Am
set_option linter.unusedVariables false
set_option linter.unusedSimpArgs false
def u8(x:BitVec 8):Value:= .int .u8 (x.toNat:Int)
def u16(x:BitVec 16):Value:= .int .u16 (x.toNat:Int)
def u32(x:BitVec 32):Value:= .int .u32 (x.toNat:Int)
def u64(x:BitVec 64):Value:= .int .u64 (x.toNat:Int)
def it(n:Int):Value:= .int .i64 n
def wz(n:Int):Int:=IntKind.i64.wrap n
theorem bf{n:Int}(h:-9223372036854775808≤n∧n<9223372036854775808):wz n=n:=by
 unfold wz IntKind.wrap
 have e1:(2:Int)^IntKind.i64.bits=18446744073709551616:=by decide
 have e2:(2:Int)^(IntKind.i64.bits-1)=9223372036854775808:=by decide
 simp only[e1,e2]
 rcases Int.lt_or_le n 0 with h0|h0
 ·have:n %18446744073709551616=n+18446744073709551616:=by omega
  rw[this,if_pos (by simp[IntKind.signed];omega)]
  omega
 ·have:n %18446744073709551616=n:=by omega
  rw[this,if_neg (by simp[IntKind.signed];omega)]
def asMp:D→Option Nat
 | .mp r=>some r
 | _=>none
def Wo(vs:Sh)(ok:Bool)(z:D):Option Value→D
 |some v=>bif ok then .cA [dV vs v,.raw (.bool true)]else dV vs v
 |none=>bif ok then .cA [z,.raw (.bool false)]else z
def asIt:D→Option Int
 | .raw (.int .i64 n)=>some n
 | _=>none
def U6:D→Option Int
 | .raw (.int _ n)=>some n
 | _=>none
def yg(kd:IntKind):D→Option Value
 | .raw (.int _ n)=>some (.int kd (kd.wrap n))
 | _=>none
def Wp(C:be)(b:aB)(Q:fa→Env→Rows→Prop):fa→Env→Rows→Prop:=fun e env rows=>match e with
 | .normal=>aw C b Q env rows
 |e=>Q e env rows
def Ob(id:Nat)(Q:fa→Env→Rows→Prop):fa→Env→Rows→Prop:=fun e env rows=>match e with
 | .exit i=>(i=id→Q .normal env rows)∧(i≠id→Q (.exit i) env rows)
 |e=>Q e env rows
def E6(C:be)(a b:aB)(Q:fa→Env→Rows→Prop)(env:Env)(rows:Rows):D→Prop
 | .raw (.bool t)=>(t=true→aw C a Q env rows)∧(t=false→aw C b Q env rows)
 | _=>False
def U7(C:be)(dst:Option Nat)(o:mi)(want:Bool)(os:List aT)(env:Env)(rows:Rows)(K:Env→Rows→Prop):D→Prop
 | .raw (.bool t)=>(t=want→df C env rows o fun d rows=>dt C os (put dst d env) rows K)∧(t=!want→dt C os (put dst (.cA []) env) rows K)
 | .cA []=>dt C os (put dst (.cA []) env) rows K
 | _=>False
def kOp(C:be)(dst:Option Nat)(os:List aT)(env:Env)(K:Env→Rows→Prop):D→Rows→Prop:=fun d rows=>dt C os (put dst d env) rows K
def Qx(C:be)(a b:X)(env:Env)(rows:Rows)(k:D→Rows→Prop):D→Prop
 | .raw (.bool t)=>bd (bif t then ev C env a else ev C env b) fun d=>k d rows
 | _=>False
def aJ(A:Fn)(rows:Rows)(k:D→Rows→Prop)(ds:List D):Prop:=
 (aN ds=true→bd (cW (view rows 9) ds) fun ds'=>bd (A ds' []) fun r=>(bZ r.1&&aS r.2)=true∧k (shift rows.length r.1) (rows++ae rows.length r.2))∧
   (aN ds=false→bd (A ds []) fun r=>k (shift rows.length r.1) (rows++ae rows.length r.2))
def kFn(C:be)(rows:Rows)(f:FuncId)(k:D→Rows→Prop):Option Fn→List D→Prop
 |some A,ds=>aJ A rows k ds
 |none,ds=>bd (C.KX f) fun A=>A ds rows k
theorem Qy{C rows f ds k}:yY C rows f ds k=kFn C rows f k (C.fn f) ds:=by unfold yY;cases C.fn f<;>rfl
theorem b9{C rows f k}{o o':Option Fn}{d d':List D}(h:o=o')(h2:d=d'):kFn C rows f k o d=kFn C rows f k o' d':=by rw[h,h2]
def Jm:D→D→Option Bool
 | .raw (.pointer none),.raw (.pointer none)=>some true
 | .ptr _ _ _,.raw (.pointer none)=>some false
 | .b5 _,.raw (.pointer none)=>some false
 | _,_=>none
def eqA(s:Sh):D→D→Option Bool
 | .agg s1 l,.agg s2 l'=>bif s1==s&&s2==s then yV l l' else none
 | _,_=>none
def kTail(C:be)(tl:List aT)(K:Env→Rows→Prop):Env→Rows→Prop:=fun env rows=>dt C tl env rows K
def Wq(C:be)(dl:List aT)(K:Env→Rows→Prop):Env→Rows→Prop:=fun env rows=>ra C env rows dl∧K env rows
def SL(env:Env)(rows:Rows)(t:Nat):D→Rows→Prop:=fun d r=>look env t=some d∧r=rows
def Jn(C:be)(dl:List aT)(K:Env→Rows→Prop):Env→Rows→Prop:=fun env rows=>oN C env rows dl∧K env rows
def kIntF(C:be)(fl dl:List aT)(K:Env→Rows→Prop):Env→Rows→Prop:=fun env rows=>dt C fl env rows (Jn C dl K)
def kSlF(env:Env)(rows:Rows)(s:Sh)(n t:Nat)(l:List D):Prop:=bd (look env t) (isSl s n l rows)
def inD(rows:Rows)(ds:List D):Option (List D):=bif aN ds then cW (view rows 9) ds else some ds
def nQ(s:Sh)(n:Int)(rows:Rows)(k:D→Rows→Prop):D→Prop
 | .sl t r p off len _=>t=s∧0≤n∧n<(len:Int)∧k (.ptr s r (p++[off+n.toNat])) rows
 | .cF t l _=>t=s∧0≤n∧n<(l.length:Int)∧bd (l[n.toNat]?) fun d=>k (.b5 d) rows
 | _=>False
def E7 (s : Sh) (l h c : Option Int) (rows : Rows) (k : D → Rows → Prop) (dx : D) : Prop :=
 bd (dK dx) fun n=>j7 (l.getD 0) (h.getD n) (c.getD (h.getD n)) n fun l h' c'=>match dx with
    | .raw (.slice none 0 0)=>k (.raw (.slice none 0 0)) rows
    | .sl t r p off len e=>t=s∧k (.sl s r p (off+l) (h'-l) (oM c h' c' len e)) rows
    | .cF t els e=>t=s∧k (.cF s ((els.drop l).take (h'-l)) (oM c h' c' els.length e)) rows
    | _=>False
def Jo(jt:List aU)(K:D→Rows→Prop):fa→Env→Rows→Prop:=fun e env rows=>(e= .normal∨e= .ret)∧bd (yf env rows jt) fun l=>K (u9 l) rows
theorem ag{C:be}{np:Nat}{jt:List aU}{ac:aB}{ds:List D}{rows:Rows}{K:D→Rows→Prop}(h1:ds.length=np)(h2:aw C ac (Jo jt K) (aa 0 ds) rows):aR C np jt ac ds rows K:=⟨h1,h2⟩
def mI:D→Option D
 | .cA _=>none
 |d=>some d
def H0(C:be)(a:aB)(Q:fa→Env→Rows→Prop)(env:Env)(rows:Rows):Prop:=∃n,jd (aw C a) Q n env rows
theorem cd{α:Type}{x y:Option α}{k:α→Prop}(h:x=y):bd x k=bd y k:=by rw[h]
theorem bt{C a b Q env rows}{d d':D}(h:d=d'):E6 C a b Q env rows d=E6 C a b Q env rows d':=by rw[h]
theorem cg{C dst o want os env rows K}{d d':D}(h:d=d'):U7 C dst o want os env rows K d=U7 C dst o want os env rows K d':=by rw[h]
theorem bu{C a b env rows k}{d d':D}(h:d=d'):Qx C a b env rows k d=Qx C a b env rows k d':=by rw[h]
theorem bw{A rows k}{d d':List D}(h:d=d'):aJ A rows k d=aJ A rows k d':=by rw[h]
theorem bO{s}{n n':Int}{rows ab:Rows}{k}{d d':D}(h1:n=n')(h2:rows=ab)(h3:d=d'):nQ s n rows k d=nQ s n' ab k d':=by rw[h1,h2,h3]
theorem bg{s}{l l' h h' c c':Option Int}{rows ab:Rows}{k}{d d':D}(h0:l=l')(h1:h=h')(hc:c=c')(h2:rows=ab)(h3:d=d'):E7 s l h c rows k d=E7 s l' h' c' ab k d':=by rw[h0,h1,hc,h2,h3]
theorem bx{C a Q env env'}{rows ab:Rows}(h:env=env')(h':rows=ab):H0 C a Q env rows=H0 C a Q env' ab:=by rw[h,h']
theorem bz{α:Type}{c d:Bool}{a b:α}(h:c=d):cond c a b=cond d a b:=by rw[h]
theorem bP{op}{a a' b b':Value}{k}(h:a=a')(h2:b=b'):bE op a b k=bE op a' b' k:=by rw[h,h2]
theorem a7{l l' h h' m m':Int}{n n':Nat}{k}(h1:l=l')(h2:h=h')(h3:m=m')(h4:n=n'):j7 l h m n k=j7 l' h' m' n' k:=by rw[h1,h2,h3,h4]
theorem bQ{rows ab:Rows}{s bytes}{a a':D}{l l':List D}{k}(h1:rows=ab)(h2:a=a')(h3:l=l'):uL rows s bytes a l k=uL ab s bytes a' l' k:=by rw[h1,h2,h3]
theorem bA{rows ab:Rows}{s}{a a':D}{l l':List D}{k}(h1:rows=ab)(h2:a=a')(h3:l=l'):nc rows s a l k=nc ab s a' l' k:=by rw[h1,h2,h3]
def gD(c:Bool)(d:D):D:=bif c then d else .cA []
theorem gD_t(d:D):gD true d=d:=Eq.trans rfl rfl
theorem gD_f(d:D):gD false d= .cA []:=Eq.trans rfl rfl
def pkO(t:Bool)(x y:Option D):Option D:=bif t then x else y
theorem pk_or(t x:Bool):pkO t (some (.raw (.bool true))) (some (gD (!t) (.raw (.bool x))))=some (.raw (.bool (t||x))):=by cases t<;>rfl
theorem pk_and(t x:Bool):pkO t (some (gD t (.raw (.bool x)))) (some (.raw (.bool false)))=some (.raw (.bool (t&&x))):=by cases t<;>rfl
section eqs
variable (C:be) (env:Env) (rows:Rows) (Q:fa→Env→Rows→Prop) (k:D→Rows→Prop) (K:Env→Rows→Prop)
theorem q_skip:aw C .skip Q env rows=Q .normal env rows:=Eq.trans rfl rfl
theorem Ws(ops):aw C (.region false ops) Q env rows=dt C ops env rows (Q .normal):=Eq.trans rfl rfl
theorem SN(ops):aw C (.region true ops) Q env rows=dt C.quiet ops env rows (Q .normal):=Eq.trans rfl rfl
theorem q_draw1(pre tail):aw C (.Qa pre tail) Q env rows=dt C.quiet pre env rows (kTail C tail (Q .normal)):=Eq.trans rfl rfl
theorem q_draw(pre dl tail):aw C (.draw pre dl tail) Q env rows=dt C.quiet pre env rows (Wq C.quiet dl fun env rows=>uM C.quiet tail env rows (Q .normal)):=Eq.trans rfl rfl
theorem q_tail(tl):kTail C tl K env rows=dt C tl env rows K:=Eq.trans rfl rfl
theorem q_stab(dl):Wq C dl K env rows=(ra C env rows dl∧K env rows):=Eq.trans rfl rfl
theorem q_st0:ra C env rows []=True:=Eq.trans rfl rfl
theorem q_st1(t o g l):ra C env rows (⟨some t,o,g⟩::l)=(df C env rows o (SL env rows t)∧ra C env rows l):=by
 simp only[ra]
 congr 1
theorem q_st2(t d r):SL env rows t d r=(look env t=some d∧r=rows):=Eq.trans rfl rfl
theorem q_ta0:uM C [] env rows K=K env rows:=Eq.trans rfl rfl
theorem q_ta1(x dl l):uM C ((x,dl)::l) env rows K=dt C [x] env rows (Wq C dl fun env rows=>uM C l env rows K):=Eq.trans rfl rfl
theorem q_drawf(pre dl tail):aw C (.Vj pre dl tail) Q env rows=dt C.quiet pre env rows (Jn C.quiet dl fun env rows=>xc C tail env rows (Q .normal)):=Eq.trans rfl rfl
theorem q_stabF(dl):Jn C dl K env rows=(oN C env rows dl∧K env rows):=Eq.trans rfl rfl
theorem q_intF(fl dl):kIntF C fl dl K env rows=dt C fl env rows (Jn C dl K):=Eq.trans rfl rfl
theorem q_sf0:oN C env rows []=True:=Eq.trans rfl rfl
theorem q_sf1(t o g l):oN C env rows (⟨some t,o,g⟩::l)=(jc C env rows o t∧oN C env rows l):=Eq.trans rfl rfl
theorem q_sfa(s z t):jc C env rows (.alloc s z) t=bd (look env t) (Vm s [z] rows):=Eq.trans rfl rfl
theorem q_sfb(s n z ps t):jc C env rows (.ib s n z ps) t=bd (m9 C env (Sh.ar n s).sub ps (List.replicate n z)) (kSlF env rows s n t):=Eq.trans rfl rfl
theorem q_sfm(x t):jc C env rows (.mv x) t=df C env rows (.mv x) (SL env rows t):=by
 simp only[jc]
 congr 1
theorem q_sfl(s x t):jc C env rows (.load s x) t=df C env rows (.load s x) (SL env rows t):=by
 simp only[jc]
 congr 1
theorem q_sfe(x i t):jc C env rows (.ext x i) t=df C env rows (.ext x i) (SL env rows t):=by
 simp only[jc]
 congr 1
theorem q_sff(s x i t):jc C env rows (.eN s x i) t=df C env rows (.eN s x i) (SL env rows t):=by
 simp only[jc]
 congr 1
theorem q_slf(s n t l):kSlF env rows s n t l=bd (look env t) (isSl s n l rows):=Eq.trans rfl rfl
theorem q_isp(s l s' r p):Vm s l rows (.ptr s' r p)=(s'=s∧p=[0]∧live rows r=some ⟨s,l⟩):=Eq.trans rfl rfl
theorem q_isl(s n l s' r p off len ex):isSl s n l rows (.sl s' r p off len ex)=(s'=s∧p=[]∧off=0∧len=n∧ex=true∧live rows r=some ⟨s,l⟩):=Eq.trans rfl rfl
theorem q_tf0:xc C [] env rows K=K env rows:=Eq.trans rfl rfl
theorem q_tf1(x fl dl l):xc C ((x,fl,dl)::l) env rows K=dt C [x] env rows (kIntF C.quiet fl dl fun env rows=>xc C l env rows K):=Eq.trans rfl rfl
theorem q_qfn(f):C.quiet.fn f=C.fn f:=Eq.trans rfl rfl
theorem q_qgl(f):C.quiet.aZ f=C.aZ f:=Eq.trans rfl rfl
theorem q_seq(a b):aw C (.seq a b) Q env rows=aw C a (Wp C b Q) env rows:=Eq.trans rfl rfl
theorem q_cond(c a b):aw C (.cond c a b) Q env rows=bd (ev C env c) (E6 C a b Q env rows):=Eq.trans rfl rfl
theorem q_block(id a):aw C (.block id a) Q env rows=aw C a (Ob id Q) env rows:=Eq.trans rfl rfl
theorem q_loop(a):aw C (.loop a) Q env rows=H0 C a Q env rows:=Eq.trans rfl rfl
theorem q_exit(id):aw C (.exit id) Q env rows=Q (.exit id) env rows:=Eq.trans rfl rfl
theorem q_ret:aw C .ret Q env rows=Q .ret env rows:=Eq.trans rfl rfl
theorem q_fr(jt)(R:D→Rows→Prop):Jo jt R .ret env rows=bd (yf env rows jt) fun l=>R (u9 l) rows:=by simp[Jo]
theorem q_fn(jt)(R:D→Rows→Prop):Jo jt R .normal env rows=bd (yf env rows jt) fun l=>R (u9 l) rows:=by simp[Jo]
theorem q_a0:yf env rows []=some []:=Eq.trans rfl rfl
theorem q_a1(r l):yf env rows (r::l)=(Cl env rows r).bind fun d=>(yf env rows l).map fun ds=>d::ds:=by
 simp only[yf]
 cases Cl env rows r with
 |none=>rfl
 |some d=>cases yf env rows l<;>rfl
theorem q_at(t):Cl env rows (.tmp t)=(look env t).bind mI:=by
 simp only[Cl]
 cases look env t with
 |none=>rfl
 |some d=>cases d<;>rfl
theorem q_ac(t s):Cl env rows (.cell t s)=match look env t with
  |some (.ptr s' r p)=>bif s'==s then(match live rows r with
   |some row=>cP row.els p
   |none=>none)else none
  | _=>none:=Eq.trans rfl rfl
theorem n_raw(v):mI (.raw v)=some (.raw v):=Eq.trans rfl rfl
theorem n_ptr(s r p):mI (.ptr s r p)=some (.ptr s r p):=Eq.trans rfl rfl
theorem n_sl(s r p o n e):mI (.sl s r p o n e)=some (.sl s r p o n e):=Eq.trans rfl rfl
theorem n_lst(s l e):mI (.cF s l e)=some (.cF s l e):=Eq.trans rfl rfl
theorem n_cptr(d):mI (.b5 d)=some (.b5 d):=Eq.trans rfl rfl
theorem n_agg(s l):mI (.agg s l)=some (.agg s l):=Eq.trans rfl rfl
theorem q_r1(d):u9 [d]=d:=Eq.trans rfl rfl
theorem q_r0:u9 []= .cA []:=Eq.trans rfl rfl
theorem q_r2(d e l):u9 (d::e::l)= .cA (d::e::l):=Eq.trans rfl rfl
theorem sl_sl(s r p o n e):dK (.sl s r p o n e)=some n:=Eq.trans rfl rfl
theorem sl_lst(s l e):dK (.cF s l e)=some l.length:=Eq.trans rfl rfl
theorem sl_nil:dK (.raw (.slice none 0 0))=some 0:=Eq.trans rfl rfl
theorem so_str(b):n9 rows (.leaf (.int .u8)) (.raw (.string b))=some (ofBytes b):=by simp[n9]
theorem so_sl(s t r p o n e):n9 rows s (.sl t r p o n e)=bif s==t then elems rows (.sl t r p o n e)else none:=Eq.trans rfl rfl
theorem so_lst(s t l e):n9 rows s (.cF t l e)=bif s==t then some l else none:=Eq.trans rfl rfl
theorem so_nil(s):n9 rows s (.raw (.slice none 0 0))=some []:=Eq.trans rfl rfl
theorem el_sl(s r off len e):elems rows (.sl s r [] off len e)=(live rows r).map fun row=>(row.els.drop off).take len:=by simp only[elems];cases live rows r<;>rfl
theorem el_lst(s l e):elems rows (.cF s l e)=some l:=Eq.trans rfl rfl
theorem el_nil:elems rows (.raw (.slice none 0 0))=some []:=Eq.trans rfl rfl
theorem lv_0(row):live (some row::rows) 0=some row:=Eq.trans rfl rfl
theorem lv_s(x n):live (x::rows) (n+1)=live rows n:=by simp[live]
theorem lv_new(row):live (rows++[some row]) rows.length=some row:=by simp[live]
theorem g_row(els:List D)(i p):cP els (i::p)=(els[i]?).bind fun d=>d.get p:=by simp only[cP];cases els[i]?<;>rfl
theorem g_nil(d):D.get d []=some d:=by cases d<;>rfl
theorem g_agg(s)(l:List D)(i p):D.get (.agg s l) (i::p)=(l[i]?).bind fun d=>d.get p:=by simp only[D.get];cases l[i]?<;>rfl
theorem s_row(els:List D)(i p x):kg els (i::p) x=(els[i]?).bind fun d=>(d.set p x).map fun d'=>els.set i d':=by
 simp only[kg]
 cases els[i]? with
 |none=>rfl
 |some d=>
  simp only[Option.bind_some]
  cases D.set d p x<;>rfl
theorem s_nil(d x):D.set d [] x=some x:=by cases d<;>rfl
theorem s_agg(s)(l:List D)(i p x):D.set (.agg s l) (i::p) x=(l[i]?).bind fun d=>(d.set p x).map fun d'=> .agg s (l.set i d'):=by
 simp only[D.set]
 cases l[i]? with
 |none=>rfl
 |some d=>
  simp only[Option.bind_some]
  cases D.set d p x<;>rfl
theorem sub_0(a b):(Sh.cons a b).sub 0=some a:=Eq.trans rfl rfl
theorem sub_s(a b i):(Sh.cons a b).sub (i+1)=b.sub i:=Eq.trans rfl rfl
theorem sub_ar(n s i):(Sh.ar n s).sub i=if i<n then some s else none:=Eq.trans rfl rfl
theorem a_nil(s bytes)(news:List D):uL rows s bytes (.raw (.slice none 0 0)) news k=(news.length*bytes≤most∧news.length≤most∧k (.sl s rows.length [] 0 news.length false) (rows++[some ⟨s,news⟩])):=by simp[uL,elems,dK,bd,eK,isNil,kill]
theorem a_sl(s bytes t r n e)(news:List D):uL rows s bytes (.sl t r [] 0 n e) news k=bd (live rows r) fun row=>(s==t)=true∧(row.els.take n).length=n∧(n+news.length)*bytes≤most∧n+news.length≤most∧k (.sl s rows.length [] 0 (n+news.length) false) (rows.set r none++[some ⟨s,row.els.take n++news⟩]):=by
 simp only[uL,elems,dK,eK,isNil,owned,kill]
 cases live rows r<;>simp[bd]
theorem most_eq:most=1099511627776:=rfl
theorem q_bd(l h m:Int)(n:Nat)(kk:Nat→Nat→Nat→Prop):j7 l h m n kk=(0≤l∧l≤h∧h≤m∧m≤(n:Int)∧kk l.toNat h.toNat m.toNat):=Eq.trans rfl rfl
theorem q_skl(s l h c t els e):E7 s l h c rows k (.cF t els e)=j7 (l.getD 0) (h.getD els.length) (c.getD (h.getD els.length)) els.length fun l h' c'=>t=s∧k (.cF s ((els.drop l).take (h'-l)) (oM c h' c' els.length e)) rows:=Eq.trans rfl rfl
theorem q_sks(s l h c t r p off)(n:Nat)(e):E7 s l h c rows k (.sl t r p off n e)=j7 (l.getD 0) (h.getD n) (c.getD (h.getD n)) n fun l h' c'=>t=s∧k (.sl s r p (off+l) (h'-l) (oM c h' c' n e)) rows:=Eq.trans rfl rfl
theorem q_sn(b):Wp C b Q .normal env rows=aw C b Q env rows:=Eq.trans rfl rfl
theorem q_sr(b):Wp C b Q .ret env rows=Q .ret env rows:=Eq.trans rfl rfl
theorem q_se(b i):Wp C b Q (.exit i) env rows=Q (.exit i) env rows:=Eq.trans rfl rfl
theorem q_bn(id):Ob id Q .normal env rows=Q .normal env rows:=Eq.trans rfl rfl
theorem q_br(id):Ob id Q .ret env rows=Q .ret env rows:=Eq.trans rfl rfl
theorem q_be(id i):Ob id Q (.exit i) env rows=bif i==id then Q .normal env rows else Q (.exit i) env rows:=by
 simp only[Ob]
 by_cases h:i=id
 ·subst h;simp
 ·have:(i==id)=false:=by simpa using h
  simp[h,this]
theorem q_ct(a b):E6 C a b Q env rows (.raw (.bool true))=aw C a Q env rows:=by simp[E6]
theorem q_cf(a b):E6 C a b Q env rows (.raw (.bool false))=aw C b Q env rows:=by simp[E6]
theorem q_on:dt C [] env rows K=K env rows:=Eq.trans rfl rfl
theorem q_oc(dst o os):dt C (⟨dst,o,none⟩::os) env rows K=df C env rows o (kOp C dst os env K):=Eq.trans rfl rfl
theorem q_og(dst o g want os):dt C (⟨dst,o,some (g,want)⟩::os) env rows K=bd (look env g) (U7 C dst o want os env rows K):=Eq.trans rfl rfl
theorem q_gtt(dst o os):U7 C dst o true os env rows K (.raw (.bool true))=df C env rows o (kOp C dst os env K):=by simp only[U7];simp;rfl
theorem q_gtf(dst o os):U7 C dst o false os env rows K (.raw (.bool true))=dt C os (put dst (.cA []) env) rows K:=by simp[U7]
theorem q_gft(dst o os):U7 C dst o true os env rows K (.raw (.bool false))=dt C os (put dst (.cA []) env) rows K:=by simp[U7]
theorem q_gff(dst o os):U7 C dst o false os env rows K (.raw (.bool false))=df C env rows o (kOp C dst os env K):=by simp only[U7];simp;rfl
theorem q_gz(dst o want os):U7 C dst o want os env rows K (.cA [])=dt C os (put dst (.cA []) env) rows K:=Eq.trans rfl rfl
theorem q_ko(dst os d):kOp C dst os env K d rows=dt C os (put dst d env) rows K:=Eq.trans rfl rfl
theorem q_bs{α:Type}(a:α)(k:α→Prop):bd (some a) k=k a:=Eq.trans rfl rfl
theorem q_et(t):ev C env (.tmp t)=look env t:=Eq.trans rfl rfl
theorem q_ec(v):ev C env (.const v)=some (.raw v):=Eq.trans rfl rfl
theorem q_eg(g):ev C env (.aZ g)=(C.aZ g).map D.b5:=by
 simp only[ev]
 cases C.aZ g<;>rfl
theorem q_lk(j t d):look ((j,d)::env) t=bif j==t then some d else look env t:=Eq.trans rfl rfl
theorem q_ps(t d):put (some t) d env=(t,d)::env:=Eq.trans rfl rfl
theorem q_pn(d):put none d env=env:=Eq.trans rfl rfl
theorem q_es0:KJ C env []=some []:=Eq.trans rfl rfl
theorem q_es1(x l):KJ C env (x::l)=match ev C env x with|some d=>(match KJ C env l with|some ds=>some (d::ds)|none=>none)|none=>none:=Eq.trans rfl rfl
theorem q_eo0:DX C env none=some none:=Eq.trans rfl rfl
theorem q_eo1(x):DX C env (some x)=(ev C env x).bind fun d=>(U6 d).map some:=by
 show(match ev C env x with|some (.raw (.int _ n))=>some (some n)| _=>none)=_
 cases ev C env x with
 |none=>rfl
 |some d=>cases d with
  |raw v=>cases v<;>rfl
  | _=>rfl
theorem o_mv(x):df C env rows (.mv x) k=bd (ev C env x) fun d=>k d rows:=Eq.trans rfl rfl
theorem o_pick(c a b):df C env rows (.pick c a b) k=bd (ev C env c) (Qx C a b env rows k):=Eq.trans rfl rfl
theorem o_bin(op x y):df C env rows (.bin op x y) k=bd (ev C env x) fun
  | .raw a=>bd (ev C env y) fun
   | .raw b=>bE op a b fun d=>k d rows
   | _=>False
  | _=>False:=Eq.trans rfl rfl
theorem o_eqa(s neg x y):df C env rows (.ZT s neg x y) k=bd (ev C env x) fun dx=>bd (ev C env y) fun dy=>bd (eqA s dx dy) fun b=>k (.raw (.bool (bif neg then !b else b))) rows:=by
 show bd _ _=_
 congr 1
 funext dx
 cases dx with
 | agg s1 l =>
  show bd _ _=_
  congr 1
  funext dy
  cases dy with
  | agg s2 l' =>
   show(s1=s∧s2=s∧_)=_
   unfold eqA
   by_cases h1:s1=s
   ·by_cases h2:s2=s
    ·simp[h1,h2]
    ·have:(s2==s)=false:=by simpa using h2
     simp[h2,this,bd]
   ·have:(s1==s)=false:=by simpa using h1
    simp[h1,this,bd]
  | _=>rfl
 | _=>
  cases ev C env y<;>rfl
theorem ea_agg(s l l'):eqA s (.agg s l) (.agg s l')=yV l l':=by simp[eqA]
theorem eL_n:yV [] []=some true:=Eq.trans rfl rfl
theorem eL_c(a l b l'):yV (a::l) (b::l')=(sK a b).bind fun t=>(yV l l').map fun u=>t&&u:=by
 simp only[yV]
 cases sK a b with
 |none=>rfl
 |some t=>cases yV l l'<;>rfl
theorem eD_agg(s l s' l'):sK (.agg s l) (.agg s' l')=yV l l':=by simp only[sK]
theorem eD_u8(a b):sK (.raw (u8 a)) (.raw (u8 b))=some (decide (a=b)):=by simp only[sK,gW,u8,if_true];congr 1;exact decide_eq_decide.2 ⟨fun h=>BitVec.eq_of_toNat_eq (by omega),fun h=>by rw[h]⟩
theorem eD_u32(a b):sK (.raw (u32 a)) (.raw (u32 b))=some (decide (a=b)):=by simp only[sK,gW,u32,if_true];congr 1;exact decide_eq_decide.2 ⟨fun h=>BitVec.eq_of_toNat_eq (by omega),fun h=>by rw[h]⟩
theorem eD_u64(a b):sK (.raw (u64 a)) (.raw (u64 b))=some (decide (a=b)):=by simp only[sK,gW,u64,if_true];congr 1;exact decide_eq_decide.2 ⟨fun h=>BitVec.eq_of_toNat_eq (by omega),fun h=>by rw[h]⟩
theorem eD_it(a b):sK (.raw (it a)) (.raw (it b))=some (decide (a=b)):=by simp only[sK,gW,it,if_true]
theorem eD_b(a b):sK (.raw (.bool a)) (.raw (.bool b))=some (a==b):=by simp only[sK,gW]
theorem o_beq(neg x y):df C env rows (.beq neg x y) k=bd (ev C env x) fun
  | .raw (.bool a)=>bd (ev C env y) fun
   | .raw (.bool b)=>k (.raw (.bool (bif neg then !(a==b)else a==b))) rows
   | _=>False
  | _=>False:=Eq.trans rfl rfl
theorem o_un(op x):df C env rows (.un op x) k=bd (ev C env x) fun
  | .raw a=>Vl op a fun d=>k d rows
  | _=>False:=Eq.trans rfl rfl
theorem o_conv(kd x):df C env rows (.conv kd x) k=bd (ev C env x) fun d=>bd (yg kd d) fun v=>k (.raw v) rows:=by
 show(bd _ _)=_
 congr 1
 funext d
 cases d with
 |raw v=>cases v<;>rfl
 | _=>rfl
theorem o_convs(x):df C env rows (.En x) k=bd (ev C env x) fun
  | .raw (.string b)=>k (.raw (.string b)) rows
  | _=>False:=Eq.trans rfl rfl
theorem o_alloc(s z):df C env rows (.alloc s z) k=k (.ptr s rows.length [0]) (rows++[some ⟨s,[z]⟩]):=Eq.trans rfl rfl
theorem o_box(s x):df C env rows (.box s x) k=bd (ev C env x) fun d=>d.fits s=true∧k (.ptr s rows.length [0]) (rows++[some ⟨s,[d]⟩]):=Eq.trans rfl rfl
theorem o_build(s z parts):df C env rows (.build s z parts) k=bd (m9 C env s.sub parts z) fun l=>k (.agg s l) rows:=Eq.trans rfl rfl
theorem Wt(s n z parts):df C env rows (.ib s n z parts) k=bd (m9 C env (Sh.ar n s).sub parts (List.replicate n z)) fun l=>k (.sl s rows.length [] 0 n true) (rows++[some ⟨s,l⟩]):=Eq.trans rfl rfl
theorem o_load(s x):df C env rows (.load s x) k=bd (ev C env x) fun
  | .ptr s' r p=>s'=s∧bd (live rows r) fun row=>bd (cP row.els p) fun d=>k d rows
  | .b5 d=>d.fits s=true∧k d rows
  | .lF m t r p off=>s= .ar m t∧bd (elems rows (.sl t r p off m false)) fun l=>l.length=m∧k (.agg s l) rows
  | _=>False:=Eq.trans rfl rfl
theorem o_store(s x v):df C env rows (.store s x v) k=bd (ev C env x) fun
  | .ptr s' r p => bd (ev C env v) fun d => d.fits s = true ∧ s' = s ∧ bd (live rows r) fun row => bd (kg row.els p d) fun els =>
    k (.cA []) (rows.set r (some ⟨row.sh,els⟩))
  | _=>False:=Eq.trans rfl rfl
theorem o_nilc(x):df C env rows (.pW x) k=bd (ev C env x) fun
  | .ptr s r p=>k (.ptr s r p) rows
  | .b5 d=>k (.b5 d) rows
  | _=>False:=Eq.trans rfl rfl
theorem o_faddr(s x i):df C env rows (.eN s x i) k=bd (ev C env x) fun
  | .ptr s' r p=>s'=s∧bd (s.sub i) fun e=>k (.ptr e r (p++[i])) rows
  | .b5 (.agg s' l)=>s'=s∧bd (l[i]?) fun d=>k (.b5 d) rows
  | _=>False:=Eq.trans rfl rfl
theorem o_field(s x i):df C env rows (.field s x i) k=bd (ev C env x) fun
  | .agg s' l=>s'=s∧bd (l[i]?) fun d=>k d rows
  | _=>False:=Eq.trans rfl rfl
theorem Wu(m s x i):df C env rows (.uJ m s x i) k=bd (ev C env x) fun dx=>bd (ev C env i) fun di=>bd (U6 di) fun n=>match dx with
   | .ptr t r p=>t= .ar m s∧0≤n∧n<(m:Int)∧k (.ptr s r (p++[n.toNat])) rows
   | .b5 (.agg t l)=>t= .ar m s∧0≤n∧n<(m:Int)∧bd (l[n.toNat]?) fun d=>k (.b5 d) rows
   | _=>False:=by
 show(bd _ _)=_
 congr 1
 funext dx
 show(bd _ _)=_
 congr 1
 funext d
 cases d with
 |raw v=>cases v<;>rfl
 | _=>rfl
theorem Wv(s x i):df C env rows (.lG s x i) k=bd (ev C env x) fun dx=>bd (ev C env i) fun di=>bd (U6 di) fun n=>nQ s n rows k dx:=by
 show(bd _ _)=_
 congr 1
 funext dx
 show(bd _ _)=_
 congr 1
 funext d
 cases d with
 |raw v=>cases v<;>rfl
 | _=>rfl
theorem q_ixl(s n t l e):nQ s n rows k (.cF t l e)=(t=s∧0≤n∧n<(l.length:Int)∧bd (l[n.toNat]?) fun d=>k (.b5 d) rows):=Eq.trans rfl rfl
theorem q_ixs(s n t r p off len e):nQ s n rows k (.sl t r p off len e)=(t=s∧0≤n∧n<(len:Int)∧k (.ptr s r (p++[off+n.toNat])) rows):=Eq.trans rfl rfl
theorem o_index(m s x i):df C env rows (.index m s x i) k=bd (ev C env x) fun
  | .agg t l=>bd (ev C env i) fun di=>bd (U6 di) fun n=>t= .ar m s∧0≤n∧n<(m:Int)∧bd (l[n.toNat]?) fun d=>k d rows
  | _=>False:=by
 show(bd _ _)=_
 congr 1
 funext dx
 cases dx with
 |agg t l=>
  show(bd _ _)=_
  congr 1
  funext d
  cases d with
  |raw v=>cases v<;>rfl
  | _=>rfl
 | _=>rfl
theorem Ww(x i):df C env rows (.sI x i) k=bd (ev C env x) fun
  | .raw (.string b)=>bd (ev C env i) fun di=>bd (U6 di) fun n=>0≤n∧bd (b.data.toList[n.toNat]?) fun c=>k (.raw (u8 c.toBitVec)) rows
  | _=>False:=by
 show(bd _ _)=_
 congr 1
 funext dx
 cases dx with
 | raw v => cases v with
  |string b=>
   show(bd _ _)=_
   congr 1
   funext d
   cases d with
   |raw v=>cases v<;>rfl
   | _=>rfl
  | _=>rfl
 | _=>rfl
theorem Wx(m s x lo hi mx):df C env rows (.xR m s x lo hi mx) k=bd (ev C env x) fun dx=>bd (DX C env lo) fun l=>bd (DX C env hi) fun h=>bd (DX C env mx) fun c=>
   j7 (l.getD 0) (h.getD m) (c.getD m) m fun l h c=>match dx with
    | .ptr t r p=>t= .ar m s∧k (.sl s r p l (h-l) (h==c)) rows
    | .b5 (.agg t els)=>t= .ar m s∧k (.cF s ((els.drop l).take (h-l)) (h==c)) rows
    | _=>False:=Eq.trans rfl rfl
theorem o_slice(s x lo hi mx):df C env rows (.slice s x lo hi mx) k=bd (ev C env x) fun dx=>bd (DX C env lo) fun l=>bd (DX C env hi) fun h=>bd (DX C env mx) fun c=>E7 s l h c rows k dx:=Eq.trans rfl rfl
theorem Wy(x lo hi):df C env rows (.xS x lo hi) k=bd (ev C env x) fun
  | .raw (.string b)=>bd (DX C env lo) fun l=>bd (DX C env hi) fun h=>j7 (l.getD 0) (h.getD b.size) b.size b.size fun l h _=>k (.raw (.string (b.extract l h))) rows
  | _=>False:=Eq.trans rfl rfl
theorem o_mks(s bytes z len cap):df C env rows (.mks s bytes z len cap) k=bd (ev C env len) fun dl=>bd (U6 dl) fun l=>bd (ev C env cap) fun dc=>bd (U6 dc) fun c=>0≤l∧l≤c∧c*bytes≤(most:Int)∧c≤(most:Int)∧
     k (.sl s rows.length [] 0 l.toNat (decide (l=c))) (rows++[some ⟨s,List.replicate l.toNat z⟩]):=by
 show(bd _ _)=_
 congr 1
 funext d
 cases d with
 | raw v => cases v with
  |int kk l=>
   show(bd _ _)=_
   congr 1
   funext d
   cases d with
   |raw v=>cases v<;>rfl
   | _=>rfl
  | _=>rfl
 | _=>rfl
theorem o_ext(x i):df C env rows (.ext x i) k=bd (ev C env x) fun
  | .cA l=>bd (l[i]?) fun d=>k d rows
  | _=>False:=Eq.trans rfl rfl
theorem o_len(x):df C env rows (.len x) k=bd (ev C env x) fun d=>bd (dK d) fun n=>k (.raw (it n)) rows:=Eq.trans rfl rfl
theorem Wz(x):df C env rows (.xT x) k=bd (ev C env x) fun
  | .raw (.string b)=>k (.raw (it b.size)) rows
  | _=>False:=Eq.trans rfl rfl
theorem WA(s bytes a b):df C env rows (.append s bytes a b) k=bd (ev C env a) fun da=>bd (ev C env b) fun db=>bd (n9 rows s db) fun news=>(∀k,dK db=some k→news.length=k)∧uL rows s bytes da news k:=Eq.trans rfl rfl
theorem SO(s bytes z a n):df C env rows (.sJ s bytes z a n) k=bd (ev C env a) fun da=>bd (ev C env n) fun dn=>bd (U6 dn) fun m=>0≤m∧uL rows s bytes da (List.replicate m.toNat z) k:=by
 show(bd _ _)=_
 congr 1
 funext dx
 show(bd _ _)=_
 congr 1
 funext d
 cases d with
 |raw v=>cases v<;>rfl
 | _=>rfl
theorem o_copy(s a b):df C env rows (.copy s a b) k=bd (ev C env a) fun da=>bd (ev C env b) fun db=>bd (n9 rows s db) fun src=>(∀k,dK db=some k→src.length=k)∧nc rows s da src k:=Eq.trans rfl rfl
theorem WB(mx l):df C env rows (.uK mx l) k=bd (KJ C env l) fun ds=>bd (yW mx ds) fun r=>k (.raw (.int r.1 r.2)) rows:=Eq.trans rfl rfl
theorem mm_c(mx n l):yW mx (.raw (it n)::l)=(mF mx .i64 n l).map fun m=>(IntKind.i64,m):=by
 simp only[yW,it]
 cases mF mx .i64 n l<;>rfl
theorem mf_n(mx kd n):mF mx kd n []=some n:=Eq.trans rfl rfl
theorem mf_c(mx n m l):mF mx .i64 n (.raw (it m)::l)=mF mx .i64 (bif mx then max n m else min n m) l:=by simp[mF,it]
theorem fold_it(n):Value.int .i64 n=it n:=Eq.trans rfl rfl
theorem o_b2s(x):df C env rows (.Vi x) k=bd (ev C env x) fun d=>eK (.leaf uE) d=true∧bd (elems rows d) fun l=>bd (dK d) fun n=>l.length=n∧bd (cW toByte l) fun bs=>k (.raw (.string ⟨bs.toArray⟩)) rows:=Eq.trans rfl rfl
theorem o_s2b(x):df C env rows (.s2b x) k=bd (ev C env x) fun
  | .raw (.string b)=>k (.cF (.leaf uE) (ofBytes b) false) rows
  | _=>False:=Eq.trans rfl rfl
theorem o_call(f args):df C env rows (.call f args) k=bd (KJ C env args) fun ds=>kFn C rows f k (C.fn f) ds:=by simp only[←Qy];exact Eq.trans rfl rfl
theorem q_fns(f A ds):kFn C rows f k (some A) ds=aJ A rows k ds:=Eq.trans rfl rfl
theorem q_fnn(f ds):kFn C rows f k none ds=bd (C.KX f) fun A=>A ds rows k:=Eq.trans rfl rfl
theorem q_frq(f):C.KX f=(C.fU f).or ((C.Vk f).map KW):=by unfold be.KX;cases C.fU f<;>rfl
theorem q_qfr(f):C.quiet.fU f=none:=Eq.trans rfl rfl
theorem q_qfq(f):C.quiet.Vk f=C.Vk f:=Eq.trans rfl rfl
theorem q_ors(A:jx)(o:Option jx):(some A:Option jx).or o=some A:=Eq.trans rfl rfl
theorem q_orn(o:Option jx):(none:Option jx).or o=o:=by cases o<;>rfl
theorem q_qrn(q ds)(K:D→Rows→Prop):KW q ds rows K=bd (q ds rows) fun r=>K r.1 (rows++r.2):=Eq.trans rfl rfl
theorem o_callv(fs x args):df C env rows (.oK fs x args) k=bd (ev C env x) fun
  | .raw (.func (.func f) c1 c2)=>c1=#[]∧c2=#[]∧IY f fs=true∧bd (KJ C env args) fun ds=>kFn C rows f k (C.fn f) ds
  | .A0 f s r p=>IY f fs=true∧bd (KJ C env args) fun ds=>kFn C rows f k (C.fn f) (ds++[.ptr s r p])
  | _=>False:=by simp only[←Qy];exact Eq.trans rfl rfl
theorem o_fail:df C env rows (.fail) k=False:=Eq.trans rfl rfl
theorem o_eqnil(neg x y):df C env rows (.yU neg x y) k=bd (ev C env x) fun dx=>bd (ev C env y) fun dy=>bd (Jm dx dy) fun b=>k (.raw (.bool (bif neg then !b else b))) rows:=by
 show bd _ _=_
 congr 1
 funext dx
 show bd _ _=_
 congr 1
 funext dy
 cases dy with
 | raw v => cases v with
  | pointer ad => cases ad with
   | none => cases dx with
    |raw v=>cases v with
     |pointer ad=>cases ad<;>cases neg<;>rfl
     | _=>rfl
    | _=>cases neg<;>rfl
   | some _ => cases dx with
    |raw v=>cases v with
     |pointer ad=>cases ad<;>rfl
     | _=>rfl
    | _=>rfl
  | _ => cases dx with
    |raw v=>cases v with
     |pointer ad=>cases ad<;>rfl
     | _=>rfl
    | _=>rfl
 | _ => cases dx with
  |raw v=>cases v with
   |pointer ad=>cases ad<;>rfl
   | _=>rfl
  | _=>rfl
theorem nb_nn:Jm (.raw (.pointer none)) (.raw (.pointer none))=some true:=Eq.trans rfl rfl
theorem nb_pn(s r p):Jm (.ptr s r p) (.raw (.pointer none))=some false:=Eq.trans rfl rfl
theorem nb_cn(d):Jm (.b5 d) (.raw (.pointer none))=some false:=Eq.trans rfl rfl
theorem o_eqsn(neg x y):df C env rows (.KU neg x y) k=bd (ev C env x) fun dx=>bd (ev C env y) fun
  | .raw (.slice none 0 0)=>match dx with
   | .raw (.slice none 0 0)=>k (.raw (.bool (!neg))) rows
   | .cF _ l _=>(l.length=0→k (.raw (.bool (!neg))) rows)∧k (.raw (.bool neg)) rows
   | .sl _ _ _ _ len _=>(len=0→k (.raw (.bool (!neg))) rows)∧k (.raw (.bool neg)) rows
   | _=>False
  | _=>False:=Eq.trans rfl rfl
theorem o_s2a(n s x):df C env rows (.s2a n s x) k=bd (ev C env x) fun
  | .sl t r p off len _=>t=s∧n≤len∧0<n∧k (.lF n s r p off) rows
  | .cF t l _=>t=s∧n≤l.length∧0<n∧k (.b5 (.agg (.ar n s) (l.take n))) rows
  | _=>False:=Eq.trans rfl rfl
theorem o_frzb(s x):df C env rows (.NG s x) k=bd (ev C env x) fun
  | .sl t r [] off len ex=>t=s∧0<len∧bd (live rows r) fun row=>off+len≤row.els.length∧k (.sl s r [] off len ex) rows
  | _=>False:=Eq.trans rfl rfl
theorem o_mnz(x):df C env rows (.mnz x) k=bd (ev C env x) fun dx=>bd (asIt dx) fun n=>0≤n∧n≤(most:Int)∧∀l:List (BitVec 8),l.length=n.toNat→k (.sl L8 rows.length [] 0 n.toNat false) (rows++[some ⟨L8,l.map fun b=> .raw (u8 b)⟩]):=by
 show(bd _ _)=_
 congr 1
 funext d
 cases d with
 |raw v=>cases v with
  |int kd n=>cases kd<;>simp only[asIt,bd,reduceCtorEq,false_and,true_and]<;>rfl
  | _=>rfl
 | _=>rfl
theorem asIt_it(n):asIt (.raw (it n))=some n:=Eq.trans rfl rfl
theorem o_mkm(ks vs):df C env rows (.ZU ks vs) k=k (.mp rows.length) (rows++[some ⟨pP ks vs,[]⟩]):=Eq.trans rfl rfl
theorem o_mset(ks vs m x v):df C env rows (.oL ks vs m x v) k=bd (ev C env m) fun dm=>bd (asMp dm) fun r=>bd (ev C env x) fun kd=>bd (ev C env v) fun dv=>kd.fits ks=true∧dv.fits vs=true∧bd (live rows r) fun row=>row.sh=pP ks vs∧
     k (.cA []) (rows.set r (some ⟨row.sh,.agg (pP ks vs) [kd,dv]::row.els⟩)):=by show(bd _ _)=_;congr 1;funext d;cases d<;>rfl
theorem o_mget(ks vs ok z m x):df C env rows (.KV ks vs ok z m x) k=bd (ev C env m) fun dm=>bd (ev C env x) fun kd=>kd.fits ks=true∧bd (A1 rows (pP ks vs) dm) fun els=>bd (Hy kd els) fun o=>k (Wo vs ok z o) rows:=Eq.trans rfl rfl
theorem mr_mp(r):asMp (.mp r)=some r:=Eq.trans rfl rfl
theorem me_mp(rows s r):A1 rows s (.mp r)=(live rows r).bind fun row=>bif row.sh==s then some row.els else none:=by simp only[A1];cases live rows r<;>rfl
theorem me_om(rows s t l):A1 rows s (.om t l)=bif t==s then some l else none:=Eq.trans rfl rfl
theorem mr_ft(vs z v):Wo vs false z (some v)=dV vs v:=Eq.trans rfl rfl
theorem mr_tt(vs z v):Wo vs true z (some v)= .cA [dV vs v,.raw (.bool true)]:=Eq.trans rfl rfl
theorem mr_fn(vs z):Wo vs false z none=z:=Eq.trans rfl rfl
theorem mr_tn(vs z):Wo vs true z none= .cA [z,.raw (.bool false)]:=Eq.trans rfl rfl
theorem dv_lf(c v):dV (.leaf c) v= .raw v:=Eq.trans rfl rfl
theorem o_clr(s z x):df C env rows (.clr s z x) k=bd (ev C env x) fun d=>bd (dK d) fun n=>nc rows s d (List.replicate n z) fun _ rows=>k (.cA []) rows:=Eq.trans rfl rfl
theorem o_mkf(f x):df C env rows (.mkf f x) k=bd (ev C env x) fun
  | .ptr s r p=>k (.A0 f s r p) rows
  | _=>False:=Eq.trans rfl rfl
theorem o_idxb(x y):df C env rows (.NH x y) k=bd (ev C env x) fun
  | .raw (.string b)=>bd (ev C env y) fun
   | .raw (.int .u8 c)=>k (.raw (.int .i64 (RW c b))) rows
   | _=>False
  | _=>False:=Eq.trans rfl rfl
theorem hr_clo(f s r p):aQ (.A0 f s r p)=true:=Eq.trans rfl rfl
theorem q_pk(a b t):Qx C a b env rows k (.raw (.bool t))=bd (pkO t (ev C env a) (ev C env b)) fun d=>k d rows:=Eq.trans rfl rfl
theorem q_pkt(x y):pkO true x y=x:=Eq.trans rfl rfl
theorem q_pkf(x y):pkO false x y=y:=Eq.trans rfl rfl
theorem q_f0(sub z):m9 C env sub [] z=some z:=Eq.trans rfl rfl
theorem q_f1(sub z i x r):m9 C env sub ((i,x)::r) z=match ev C env x with
  |some d=>match sub i with
   |some e=>bif d.fits e then m9 C env sub r (z.set i d)else none
   |none=>none
  |none=>none:=Eq.trans rfl rfl
theorem q_call(A ds):aJ A rows k ds=bd (inD rows ds) fun ds'=>bd (A ds' []) fun r=>(bif aN ds then(bZ r.1&&aS r.2)else true)=true∧k (shift rows.length r.1) (rows++ae rows.length r.2):=by
 unfold aJ inD
 cases aN ds with
 |true=>simp
 |false=>
  simp
  cases hA:A ds []<;>simp[bd,hA]
theorem lQ(np jt ac ds):aR C np jt ac ds rows k=(ds.length=np∧aw C ac (Jo jt k) (aa 0 ds) rows):=Eq.trans rfl rfl
theorem in_d(ds):inD rows ds=bif aN ds then cW (view rows 9) ds else some ds:=Eq.trans rfl rfl
theorem hl_n:aN []=false:=Eq.trans rfl rfl
theorem hl_c(d l):aN (d::l)=(aQ d||aN l):=Eq.trans rfl rfl
theorem hr_raw(v):aQ (.raw v)=false:=Eq.trans rfl rfl
theorem hr_ptr(s r p):aQ (.ptr s r p)=true:=Eq.trans rfl rfl
theorem hr_sl(s r p o n e):aQ (.sl s r p o n e)=true:=Eq.trans rfl rfl
theorem hr_aptr(n s r p o):aQ (.lF n s r p o)=true:=Eq.trans rfl rfl
theorem hr_lst(s l e):aQ (.cF s l e)=bif s.pure then false else aN l:=Eq.trans rfl rfl
theorem hr_cptr(d):aQ (.b5 d)=aQ d:=Eq.trans rfl rfl
theorem hr_mp(r):aQ (.mp r)=true:=Eq.trans rfl rfl
theorem hr_om(s l):aQ (.om s l)=false:=Eq.trans rfl rfl
theorem hr_agg(s l):aQ (.agg s l)=bif s.pure then false else aN l:=Eq.trans rfl rfl
theorem hr_tup(l):aQ (.cA l)=aN l:=Eq.trans rfl rfl
theorem pu_leaf(c):Sh.pure (.leaf c)=true:=Eq.trans rfl rfl
theorem pu_ref:Sh.pure .ref=false:=Eq.trans rfl rfl
theorem pu_nil:Sh.pure .nil=true:=Eq.trans rfl rfl
theorem pu_cons(a b):Sh.pure (.cons a b)=(a.pure&&b.pure):=Eq.trans rfl rfl
theorem pu_ar(n a):Sh.pure (.ar n a)=a.pure:=Eq.trans rfl rfl
theorem mo_n{α β:Type}(f):cW f ([]:List α)=some ([]:List β):=Eq.trans rfl rfl
theorem mo_c{α β:Type}(f:α→Option β)(x l):cW f (x::l)=(f x).bind fun y=>(cW f l).map fun ys=>y::ys:=by
 simp only[cW]
 cases f x with
 |none=>rfl
 |some y=>cases cW f l<;>rfl
theorem vw_raw(m v):view rows (m+1) (.raw v)=some (.raw v):=Eq.trans rfl rfl
theorem vw_om(m s l):view rows (m+1) (.om s l)=some (.om s l):=Eq.trans rfl rfl
theorem vw_mp(m r):view rows (m+1) (.mp r)=(live rows r).map fun row=> .om row.sh row.els:=by simp only[view];cases live rows r<;>rfl
theorem vw_lst(m s l e):view rows (m+1) (.cF s l e)=bif s.pure then some (.cF s l e)else(cW (view rows m) l).map fun l'=> .cF s l' e:=by
 simp only[view]
 cases s.pure with
 |true=>rfl
 |false=>cases cW (view rows m) l<;>rfl
theorem WC(m s l):view rows (m+1) (.agg s l)=bif s.pure then some (.agg s l)else(cW (view rows m) l).map fun l'=> .agg s l':=by
 simp only[view]
 cases s.pure with
 |true=>rfl
 |false=>cases cW (view rows m) l<;>rfl
theorem WD(m s r p):view rows (m+1) (.ptr s r p)=(live rows r).bind fun row=>(cP row.els p).bind fun d=>bif s.pure then some (.b5 d)else(view rows m d).map .b5:=by
 simp only[view]
 cases live rows r with
 |none=>rfl
 | some row =>
  simp only[Option.bind_some]
  cases cP row.els p with
  |none=>rfl
  |some d=>
   simp only[Option.bind_some]
   cases s.pure with
   |true=>rfl
   |false=>cases view rows m d<;>rfl
theorem vw_sl(m s r p o n e):view rows (m+1) (.sl s r p o n e)=(elems rows (.sl s r p o n e)).bind fun l=>bif !(l.length==n)then none else bif s.pure then some (.cF s l e)else(cW (view rows m) l).map fun l'=> .cF s l' e:=by
 simp only[view]
 cases elems rows (.sl s r p o n e)with
 |none=>rfl
 | some l =>
  simp only[Option.bind_some]
  cases(l.length==n)with
  |false=>rfl
  |true=>
   cases s.pure with
   |true=>rfl
   |false=>cases cW (view rows m) l<;>rfl
theorem sf_raw(m v):shift m (.raw v)= .raw v:=Eq.trans rfl rfl
theorem sf_mp(m r):shift m (.mp r)= .mp (r+m):=Eq.trans rfl rfl
theorem sf_om(m s l):shift m (.om s l)= .om s l:=Eq.trans rfl rfl
theorem sf_ptr(m s r p):shift m (.ptr s r p)= .ptr s (r+m) p:=Eq.trans rfl rfl
theorem sf_sl(m s r p o n e):shift m (.sl s r p o n e)= .sl s (r+m) p o n e:=Eq.trans rfl rfl
theorem sf_lst(m s l e):shift m (.cF s l e)=bif s.pure then .cF s l e else .cF s (bh m l) e:=Eq.trans rfl rfl
theorem sf_cptr(m d):shift m (.b5 d)= .b5 (shift m d):=Eq.trans rfl rfl
theorem sf_agg(m s l):shift m (.agg s l)=bif s.pure then .agg s l else .agg s (bh m l):=Eq.trans rfl rfl
theorem sf_tup(m l):shift m (.cA l)= .cA (bh m l):=Eq.trans rfl rfl
theorem sL_n(m):bh m []=[]:=Eq.trans rfl rfl
theorem sL_c(m d l):bh m (d::l)=shift m d::bh m l:=Eq.trans rfl rfl
theorem sr_n(m):ae m []=[]:=Eq.trans rfl rfl
theorem sr_s(m s els l):ae m (some ⟨s,els⟩::l)=some ⟨s,bif s.pure then els else bh m els⟩::ae m l:=Eq.trans rfl rfl
theorem sr_o(m l):ae m (none::l)=none::ae m l:=Eq.trans rfl rfl
theorem nl_raw(v):bZ (.raw v)=true:=Eq.trans rfl rfl
theorem nl_mp(r):bZ (.mp r)=true:=Eq.trans rfl rfl
theorem nl_ptr(s r p):bZ (.ptr s r p)=true:=Eq.trans rfl rfl
theorem nl_sl(s r p o n e):bZ (.sl s r p o n e)=true:=Eq.trans rfl rfl
theorem nl_agg(s l):bZ (.agg s l)=bif s.pure then true else fI l:=Eq.trans rfl rfl
theorem nl_tup(l):bZ (.cA l)=fI l:=Eq.trans rfl rfl
theorem nL_n:fI []=true:=Eq.trans rfl rfl
theorem nL_c(d l):fI (d::l)=(bZ d&&fI l):=Eq.trans rfl rfl
theorem nr_n:aS []=true:=Eq.trans rfl rfl
theorem nr_s(s els l):aS (some ⟨s,els⟩::l)=(s.pure&&aS l):=Eq.trans rfl rfl
theorem nr_o(l):aS (none::l)=aS l:=Eq.trans rfl rfl
end eqs
theorem fX{C:be}{a:aB}{Q:fa→Env→Rows→Prop}{env:Env}{rows:Rows}(n:Nat)(h:jd (aw C a) Q n env rows):H0 C a Q env rows:=⟨n,h⟩
def kLp(C:be)(a:aB)(Q:fa→Env→Rows→Prop)(n:Nat):fa→Env→Rows→Prop:=fun e env rows=>match e with
 | .normal=>jd (aw C a) Q n env rows
 |e=>Q e env rows
theorem lp_s(C:be)(a:aB)(Q:fa→Env→Rows→Prop)(n:Nat)(env:Env)(rows:Rows):jd (aw C a) Q (n+1) env rows=aw C a (kLp C a Q n) env rows:=Eq.trans rfl rfl
theorem lp_n(C:be)(a:aB)(Q:fa→Env→Rows→Prop)(n:Nat)(env:Env)(rows:Rows):kLp C a Q n .normal env rows=jd (aw C a) Q n env rows:=Eq.trans rfl rfl
theorem lp_r(C:be)(a:aB)(Q:fa→Env→Rows→Prop)(n:Nat)(env:Env)(rows:Rows):kLp C a Q n .ret env rows=Q .ret env rows:=Eq.trans rfl rfl
theorem lp_e(C:be)(a:aB)(Q:fa→Env→Rows→Prop)(n i:Nat)(env:Env)(rows:Rows):kLp C a Q n (.exit i) env rows=Q (.exit i) env rows:=Eq.trans rfl rfl
theorem asI_it(n:Int):U6 (.raw (it n))=some n:=Eq.trans rfl rfl
theorem asI_u8(x:BitVec 8):U6 (.raw (u8 x))=some (x.toNat:Int):=Eq.trans rfl rfl
theorem isSc_u8(x:BitVec 8):mE (u8 x) (.int .u8)=true:=Eq.trans rfl rfl
theorem one_u8(x:BitVec 8):(u8 x).oneCell'=true:=Eq.trans rfl rfl
theorem asI_u32(x:BitVec 32):U6 (.raw (u32 x))=some (x.toNat:Int):=Eq.trans rfl rfl
theorem WE(x:BitVec 32):mE (u32 x) (.int .u32)=true:=Eq.trans rfl rfl
theorem one_u32(x:BitVec 32):(u32 x).oneCell'=true:=Eq.trans rfl rfl
theorem asI_u64(x:BitVec 64):U6 (.raw (u64 x))=some (x.toNat:Int):=Eq.trans rfl rfl
theorem WG(x:BitVec 64):mE (u64 x) (.int .u64)=true:=Eq.trans rfl rfl
theorem one_u64(x:BitVec 64):(u64 x).oneCell'=true:=Eq.trans rfl rfl
theorem isSc_it(n:Int):mE (it n) (.int .i64)=true:=Eq.trans rfl rfl
theorem one_it(n:Int):(it n).oneCell'=true:=Eq.trans rfl rfl
theorem isSc_b(b:Bool):mE (.bool b) .bool=true:=Eq.trans rfl rfl
theorem isSc_s(b:ByteArray):mE (.string b) .str=true:=Eq.trans rfl rfl
theorem WH(v:Value)(k:Sc):D.fits (.raw v) (.leaf k)=mE v k:=Eq.trans rfl rfl
theorem WI(s:Sh)(l:List D)(t:Sh):D.fits (.agg s l) t=(s==t):=by cases t<;>rfl
theorem sh_beq(s:Sh):(s==s)=true:=by simp
theorem WJ(s l e):D.fits (.cF s l e) .ref=true:=Eq.trans rfl rfl
theorem fits_sl(s r p o n e):D.fits (.sl s r p o n e) .ref=true:=Eq.trans rfl rfl
theorem WK(s r p):D.fits (.ptr s r p) .ref=true:=Eq.trans rfl rfl
theorem fits_mp(r):D.fits (.mp r) .ref=true:=Eq.trans rfl rfl
theorem fits_om(s l):D.fits (.om s l) .ref=true:=Eq.trans rfl rfl
theorem SP(d):D.fits (.b5 d) .ref=true:=Eq.trans rfl rfl
theorem SQ:D.fits (.raw (.slice none 0 0)) .ref=true:=Eq.trans rfl rfl
theorem cv_8_8(x:BitVec 8):yg .u8 (.raw (u8 x))=some (u8 (x.setWidth 8)):=by simp only[yg,u8,u8,IntKind.wrap,IntKind.signed,IntKind.bits];have:=x.isLt;simp;try omega
theorem cv_8_32(x:BitVec 8):yg .u32 (.raw (u8 x))=some (u32 (x.setWidth 32)):=by simp only[yg,u8,u32,IntKind.wrap,IntKind.signed,IntKind.bits];have:=x.isLt;simp;try omega
theorem cv_8_64(x:BitVec 8):yg .u64 (.raw (u8 x))=some (u64 (x.setWidth 64)):=by simp only[yg,u8,u64,IntKind.wrap,IntKind.signed,IntKind.bits];have:=x.isLt;simp;try omega
theorem cv_8_it(x:BitVec 8):yg .i64 (.raw (u8 x))=some (it x.toNat):=by simp only[yg,u8,it,IntKind.wrap,IntKind.signed,IntKind.bits];have:=x.isLt;simp;try omega
theorem cv_it_8(n:Int):yg .u8 (.raw (it n))=some (u8 (BitVec.ofInt 8 n)):=by simp only[yg,u8,it,IntKind.wrap,IntKind.signed,IntKind.bits];simp[BitVec.toNat_ofInt];try omega
theorem cv_32_8(x:BitVec 32):yg .u8 (.raw (u32 x))=some (u8 (x.setWidth 8)):=by simp only[yg,u32,u8,IntKind.wrap,IntKind.signed,IntKind.bits];have:=x.isLt;simp
theorem WL(x:BitVec 32):yg .u32 (.raw (u32 x))=some (u32 (x.setWidth 32)):=by simp only[yg,u32,u32,IntKind.wrap,IntKind.signed,IntKind.bits];have:=x.isLt;simp;try omega
theorem WM(x:BitVec 32):yg .u64 (.raw (u32 x))=some (u64 (x.setWidth 64)):=by simp only[yg,u32,u64,IntKind.wrap,IntKind.signed,IntKind.bits];have:=x.isLt;simp;try omega
theorem WN(x:BitVec 32):yg .i64 (.raw (u32 x))=some (it x.toNat):=by simp only[yg,u32,it,IntKind.wrap,IntKind.signed,IntKind.bits];have:=x.isLt;simp;try omega
theorem WO(n:Int):yg .u32 (.raw (it n))=some (u32 (BitVec.ofInt 32 n)):=by simp only[yg,u32,it,IntKind.wrap,IntKind.signed,IntKind.bits];simp[BitVec.toNat_ofInt];try omega
theorem cv_64_8(x:BitVec 64):yg .u8 (.raw (u64 x))=some (u8 (x.setWidth 8)):=by simp only[yg,u64,u8,IntKind.wrap,IntKind.signed,IntKind.bits];have:=x.isLt;simp
theorem WQ(x:BitVec 64):yg .u32 (.raw (u64 x))=some (u32 (x.setWidth 32)):=by simp only[yg,u64,u32,IntKind.wrap,IntKind.signed,IntKind.bits];have:=x.isLt;simp
theorem WR(x:BitVec 64):yg .u64 (.raw (u64 x))=some (u64 (x.setWidth 64)):=by simp only[yg,u64,u64,IntKind.wrap,IntKind.signed,IntKind.bits];have:=x.isLt;simp;try omega
theorem WS(x:BitVec 64):yg .i64 (.raw (u64 x))=some (it (wz x.toNat)):=Eq.trans rfl rfl
theorem WT(n:Int):yg .u64 (.raw (it n))=some (u64 (BitVec.ofInt 64 n)):=by simp only[yg,u64,it,IntKind.wrap,IntKind.signed,IntKind.bits];simp[BitVec.toNat_ofInt];try omega
theorem WU(n:Int):yg .i64 (.raw (it n))=some (it (wz n)):=Eq.trans rfl rfl
section bins
variable (k:D→Prop)
theorem SR(n:Int):IntKind.u8.wrap n=n %256:=by
 unfold IntKind.wrap
 rw[if_neg (by simp[IntKind.signed])]
 rfl
theorem lt8(x:BitVec 8):(x.toNat:Int)<256:=by have:=x.isLt;omega
theorem of8(x:BitVec 8):BitVec.ofInt IntKind.u8.bits (x.toNat:Int)=x:=by rw[BitVec.ofInt_natCast];exact(BitVec.ofNat_toNat (m:=8) (x:=x)).trans (BitVec.setWidth_eq _)
theorem id8(x:BitVec 8):((x.toNat:Int)) %256=x.toNat:=Int.emod_eq_of_lt (by omega) (lt8 x)
theorem b_add8(x y:BitVec 8):bE .add (u8 x) (u8 y) k=k (.raw (u8 (x+y))):=by
 have h:((x.toNat:Int)+y.toNat) %256=((x+y).toNat:Int):=by rw[BitVec.toNat_add];omega
 show(IntKind.u8=IntKind.u8∧k (.raw (.int .u8 _)))=_
 rw[eq_self,true_and,SR,h]
 rfl
theorem b_sub8(x y:BitVec 8):bE .sub (u8 x) (u8 y) k=k (.raw (u8 (x-y))):=by
 have h:((x.toNat:Int)-y.toNat) %256=((x-y).toNat:Int):=by
  have h1:=x.isLt
  have h2:=y.isLt
  rw[BitVec.toNat_sub]
  omega
 show(IntKind.u8=IntKind.u8∧k (.raw (.int .u8 _)))=_
 rw[eq_self,true_and,SR,h]
 rfl
theorem b_mul8(x y:BitVec 8):bE .mul (u8 x) (u8 y) k=k (.raw (u8 (x*y))):=by
 have h:((x.toNat:Int)*y.toNat) %256=((x*y).toNat:Int):=by rw[BitVec.toNat_mul,Int.natCast_emod,Int.natCast_mul];rfl
 show(IntKind.u8=IntKind.u8∧k (.raw (.int .u8 _)))=_
 rw[eq_self,true_and,SR,h]
 rfl
theorem b_and8(x y:BitVec 8):bE .and (u8 x) (u8 y) k=k (.raw (u8 (x&&&y))):=by
 have h:((BitVec.ofInt IntKind.u8.bits (x.toNat:Int)&&&BitVec.ofInt IntKind.u8.bits (y.toNat:Int)).toNat:Int) %256=((x&&&y).toNat:Int):=by rw[of8,of8];exact id8 _
 show(IntKind.u8=IntKind.u8∧k (.raw (.int .u8 _)))=_
 rw[eq_self,true_and,SR,h]
 rfl
theorem b_or8(x y:BitVec 8):bE .or (u8 x) (u8 y) k=k (.raw (u8 (x|||y))):=by
 have h:((BitVec.ofInt IntKind.u8.bits (x.toNat:Int)|||BitVec.ofInt IntKind.u8.bits (y.toNat:Int)).toNat:Int) %256=((x|||y).toNat:Int):=by rw[of8,of8];exact id8 _
 show(IntKind.u8=IntKind.u8∧k (.raw (.int .u8 _)))=_
 rw[eq_self,true_and,SR,h]
 rfl
theorem b_xor8(x y:BitVec 8):bE .xor (u8 x) (u8 y) k=k (.raw (u8 (x^^^y))):=by
 have h:((BitVec.ofInt IntKind.u8.bits (x.toNat:Int)^^^BitVec.ofInt IntKind.u8.bits (y.toNat:Int)).toNat:Int) %256=((x^^^y).toNat:Int):=by rw[of8,of8];exact id8 _
 show(IntKind.u8=IntKind.u8∧k (.raw (.int .u8 _)))=_
 rw[eq_self,true_and,SR,h]
 rfl
theorem SS(x y:BitVec 8):bE .andNot (u8 x) (u8 y) k=k (.raw (u8 (x&&&~~~y))):=by
 have h:((BitVec.ofInt IntKind.u8.bits (x.toNat:Int)&&&~~~BitVec.ofInt IntKind.u8.bits (y.toNat:Int)).toNat:Int) %256=((x&&&~~~y).toNat:Int):=by rw[of8,of8];exact id8 _
 show(IntKind.u8=IntKind.u8∧k (.raw (.int .u8 _)))=_
 rw[eq_self,true_and,SR,h]
 rfl
theorem b_quo8(x y:BitVec 8):bE .quo (u8 x) (u8 y) k=(y≠0∧k (.raw (u8 (x/y)))):=by
 have h0:((y.toNat:Int)≠0)=(y≠0):=propext ⟨fun h h2=>h (by rw[h2];rfl),fun h h2=>h (BitVec.eq_of_toNat_eq (by simp;omega))⟩
 have h:((x.toNat:Int).tdiv y.toNat) %256=((x/y).toNat:Int):=by
  rw[BitVec.toNat_udiv,Int.tdiv_eq_ediv_of_nonneg (by omega),←Int.natCast_ediv,←BitVec.toNat_udiv]
  exact id8 _
 show(IntKind.u8=IntKind.u8∧(y.toNat:Int)≠0∧k (.raw (.int .u8 _)))=_
 rw[eq_self,true_and,SR,h,h0]
 rfl
theorem b_rem8(x y:BitVec 8):bE .rem (u8 x) (u8 y) k=(y≠0∧k (.raw (u8 (x %y)))):=by
 have h0:((y.toNat:Int)≠0)=(y≠0):=propext ⟨fun h h2=>h (by rw[h2];rfl),fun h h2=>h (BitVec.eq_of_toNat_eq (by simp;omega))⟩
 have h:((x.toNat:Int).tmod y.toNat)=((x %y).toNat:Int):=by
  rw[BitVec.toNat_umod,Int.tmod_eq_emod_of_nonneg (by omega),←Int.natCast_emod]
 show(IntKind.u8=IntKind.u8∧(y.toNat:Int)≠0∧k (.raw (.int .u8 _)))=_
 rw[eq_self,true_and,h,h0]
 rfl
theorem b_eql8(x y:BitVec 8):bE .eql (u8 x) (u8 y) k=k (.raw (.bool (decide (x=y)))):=by
 have h:decide ((x.toNat:Int)=y.toNat)=decide (x=y):=by
  apply decide_eq_decide.2
  exact⟨fun h=>BitVec.eq_of_toNat_eq (by omega),fun h=>by rw[h]⟩
 show(IntKind.u8=IntKind.u8∧k (.raw (.bool (decide ((x.toNat:Int)=y.toNat)))))=_
 rw[eq_self,true_and,h]
theorem b_neq8(x y:BitVec 8):bE .neq (u8 x) (u8 y) k=k (.raw (.bool (!decide (x=y)))):=by
 have h:decide ((x.toNat:Int)=y.toNat)=decide (x=y):=by
  apply decide_eq_decide.2
  exact⟨fun h=>BitVec.eq_of_toNat_eq (by omega),fun h=>by rw[h]⟩
 show(IntKind.u8=IntKind.u8∧k (.raw (.bool (!decide ((x.toNat:Int)=y.toNat)))))=_
 rw[eq_self,true_and,h]
theorem b_lss8(x y:BitVec 8):bE .lss (u8 x) (u8 y) k=k (.raw (.bool (decide (x<y)))):=by
 have h:decide ((x.toNat:Int)<y.toNat)=decide (x<y):=by
  apply decide_eq_decide.2
  exact by rw[BitVec.lt_def];omega
 show(IntKind.u8=IntKind.u8∧k (.raw (.bool (decide ((x.toNat:Int)<y.toNat)))))=_
 rw[eq_self,true_and,h]
theorem b_leq8(x y:BitVec 8):bE .leq (u8 x) (u8 y) k=k (.raw (.bool (decide (x≤y)))):=by
 have h:decide ((x.toNat:Int)≤y.toNat)=decide (x≤y):=by
  apply decide_eq_decide.2
  exact by rw[BitVec.le_def];omega
 show(IntKind.u8=IntKind.u8∧k (.raw (.bool (decide ((x.toNat:Int)≤y.toNat)))))=_
 rw[eq_self,true_and,h]
theorem b_gtr8(x y:BitVec 8):bE .gtr (u8 x) (u8 y) k=k (.raw (.bool (decide (y<x)))):=by
 have h:decide ((y.toNat:Int)<x.toNat)=decide (y<x):=by
  apply decide_eq_decide.2
  exact by rw[BitVec.lt_def];omega
 show(IntKind.u8=IntKind.u8∧k (.raw (.bool (decide ((y.toNat:Int)<x.toNat)))))=_
 rw[eq_self,true_and,h]
theorem b_geq8(x y:BitVec 8):bE .geq (u8 x) (u8 y) k=k (.raw (.bool (decide (y≤x)))):=by
 have h:decide ((y.toNat:Int)≤x.toNat)=decide (y≤x):=by
  apply decide_eq_decide.2
  exact by rw[BitVec.le_def];omega
 show(IntKind.u8=IntKind.u8∧k (.raw (.bool (decide ((y.toNat:Int)≤x.toNat)))))=_
 rw[eq_self,true_and,h]
theorem wy(x:BitVec 8)(c:Nat):((x.toNat:Int)*2^(min c 8)) %256=((x<<<c).toNat:Int):=by
 rw[BitVec.toNat_shiftLeft,Nat.shiftLeft_eq]
 rcases Nat.le_total c 8 with h|h
 ·rw[Nat.min_eq_left h,Int.natCast_emod,Int.natCast_mul,Int.natCast_pow];rfl
 ·rw[Nat.min_eq_right h]
  have h1:2^c=2^(c-8)*2^8:=by rw[←Nat.pow_add];congr 1;omega
  rw[h1,←Nat.mul_assoc,Nat.mul_mod_left]
  exact Int.mul_emod_left _ _
theorem wA(x:BitVec 8)(c:Nat):(x.toNat:Int).fdiv (2^(min c 8))=((x>>>c).toNat:Int):=by
 rw[BitVec.toNat_ushiftRight,Nat.shiftRight_eq_div_pow]
 have hp:((2:Int)^(min c 8))=((2^(min c 8):Nat):Int):=by norm_cast
 rw[hp,Int.fdiv_eq_ediv_of_nonneg _ (Int.natCast_nonneg _),←Int.natCast_ediv]
 congr 1
 rcases Nat.le_total c 8 with h|h
 ·rw[Nat.min_eq_left h]
 ·rw[Nat.min_eq_right h]
  have h0:=x.isLt
  rw[Nat.div_eq_of_lt h0,Nat.div_eq_of_lt (Nat.lt_of_lt_of_le h0 (Nat.pow_le_pow_right (by omega) h))]
theorem SU(x:BitVec 8)(n:Int):bE .shl (u8 x) (it n) k=(0≤n∧k (.raw (u8 (x<<<n.toNat)))):=by
 show(0≤n∧k (.raw (.int .u8 (IntKind.u8.wrap ((x.toNat:Int)*2^(min n.toNat 8))))))=_
 rw[SR,wy]
 rfl
theorem SV(x:BitVec 8)(n:Int):bE .shr (u8 x) (it n) k=(0≤n∧k (.raw (u8 (x>>>n.toNat)))):=by
 show(0≤n∧k (.raw (.int .u8 ((x.toNat:Int).fdiv (2^(min n.toNat 8))))))=_
 rw[wA]
 rfl
theorem WV(x:BitVec 8)(n:BitVec 8):bE .shl (u8 x) (u8 n) k=k (.raw (u8 (x<<<n.toNat))):=by
 show(0≤(n.toNat:Int)∧k (.raw (.int .u8 (IntKind.u8.wrap ((x.toNat:Int)*2^(min (n.toNat:Int).toNat 8))))))=_
 rw[SR,Int.toNat_natCast,wy,eq_true (by omega:0≤(n.toNat:Int)),true_and]
 rfl
theorem WW(x:BitVec 8)(n:BitVec 8):bE .shr (u8 x) (u8 n) k=k (.raw (u8 (x>>>n.toNat))):=by
 show(0≤(n.toNat:Int)∧k (.raw (.int .u8 ((x.toNat:Int).fdiv (2^(min (n.toNat:Int).toNat 8))))))=_
 rw[Int.toNat_natCast,wA,eq_true (by omega:0≤(n.toNat:Int)),true_and]
 rfl
theorem SW(x:BitVec 8)(n:BitVec 32):bE .shl (u8 x) (u32 n) k=k (.raw (u8 (x<<<n.toNat))):=by
 show(0≤(n.toNat:Int)∧k (.raw (.int .u8 (IntKind.u8.wrap ((x.toNat:Int)*2^(min (n.toNat:Int).toNat 8))))))=_
 rw[SR,Int.toNat_natCast,wy,eq_true (by omega:0≤(n.toNat:Int)),true_and]
 rfl
theorem SX(x:BitVec 8)(n:BitVec 32):bE .shr (u8 x) (u32 n) k=k (.raw (u8 (x>>>n.toNat))):=by
 show(0≤(n.toNat:Int)∧k (.raw (.int .u8 ((x.toNat:Int).fdiv (2^(min (n.toNat:Int).toNat 8))))))=_
 rw[Int.toNat_natCast,wA,eq_true (by omega:0≤(n.toNat:Int)),true_and]
 rfl
theorem SY(x:BitVec 8)(n:BitVec 64):bE .shl (u8 x) (u64 n) k=k (.raw (u8 (x<<<n.toNat))):=by
 show(0≤(n.toNat:Int)∧k (.raw (.int .u8 (IntKind.u8.wrap ((x.toNat:Int)*2^(min (n.toNat:Int).toNat 8))))))=_
 rw[SR,Int.toNat_natCast,wy,eq_true (by omega:0≤(n.toNat:Int)),true_and]
 rfl
theorem SZ(x:BitVec 8)(n:BitVec 64):bE .shr (u8 x) (u64 n) k=k (.raw (u8 (x>>>n.toNat))):=by
 show(0≤(n.toNat:Int)∧k (.raw (.int .u8 ((x.toNat:Int).fdiv (2^(min (n.toNat:Int).toNat 8))))))=_
 rw[Int.toNat_natCast,wA,eq_true (by omega:0≤(n.toNat:Int)),true_and]
 rfl
theorem u_not8(x:BitVec 8):Vl .xor (u8 x) k=k (.raw (u8 (~~~x))):=by
 show k (.raw (.int .u8 (IntKind.u8.wrap (BitVec.ofInt IntKind.u8.bits (if IntKind.u8.signed then-1 else IntKind.u8.max)^^^BitVec.ofInt IntKind.u8.bits (x.toNat:Int)).toNat)))=_
 have h:BitVec.ofInt IntKind.u8.bits (if IntKind.u8.signed then-1 else IntKind.u8.max)=BitVec.allOnes 8:=by kernel_rfl
 rw[h,of8,SR]
 have h2:(BitVec.allOnes 8^^^x)= ~~~x:=BitVec.allOnes_xor
 show k (.raw (.int .u8 (((BitVec.allOnes 8^^^x).toNat:Int) %256)))=_
 rw[h2,id8]
 rfl
theorem zo(n:Int):IntKind.u32.wrap n=n %4294967296:=by
 unfold IntKind.wrap
 rw[if_neg (by simp[IntKind.signed])]
 rfl
theorem lt32(x:BitVec 32):(x.toNat:Int)<4294967296:=by have:=x.isLt;omega
theorem Jp(x:BitVec 32):BitVec.ofInt IntKind.u32.bits (x.toNat:Int)=x:=by rw[BitVec.ofInt_natCast];exact(BitVec.ofNat_toNat (m:=32) (x:=x)).trans (BitVec.setWidth_eq _)
theorem id32(x:BitVec 32):((x.toNat:Int)) %4294967296=x.toNat:=Int.emod_eq_of_lt (by omega) (lt32 x)
theorem b_add32(x y:BitVec 32):bE .add (u32 x) (u32 y) k=k (.raw (u32 (x+y))):=by
 have h:((x.toNat:Int)+y.toNat) %4294967296=((x+y).toNat:Int):=by rw[BitVec.toNat_add];omega
 show(IntKind.u32=IntKind.u32∧k (.raw (.int .u32 _)))=_
 rw[eq_self,true_and,zo,h]
 rfl
theorem b_sub32(x y:BitVec 32):bE .sub (u32 x) (u32 y) k=k (.raw (u32 (x-y))):=by
 have h:((x.toNat:Int)-y.toNat) %4294967296=((x-y).toNat:Int):=by
  have h1:=x.isLt
  have h2:=y.isLt
  rw[BitVec.toNat_sub]
  omega
 show(IntKind.u32=IntKind.u32∧k (.raw (.int .u32 _)))=_
 rw[eq_self,true_and,zo,h]
 rfl
theorem b_mul32(x y:BitVec 32):bE .mul (u32 x) (u32 y) k=k (.raw (u32 (x*y))):=by
 have h:((x.toNat:Int)*y.toNat) %4294967296=((x*y).toNat:Int):=by rw[BitVec.toNat_mul,Int.natCast_emod,Int.natCast_mul];rfl
 show(IntKind.u32=IntKind.u32∧k (.raw (.int .u32 _)))=_
 rw[eq_self,true_and,zo,h]
 rfl
theorem b_and32(x y:BitVec 32):bE .and (u32 x) (u32 y) k=k (.raw (u32 (x&&&y))):=by
 have h:((BitVec.ofInt IntKind.u32.bits (x.toNat:Int)&&&BitVec.ofInt IntKind.u32.bits (y.toNat:Int)).toNat:Int) %4294967296=((x&&&y).toNat:Int):=by rw[Jp,Jp];exact id32 _
 show(IntKind.u32=IntKind.u32∧k (.raw (.int .u32 _)))=_
 rw[eq_self,true_and,zo,h]
 rfl
theorem b_or32(x y:BitVec 32):bE .or (u32 x) (u32 y) k=k (.raw (u32 (x|||y))):=by
 have h:((BitVec.ofInt IntKind.u32.bits (x.toNat:Int)|||BitVec.ofInt IntKind.u32.bits (y.toNat:Int)).toNat:Int) %4294967296=((x|||y).toNat:Int):=by rw[Jp,Jp];exact id32 _
 show(IntKind.u32=IntKind.u32∧k (.raw (.int .u32 _)))=_
 rw[eq_self,true_and,zo,h]
 rfl
theorem b_xor32(x y:BitVec 32):bE .xor (u32 x) (u32 y) k=k (.raw (u32 (x^^^y))):=by
 have h:((BitVec.ofInt IntKind.u32.bits (x.toNat:Int)^^^BitVec.ofInt IntKind.u32.bits (y.toNat:Int)).toNat:Int) %4294967296=((x^^^y).toNat:Int):=by rw[Jp,Jp];exact id32 _
 show(IntKind.u32=IntKind.u32∧k (.raw (.int .u32 _)))=_
 rw[eq_self,true_and,zo,h]
 rfl
theorem Oc(x y:BitVec 32):bE .andNot (u32 x) (u32 y) k=k (.raw (u32 (x&&&~~~y))):=by
 have h:((BitVec.ofInt IntKind.u32.bits (x.toNat:Int)&&&~~~BitVec.ofInt IntKind.u32.bits (y.toNat:Int)).toNat:Int) %4294967296=((x&&&~~~y).toNat:Int):=by rw[Jp,Jp];exact id32 _
 show(IntKind.u32=IntKind.u32∧k (.raw (.int .u32 _)))=_
 rw[eq_self,true_and,zo,h]
 rfl
theorem b_quo32(x y:BitVec 32):bE .quo (u32 x) (u32 y) k=(y≠0∧k (.raw (u32 (x/y)))):=by
 have h0:((y.toNat:Int)≠0)=(y≠0):=propext ⟨fun h h2=>h (by rw[h2];rfl),fun h h2=>h (BitVec.eq_of_toNat_eq (by simp;omega))⟩
 have h:((x.toNat:Int).tdiv y.toNat) %4294967296=((x/y).toNat:Int):=by
  rw[BitVec.toNat_udiv,Int.tdiv_eq_ediv_of_nonneg (by omega),←Int.natCast_ediv,←BitVec.toNat_udiv]
  exact id32 _
 show(IntKind.u32=IntKind.u32∧(y.toNat:Int)≠0∧k (.raw (.int .u32 _)))=_
 rw[eq_self,true_and,zo,h,h0]
 rfl
theorem b_rem32(x y:BitVec 32):bE .rem (u32 x) (u32 y) k=(y≠0∧k (.raw (u32 (x %y)))):=by
 have h0:((y.toNat:Int)≠0)=(y≠0):=propext ⟨fun h h2=>h (by rw[h2];rfl),fun h h2=>h (BitVec.eq_of_toNat_eq (by simp;omega))⟩
 have h:((x.toNat:Int).tmod y.toNat)=((x %y).toNat:Int):=by
  rw[BitVec.toNat_umod,Int.tmod_eq_emod_of_nonneg (by omega),←Int.natCast_emod]
 show(IntKind.u32=IntKind.u32∧(y.toNat:Int)≠0∧k (.raw (.int .u32 _)))=_
 rw[eq_self,true_and,h,h0]
 rfl
theorem b_eql32(x y:BitVec 32):bE .eql (u32 x) (u32 y) k=k (.raw (.bool (decide (x=y)))):=by
 have h:decide ((x.toNat:Int)=y.toNat)=decide (x=y):=by
  apply decide_eq_decide.2
  exact⟨fun h=>BitVec.eq_of_toNat_eq (by omega),fun h=>by rw[h]⟩
 show(IntKind.u32=IntKind.u32∧k (.raw (.bool (decide ((x.toNat:Int)=y.toNat)))))=_
 rw[eq_self,true_and,h]
theorem b_neq32(x y:BitVec 32):bE .neq (u32 x) (u32 y) k=k (.raw (.bool (!decide (x=y)))):=by
 have h:decide ((x.toNat:Int)=y.toNat)=decide (x=y):=by
  apply decide_eq_decide.2
  exact⟨fun h=>BitVec.eq_of_toNat_eq (by omega),fun h=>by rw[h]⟩
 show(IntKind.u32=IntKind.u32∧k (.raw (.bool (!decide ((x.toNat:Int)=y.toNat)))))=_
 rw[eq_self,true_and,h]
theorem b_lss32(x y:BitVec 32):bE .lss (u32 x) (u32 y) k=k (.raw (.bool (decide (x<y)))):=by
 have h:decide ((x.toNat:Int)<y.toNat)=decide (x<y):=by
  apply decide_eq_decide.2
  exact by rw[BitVec.lt_def];omega
 show(IntKind.u32=IntKind.u32∧k (.raw (.bool (decide ((x.toNat:Int)<y.toNat)))))=_
 rw[eq_self,true_and,h]
theorem b_leq32(x y:BitVec 32):bE .leq (u32 x) (u32 y) k=k (.raw (.bool (decide (x≤y)))):=by
 have h:decide ((x.toNat:Int)≤y.toNat)=decide (x≤y):=by
  apply decide_eq_decide.2
  exact by rw[BitVec.le_def];omega
 show(IntKind.u32=IntKind.u32∧k (.raw (.bool (decide ((x.toNat:Int)≤y.toNat)))))=_
 rw[eq_self,true_and,h]
theorem b_gtr32(x y:BitVec 32):bE .gtr (u32 x) (u32 y) k=k (.raw (.bool (decide (y<x)))):=by
 have h:decide ((y.toNat:Int)<x.toNat)=decide (y<x):=by
  apply decide_eq_decide.2
  exact by rw[BitVec.lt_def];omega
 show(IntKind.u32=IntKind.u32∧k (.raw (.bool (decide ((y.toNat:Int)<x.toNat)))))=_
 rw[eq_self,true_and,h]
theorem b_geq32(x y:BitVec 32):bE .geq (u32 x) (u32 y) k=k (.raw (.bool (decide (y≤x)))):=by
 have h:decide ((y.toNat:Int)≤x.toNat)=decide (y≤x):=by
  apply decide_eq_decide.2
  exact by rw[BitVec.le_def];omega
 show(IntKind.u32=IntKind.u32∧k (.raw (.bool (decide ((y.toNat:Int)≤x.toNat)))))=_
 rw[eq_self,true_and,h]
theorem s3(x:BitVec 32)(c:Nat):((x.toNat:Int)*2^(min c 32)) %4294967296=((x<<<c).toNat:Int):=by
 rw[BitVec.toNat_shiftLeft,Nat.shiftLeft_eq]
 rcases Nat.le_total c 32 with h|h
 ·rw[Nat.min_eq_left h,Int.natCast_emod,Int.natCast_mul,Int.natCast_pow];rfl
 ·rw[Nat.min_eq_right h]
  have h1:2^c=2^(c-32)*2^32:=by rw[←Nat.pow_add];congr 1;omega
  rw[h1,←Nat.mul_assoc,Nat.mul_mod_left]
  exact Int.mul_emod_left _ _
theorem s5(x:BitVec 32)(c:Nat):(x.toNat:Int).fdiv (2^(min c 32))=((x>>>c).toNat:Int):=by
 rw[BitVec.toNat_ushiftRight,Nat.shiftRight_eq_div_pow]
 have hp:((2:Int)^(min c 32))=((2^(min c 32):Nat):Int):=by norm_cast
 rw[hp,Int.fdiv_eq_ediv_of_nonneg _ (Int.natCast_nonneg _),←Int.natCast_ediv]
 congr 1
 rcases Nat.le_total c 32 with h|h
 ·rw[Nat.min_eq_left h]
 ·rw[Nat.min_eq_right h]
  have h0:=x.isLt
  rw[Nat.div_eq_of_lt h0,Nat.div_eq_of_lt (Nat.lt_of_lt_of_le h0 (Nat.pow_le_pow_right (by omega) h))]
theorem Od(x:BitVec 32)(n:Int):bE .shl (u32 x) (it n) k=(0≤n∧k (.raw (u32 (x<<<n.toNat)))):=by
 show(0≤n∧k (.raw (.int .u32 (IntKind.u32.wrap ((x.toNat:Int)*2^(min n.toNat 32))))))=_
 rw[zo,s3]
 rfl
theorem Oe(x:BitVec 32)(n:Int):bE .shr (u32 x) (it n) k=(0≤n∧k (.raw (u32 (x>>>n.toNat)))):=by
 show(0≤n∧k (.raw (.int .u32 ((x.toNat:Int).fdiv (2^(min n.toNat 32))))))=_
 rw[s5]
 rfl
theorem Ta(x:BitVec 32)(n:BitVec 8):bE .shl (u32 x) (u8 n) k=k (.raw (u32 (x<<<n.toNat))):=by
 show(0≤(n.toNat:Int)∧k (.raw (.int .u32 (IntKind.u32.wrap ((x.toNat:Int)*2^(min (n.toNat:Int).toNat 32))))))=_
 rw[zo,Int.toNat_natCast,s3,eq_true (by omega:0≤(n.toNat:Int)),true_and]
 rfl
theorem Tb(x:BitVec 32)(n:BitVec 8):bE .shr (u32 x) (u8 n) k=k (.raw (u32 (x>>>n.toNat))):=by
 show(0≤(n.toNat:Int)∧k (.raw (.int .u32 ((x.toNat:Int).fdiv (2^(min (n.toNat:Int).toNat 32))))))=_
 rw[Int.toNat_natCast,s5,eq_true (by omega:0≤(n.toNat:Int)),true_and]
 rfl
theorem Of(x:BitVec 32)(n:BitVec 32):bE .shl (u32 x) (u32 n) k=k (.raw (u32 (x<<<n.toNat))):=by
 show(0≤(n.toNat:Int)∧k (.raw (.int .u32 (IntKind.u32.wrap ((x.toNat:Int)*2^(min (n.toNat:Int).toNat 32))))))=_
 rw[zo,Int.toNat_natCast,s3,eq_true (by omega:0≤(n.toNat:Int)),true_and]
 rfl
theorem Og(x:BitVec 32)(n:BitVec 32):bE .shr (u32 x) (u32 n) k=k (.raw (u32 (x>>>n.toNat))):=by
 show(0≤(n.toNat:Int)∧k (.raw (.int .u32 ((x.toNat:Int).fdiv (2^(min (n.toNat:Int).toNat 32))))))=_
 rw[Int.toNat_natCast,s5,eq_true (by omega:0≤(n.toNat:Int)),true_and]
 rfl
theorem Oh(x:BitVec 32)(n:BitVec 64):bE .shl (u32 x) (u64 n) k=k (.raw (u32 (x<<<n.toNat))):=by
 show(0≤(n.toNat:Int)∧k (.raw (.int .u32 (IntKind.u32.wrap ((x.toNat:Int)*2^(min (n.toNat:Int).toNat 32))))))=_
 rw[zo,Int.toNat_natCast,s3,eq_true (by omega:0≤(n.toNat:Int)),true_and]
 rfl
theorem Oi(x:BitVec 32)(n:BitVec 64):bE .shr (u32 x) (u64 n) k=k (.raw (u32 (x>>>n.toNat))):=by
 show(0≤(n.toNat:Int)∧k (.raw (.int .u32 ((x.toNat:Int).fdiv (2^(min (n.toNat:Int).toNat 32))))))=_
 rw[Int.toNat_natCast,s5,eq_true (by omega:0≤(n.toNat:Int)),true_and]
 rfl
theorem u_not32(x:BitVec 32):Vl .xor (u32 x) k=k (.raw (u32 (~~~x))):=by
 show k (.raw (.int .u32 (IntKind.u32.wrap (BitVec.ofInt IntKind.u32.bits (if IntKind.u32.signed then-1 else IntKind.u32.max)^^^BitVec.ofInt IntKind.u32.bits (x.toNat:Int)).toNat)))=_
 have h:BitVec.ofInt IntKind.u32.bits (if IntKind.u32.signed then-1 else IntKind.u32.max)=BitVec.allOnes 32:=by kernel_rfl
 rw[h,Jp,zo]
 have h2:(BitVec.allOnes 32^^^x)= ~~~x:=BitVec.allOnes_xor
 show k (.raw (.int .u32 (((BitVec.allOnes 32^^^x).toNat:Int) %4294967296)))=_
 rw[h2,id32]
 rfl
theorem Bk(n:Int):IntKind.u64.wrap n=n %18446744073709551616:=by
 unfold IntKind.wrap
 rw[if_neg (by simp[IntKind.signed])]
 rfl
theorem lt64(x:BitVec 64):(x.toNat:Int)<18446744073709551616:=by have:=x.isLt;omega
theorem Jq(x:BitVec 64):BitVec.ofInt IntKind.u64.bits (x.toNat:Int)=x:=by rw[BitVec.ofInt_natCast];exact(BitVec.ofNat_toNat (m:=64) (x:=x)).trans (BitVec.setWidth_eq _)
theorem Tc(x:BitVec 64):((x.toNat:Int)) %18446744073709551616=x.toNat:=Int.emod_eq_of_lt (by omega) (lt64 x)
theorem b_add64(x y:BitVec 64):bE .add (u64 x) (u64 y) k=k (.raw (u64 (x+y))):=by
 have h:((x.toNat:Int)+y.toNat) %18446744073709551616=((x+y).toNat:Int):=by rw[BitVec.toNat_add];omega
 show(IntKind.u64=IntKind.u64∧k (.raw (.int .u64 _)))=_
 rw[eq_self,true_and,Bk,h]
 rfl
theorem b_sub64(x y:BitVec 64):bE .sub (u64 x) (u64 y) k=k (.raw (u64 (x-y))):=by
 have h:((x.toNat:Int)-y.toNat) %18446744073709551616=((x-y).toNat:Int):=by
  have h1:=x.isLt
  have h2:=y.isLt
  rw[BitVec.toNat_sub]
  omega
 show(IntKind.u64=IntKind.u64∧k (.raw (.int .u64 _)))=_
 rw[eq_self,true_and,Bk,h]
 rfl
theorem b_mul64(x y:BitVec 64):bE .mul (u64 x) (u64 y) k=k (.raw (u64 (x*y))):=by
 have h:((x.toNat:Int)*y.toNat) %18446744073709551616=((x*y).toNat:Int):=by rw[BitVec.toNat_mul,Int.natCast_emod,Int.natCast_mul];rfl
 show(IntKind.u64=IntKind.u64∧k (.raw (.int .u64 _)))=_
 rw[eq_self,true_and,Bk,h]
 rfl
theorem b_and64(x y:BitVec 64):bE .and (u64 x) (u64 y) k=k (.raw (u64 (x&&&y))):=by
 have h:((BitVec.ofInt IntKind.u64.bits (x.toNat:Int)&&&BitVec.ofInt IntKind.u64.bits (y.toNat:Int)).toNat:Int) %18446744073709551616=((x&&&y).toNat:Int):=by rw[Jq,Jq];exact Tc _
 show(IntKind.u64=IntKind.u64∧k (.raw (.int .u64 _)))=_
 rw[eq_self,true_and,Bk,h]
 rfl
theorem b_or64(x y:BitVec 64):bE .or (u64 x) (u64 y) k=k (.raw (u64 (x|||y))):=by
 have h:((BitVec.ofInt IntKind.u64.bits (x.toNat:Int)|||BitVec.ofInt IntKind.u64.bits (y.toNat:Int)).toNat:Int) %18446744073709551616=((x|||y).toNat:Int):=by rw[Jq,Jq];exact Tc _
 show(IntKind.u64=IntKind.u64∧k (.raw (.int .u64 _)))=_
 rw[eq_self,true_and,Bk,h]
 rfl
theorem b_xor64(x y:BitVec 64):bE .xor (u64 x) (u64 y) k=k (.raw (u64 (x^^^y))):=by
 have h:((BitVec.ofInt IntKind.u64.bits (x.toNat:Int)^^^BitVec.ofInt IntKind.u64.bits (y.toNat:Int)).toNat:Int) %18446744073709551616=((x^^^y).toNat:Int):=by rw[Jq,Jq];exact Tc _
 show(IntKind.u64=IntKind.u64∧k (.raw (.int .u64 _)))=_
 rw[eq_self,true_and,Bk,h]
 rfl
theorem Oj(x y:BitVec 64):bE .andNot (u64 x) (u64 y) k=k (.raw (u64 (x&&&~~~y))):=by
 have h:((BitVec.ofInt IntKind.u64.bits (x.toNat:Int)&&&~~~BitVec.ofInt IntKind.u64.bits (y.toNat:Int)).toNat:Int) %18446744073709551616=((x&&&~~~y).toNat:Int):=by rw[Jq,Jq];exact Tc _
 show(IntKind.u64=IntKind.u64∧k (.raw (.int .u64 _)))=_
 rw[eq_self,true_and,Bk,h]
 rfl
theorem b_quo64(x y:BitVec 64):bE .quo (u64 x) (u64 y) k=(y≠0∧k (.raw (u64 (x/y)))):=by
 have h0:((y.toNat:Int)≠0)=(y≠0):=propext ⟨fun h h2=>h (by rw[h2];rfl),fun h h2=>h (BitVec.eq_of_toNat_eq (by simp;omega))⟩
 have h:((x.toNat:Int).tdiv y.toNat) %18446744073709551616=((x/y).toNat:Int):=by
  rw[BitVec.toNat_udiv,Int.tdiv_eq_ediv_of_nonneg (by omega),←Int.natCast_ediv,←BitVec.toNat_udiv]
  exact Tc _
 show(IntKind.u64=IntKind.u64∧(y.toNat:Int)≠0∧k (.raw (.int .u64 _)))=_
 rw[eq_self,true_and,Bk,h,h0]
 rfl
theorem b_rem64(x y:BitVec 64):bE .rem (u64 x) (u64 y) k=(y≠0∧k (.raw (u64 (x %y)))):=by
 have h0:((y.toNat:Int)≠0)=(y≠0):=propext ⟨fun h h2=>h (by rw[h2];rfl),fun h h2=>h (BitVec.eq_of_toNat_eq (by simp;omega))⟩
 have h:((x.toNat:Int).tmod y.toNat)=((x %y).toNat:Int):=by
  rw[BitVec.toNat_umod,Int.tmod_eq_emod_of_nonneg (by omega),←Int.natCast_emod]
 show(IntKind.u64=IntKind.u64∧(y.toNat:Int)≠0∧k (.raw (.int .u64 _)))=_
 rw[eq_self,true_and,h,h0]
 rfl
theorem b_eql64(x y:BitVec 64):bE .eql (u64 x) (u64 y) k=k (.raw (.bool (decide (x=y)))):=by
 have h:decide ((x.toNat:Int)=y.toNat)=decide (x=y):=by
  apply decide_eq_decide.2
  exact⟨fun h=>BitVec.eq_of_toNat_eq (by omega),fun h=>by rw[h]⟩
 show(IntKind.u64=IntKind.u64∧k (.raw (.bool (decide ((x.toNat:Int)=y.toNat)))))=_
 rw[eq_self,true_and,h]
theorem b_neq64(x y:BitVec 64):bE .neq (u64 x) (u64 y) k=k (.raw (.bool (!decide (x=y)))):=by
 have h:decide ((x.toNat:Int)=y.toNat)=decide (x=y):=by
  apply decide_eq_decide.2
  exact⟨fun h=>BitVec.eq_of_toNat_eq (by omega),fun h=>by rw[h]⟩
 show(IntKind.u64=IntKind.u64∧k (.raw (.bool (!decide ((x.toNat:Int)=y.toNat)))))=_
 rw[eq_self,true_and,h]
theorem b_lss64(x y:BitVec 64):bE .lss (u64 x) (u64 y) k=k (.raw (.bool (decide (x<y)))):=by
 have h:decide ((x.toNat:Int)<y.toNat)=decide (x<y):=by
  apply decide_eq_decide.2
  exact by rw[BitVec.lt_def];omega
 show(IntKind.u64=IntKind.u64∧k (.raw (.bool (decide ((x.toNat:Int)<y.toNat)))))=_
 rw[eq_self,true_and,h]
theorem b_leq64(x y:BitVec 64):bE .leq (u64 x) (u64 y) k=k (.raw (.bool (decide (x≤y)))):=by
 have h:decide ((x.toNat:Int)≤y.toNat)=decide (x≤y):=by
  apply decide_eq_decide.2
  exact by rw[BitVec.le_def];omega
 show(IntKind.u64=IntKind.u64∧k (.raw (.bool (decide ((x.toNat:Int)≤y.toNat)))))=_
 rw[eq_self,true_and,h]
theorem b_gtr64(x y:BitVec 64):bE .gtr (u64 x) (u64 y) k=k (.raw (.bool (decide (y<x)))):=by
 have h:decide ((y.toNat:Int)<x.toNat)=decide (y<x):=by
  apply decide_eq_decide.2
  exact by rw[BitVec.lt_def];omega
 show(IntKind.u64=IntKind.u64∧k (.raw (.bool (decide ((y.toNat:Int)<x.toNat)))))=_
 rw[eq_self,true_and,h]
theorem b_geq64(x y:BitVec 64):bE .geq (u64 x) (u64 y) k=k (.raw (.bool (decide (y≤x)))):=by
 have h:decide ((y.toNat:Int)≤x.toNat)=decide (y≤x):=by
  apply decide_eq_decide.2
  exact by rw[BitVec.le_def];omega
 show(IntKind.u64=IntKind.u64∧k (.raw (.bool (decide ((y.toNat:Int)≤x.toNat)))))=_
 rw[eq_self,true_and,h]
theorem s6(x:BitVec 64)(c:Nat):((x.toNat:Int)*2^(min c 64)) %18446744073709551616=((x<<<c).toNat:Int):=by
 rw[BitVec.toNat_shiftLeft,Nat.shiftLeft_eq]
 rcases Nat.le_total c 64 with h|h
 ·rw[Nat.min_eq_left h,Int.natCast_emod,Int.natCast_mul,Int.natCast_pow];rfl
 ·rw[Nat.min_eq_right h]
  have h1:2^c=2^(c-64)*2^64:=by rw[←Nat.pow_add];congr 1;omega
  rw[h1,←Nat.mul_assoc,Nat.mul_mod_left]
  exact Int.mul_emod_left _ _
theorem s7(x:BitVec 64)(c:Nat):(x.toNat:Int).fdiv (2^(min c 64))=((x>>>c).toNat:Int):=by
 rw[BitVec.toNat_ushiftRight,Nat.shiftRight_eq_div_pow]
 have hp:((2:Int)^(min c 64))=((2^(min c 64):Nat):Int):=by norm_cast
 rw[hp,Int.fdiv_eq_ediv_of_nonneg _ (Int.natCast_nonneg _),←Int.natCast_ediv]
 congr 1
 rcases Nat.le_total c 64 with h|h
 ·rw[Nat.min_eq_left h]
 ·rw[Nat.min_eq_right h]
  have h0:=x.isLt
  rw[Nat.div_eq_of_lt h0,Nat.div_eq_of_lt (Nat.lt_of_lt_of_le h0 (Nat.pow_le_pow_right (by omega) h))]
theorem Ok(x:BitVec 64)(n:Int):bE .shl (u64 x) (it n) k=(0≤n∧k (.raw (u64 (x<<<n.toNat)))):=by
 show(0≤n∧k (.raw (.int .u64 (IntKind.u64.wrap ((x.toNat:Int)*2^(min n.toNat 64))))))=_
 rw[Bk,s6]
 rfl
theorem Ol(x:BitVec 64)(n:Int):bE .shr (u64 x) (it n) k=(0≤n∧k (.raw (u64 (x>>>n.toNat)))):=by
 show(0≤n∧k (.raw (.int .u64 ((x.toNat:Int).fdiv (2^(min n.toNat 64))))))=_
 rw[s7]
 rfl
theorem Td(x:BitVec 64)(n:BitVec 8):bE .shl (u64 x) (u8 n) k=k (.raw (u64 (x<<<n.toNat))):=by
 show(0≤(n.toNat:Int)∧k (.raw (.int .u64 (IntKind.u64.wrap ((x.toNat:Int)*2^(min (n.toNat:Int).toNat 64))))))=_
 rw[Bk,Int.toNat_natCast,s6,eq_true (by omega:0≤(n.toNat:Int)),true_and]
 rfl
theorem Te(x:BitVec 64)(n:BitVec 8):bE .shr (u64 x) (u8 n) k=k (.raw (u64 (x>>>n.toNat))):=by
 show(0≤(n.toNat:Int)∧k (.raw (.int .u64 ((x.toNat:Int).fdiv (2^(min (n.toNat:Int).toNat 64))))))=_
 rw[Int.toNat_natCast,s7,eq_true (by omega:0≤(n.toNat:Int)),true_and]
 rfl
theorem Om(x:BitVec 64)(n:BitVec 32):bE .shl (u64 x) (u32 n) k=k (.raw (u64 (x<<<n.toNat))):=by
 show(0≤(n.toNat:Int)∧k (.raw (.int .u64 (IntKind.u64.wrap ((x.toNat:Int)*2^(min (n.toNat:Int).toNat 64))))))=_
 rw[Bk,Int.toNat_natCast,s6,eq_true (by omega:0≤(n.toNat:Int)),true_and]
 rfl
theorem On(x:BitVec 64)(n:BitVec 32):bE .shr (u64 x) (u32 n) k=k (.raw (u64 (x>>>n.toNat))):=by
 show(0≤(n.toNat:Int)∧k (.raw (.int .u64 ((x.toNat:Int).fdiv (2^(min (n.toNat:Int).toNat 64))))))=_
 rw[Int.toNat_natCast,s7,eq_true (by omega:0≤(n.toNat:Int)),true_and]
 rfl
theorem Oo(x:BitVec 64)(n:BitVec 64):bE .shl (u64 x) (u64 n) k=k (.raw (u64 (x<<<n.toNat))):=by
 show(0≤(n.toNat:Int)∧k (.raw (.int .u64 (IntKind.u64.wrap ((x.toNat:Int)*2^(min (n.toNat:Int).toNat 64))))))=_
 rw[Bk,Int.toNat_natCast,s6,eq_true (by omega:0≤(n.toNat:Int)),true_and]
 rfl
theorem Oq(x:BitVec 64)(n:BitVec 64):bE .shr (u64 x) (u64 n) k=k (.raw (u64 (x>>>n.toNat))):=by
 show(0≤(n.toNat:Int)∧k (.raw (.int .u64 ((x.toNat:Int).fdiv (2^(min (n.toNat:Int).toNat 64))))))=_
 rw[Int.toNat_natCast,s7,eq_true (by omega:0≤(n.toNat:Int)),true_and]
 rfl
theorem u_not64(x:BitVec 64):Vl .xor (u64 x) k=k (.raw (u64 (~~~x))):=by
 show k (.raw (.int .u64 (IntKind.u64.wrap (BitVec.ofInt IntKind.u64.bits (if IntKind.u64.signed then-1 else IntKind.u64.max)^^^BitVec.ofInt IntKind.u64.bits (x.toNat:Int)).toNat)))=_
 have h:BitVec.ofInt IntKind.u64.bits (if IntKind.u64.signed then-1 else IntKind.u64.max)=BitVec.allOnes 64:=by kernel_rfl
 rw[h,Jq,Bk]
 have h2:(BitVec.allOnes 64^^^x)= ~~~x:=BitVec.allOnes_xor
 show k (.raw (.int .u64 (((BitVec.allOnes 64^^^x).toNat:Int) %18446744073709551616)))=_
 rw[h2,Tc]
 rfl
theorem b_addi(a b:Int):bE .add (it a) (it b) k=k (.raw (it (wz (a+b)))):=by simp only[bE,it,true_and];rfl
theorem b_subi(a b:Int):bE .sub (it a) (it b) k=k (.raw (it (wz (a-b)))):=by simp only[bE,it,true_and];rfl
theorem b_muli(a b:Int):bE .mul (it a) (it b) k=k (.raw (it (wz (a*b)))):=by simp only[bE,it,true_and];rfl
theorem b_quoi(a b:Int):bE .quo (it a) (it b) k=(b≠0∧k (.raw (it (wz (a.tdiv b))))):=by simp only[bE,it,true_and];rfl
theorem b_remi(a b:Int):bE .rem (it a) (it b) k=(b≠0∧k (.raw (it (a.tmod b)))):=by simp only[bE,it,true_and]
theorem b_eqli(a b:Int):bE .eql (it a) (it b) k=k (.raw (.bool (decide (a=b)))):=by simp only[bE,it,true_and]
theorem b_lssi(a b:Int):bE .lss (it a) (it b) k=k (.raw (.bool (decide (a<b)))):=by simp only[bE,it,true_and]
theorem b_leqi(a b:Int):bE .leq (it a) (it b) k=k (.raw (.bool (decide (a≤b)))):=by simp only[bE,it,true_and]
theorem b_gtri(a b:Int):bE .gtr (it a) (it b) k=k (.raw (.bool (decide (b<a)))):=by simp only[bE,it,true_and]
theorem b_geqi(a b:Int):bE .geq (it a) (it b) k=k (.raw (.bool (decide (b≤a)))):=by simp only[bE,it,true_and]
theorem b_neqi(a b:Int):bE .neq (it a) (it b) k=k (.raw (.bool (!decide (a=b)))):=by simp only[bE,it,true_and]
theorem b_adds(a b:ByteArray):bE .add (.string a) (.string b) k=(((a.size+b.size:Nat):Int)≤IntKind.i64.max∧k (.raw (.string (a++b)))):=Eq.trans rfl rfl
theorem b_eqls(a b:ByteArray):bE .eql (.string a) (.string b) k=k (.raw (.bool (a.toList==b.toList))):=Eq.trans rfl rfl
theorem b_neqs(a b:ByteArray):bE .neq (.string a) (.string b) k=k (.raw (.bool (!(a.toList==b.toList)))):=Eq.trans rfl rfl
theorem u_notb(b:Bool):Vl .not (.bool b) k=k (.raw (.bool !b)):=Eq.trans rfl rfl
theorem u_negi(n:Int):Vl .neg (it n) k=k (.raw (it (wz (0-n)))):=Eq.trans rfl rfl
end bins
end Go.Am

import Derived.Test.YtgcejocgnfkciaaGreatDoorKc24
namespace Go.Am
set_option linter.unusedSimpArgs false
set_option linter.unusedVariables false
attribute [local congr] cd bt cg bu bw bO bg bx bz bP a7 bQ bA b9
namespace iC
open Go.Am.F
set_option maxRecDepth 10000
theorem IM{a b:List (BitVec 8)}(hl:a.length=b.length)(h:∀i,i<a.length→a.getD i 0#8=b.getD i 0#8):a=b:=by
 refine List.ext_getElem hl fun i h1 h2=>?_
 have:=h i h1
 simpa[List.getD,h1,h2]using this
theorem erE0{x:List (BitVec 8)}{i:Nat}(hi:256*i+256≤x.length):Yo x (i:Int)=0:=by
 simp only[Yo,uC];rw[if_neg (by omega)]
theorem Na(x:List (BitVec 8))(i:Nat)(p w:List (BitVec 8))(hi:256*i+256≤x.length)(t:Nat)(ht:t<256*i∨256*i+256≤t):(mo x i p w).getD t 0#8=x.getD t 0#8:=by
 unfold mo Vb
 rw[if_pos (erE0 hi),Int.toNat_natCast]
 have hM:MU (sx (some (x,false)) (i:Int) 0 p) w≤256:=by unfold MU;omega
 rw[Ef _ _ _ _ _ _ (by omega),if_neg (by omega)]
theorem IN(x:List (BitVec 8))(i:Nat)(p:List (BitVec 8))(hp:p.length≤256)(hi:256*i+256≤x.length):sub (mo x i p eF) (256*i) 256=sx (some (x,false)) (i:Int) 0 p:=by
 have hd:=Rp x i p hp hi
 refine IM (by rw[hd];exact j9 (by rw[pJ];omega)) fun j hj=>?_
 have mr:j<256:=by rw[j9 (by rw[pJ];omega)]at hj;exact hj
 rw[Kj _ _ _ _ mr]
 unfold mo Vb
 rw[if_pos (erE0 hi),Int.toNat_natCast]
 have hM:MU (sx (some (x,false)) (i:Int) 0 p) eF=256:=by unfold MU;rw[hd,YO];rfl
 rw[hM,Ef _ _ _ _ _ _ (by omega),if_pos (by omega),Nat.add_sub_cancel_left,ff_get _ mr,teV_all]
theorem dat_nil(x:List (BitVec 8))(i:Int):sx (some (x,false)) i 0 []=eF:=by rw[sx,if_pos rfl,eF]
theorem err_nil{x:List (BitVec 8)}{i:Nat}(hi:256*i+256≤x.length):qT (some (x,false)) (i:Int) 0 []=0:=by
 have hP:uC (some (x,false)) (i:Int)=0:=erE0 hi
 rw[qT,if_neg (by rw[hP];simp),if_pos rfl]
theorem err_wr{x p:List (BitVec 8)}{i:Nat}(hi:256*i+256≤x.length)(hp:p.length≤256)(hs:sub x (256*i) 256=eF):qT (some (x,false)) (i:Int) 0 p=0:=by
 have hP:uC (some (x,false)) (i:Int)=0:=erE0 hi
 rw[qT,if_neg (by rw[hP];simp)]
 split
 ·rfl
 ·rw[if_neg (by omega),if_pos]
  rw[Int.toNat_natCast]
  show clears ((sub x (256*i) 256).drop 0) p
  rw[hs,List.drop_zero,eF]
  exact Pt _ _ hp
theorem vX(K:FV):eG K=32∨eG K=33:=by unfold eG;split<;>simp
theorem YR{x:List (BitVec 8)}{i:Nat}(hi:256*i+256≤x.length):sub (mo x i [] eF) (256*i) 256=eF:=by
 rw[IN x i [] (by simp) hi,dat_nil]
theorem Rr{x:List (BitVec 8)}{K:FV}{s:JS}{q:Nat}(hx:8704≤x.length):∀(j:Nat) (o:JO),(jL K s q)[j]?=some o→o.p.length≤256∧256*o.i+256≤x.length∧qT (some (IL x ((jL K s q).take j),false)) (o.i:Int) 0 o.p=0:=by
 have hi:256*eG K+256≤x.length:=by rcases vX K with h|h<;>rw[h]<;>omega
 intro j o h
 match j with
 |0=>cases h;exact⟨by simp,hi,err_nil hi⟩
 |1=>
  cases h
  refine⟨by rw[eY];omega,hi,?_⟩
  show qT (some (mo x (eG K) [] eF,false)) (eG K:Int) 0 (cU (fg K s))=0
  exact err_wr (by rw[pJ];exact hi) (by rw[eY];omega) (YR hi)
 |j+2=>cases h
theorem AM{x:List (BitVec 8)}{K:FV}{s:JS}{q:Nat}(hx:8704≤x.length)(t:Nat)(ht:t<256*eG K∨256*eG K+256≤t):(IL x (jL K s q)).getD t 0#8=x.getD t 0#8:=by
 have hi:256*eG K+256≤x.length:=by rcases vX K with h|h<;>rw[h]<;>omega
 have Dn:256*eG K+256≤(mo x (eG K) [] eF).length:=by rw[pJ];exact hi
 show(mo (mo x (eG K) [] eF) (eG K) (cU (fg K s)) eF).getD t 0#8=_
 rw[Na _ _ _ _ Dn t ht,Na _ _ _ _ hi t ht]
def vwAt(x bH:List (BitVec 8))(least:Int)(i n:Nat):D:=
 if gT x bH least i=0 then yM 0 (gq x i).1 (.sl L8 n [] 0 (gq x i).2.2.1.length false)else yM (gT x bH least i) eS (.raw (.slice none 0 0))
def vwR(x bH:List (BitVec 8))(least:Int)(i:Nat):Rows:=if gT x bH least i=0 then[some ⟨L8,bs (gq x i).2.2.1⟩]else[]
theorem fG.rd{rows:Rows}{r m:Nat}{x:List (BitVec 8)}(h:fG rows r m x):∃e,bT rows (b8 yJ) (.ptr SF r [0]) (some (x,e)):=by
 obtain⟨e,hv⟩:=h.view
 exact⟨e,⟨_,hv,bV wI _⟩,fun h=>by simp[aQ]at h⟩
theorem kLook{rows:Rows}{f m:Nat}{x bH:List (BitVec 8)}{dp:D}(hF:fG rows f m x)(hx:x.length=10240)(hp:bc rows dp bH)(sG:bH.length≤1000)(least:Int)(i:Nat)(hi:i≤1)(k:D→Rows→Prop):
  aJ M8 rows k [.ptr SF f [0],dp,.raw (it least),.raw (it (i:Int))]=k (vwAt x bH least i rows.length) (rows++vwR x bH least i):=by
 obtain⟨e,hr⟩:=hF.rd
 refine(vO hr (.bs hp) (.int _) (.int _) (by simp[mc,hx,sG];omega) ?_ k).trans ?_
 ·simp only[Uk,yM,cO]
  split<;>simp[bZ,fI,aS,Sh.pure]
 ·simp only[Uk,vwAt,vwR,Int.toNat_natCast,nG]
  by_cases c:gT x bH least i=0<;>simp[c,yM,cO,shift,bh,ae,Sh.pure]
theorem YT(C:be)(hC:aI C P):aO C.aZ P 130 (Fn.run Au):=by
 refine aH (Hh C hC) fun ds rows r h=>?_
 obtain⟨d,i,rfl,rfl,hd,hp,rfl⟩:=a8 h
 cases bX hd
 refine⟨rfl,ag rfl ?_⟩
 clear h hd
 unfold xD xE iE
 by_cases c0:i=0
 ·simp only[↓aj,ak,simprocAttr,aa,c0,decide_true,Bool.true_or]
  exact .val _ rfl
 ·simp only[↓aj,ak,simprocAttr,aa,c0,decide_false,Bool.false_or]
  exact .val _ rfl
structure Cho where
 i:Int
 s:JS
 c:Bool
 t:Bool
 e:Int
abbrev SCo:Sh:= .cons LI (.cons SJ (.cons LB (.cons LB (.cons LI .nil))))
def KR(c:Cho):D:= .agg SCo [.raw (it c.i),jD c.s,.raw (.bool c.c),.raw (.bool c.t),.raw (it c.e)]
def rdBo:D→Option Bool
 | .raw (.bool b)=>some b
 | _=>none
theorem Uq{d:D}{b:Bool}(h:rdBo d=some b):d= .raw (.bool b):=by
 unfold rdBo at h
 split at h
 ·cases h;rfl
 ·cases h
noncomputable def Ek:Fn:=Xu rC (b8 jD) (b8 jD) rdBo (fun _ _ _ _=>true) fun i n w t=>(KR ⟨i,n,!decide (n=w),t,0⟩,[])
theorem Ur(C:be)(hC:aI C P):aO C.aZ P 134 (Fn.run Ek):=by
 refine aH (Dz C hC) fun ds rows r h=>?_
 obtain⟨d0,d1,d2,d3,i,n,w,t,rfl,rfl,hd,he,hf,hg,hp,rfl⟩:=sc h
 cases bX hd
 cases aF he
 cases aF hf
 cases Uq hg
 refine⟨rfl,ag rfl ?_⟩
 clear h hd he hf hg
 unfold tX tY
 have hz:D.agg SJ [.raw (u32 0#32),.raw (it 0),.raw (it 0),.raw (it 0)]=jD ⟨0#32,0,0,0⟩:=rfl
 have e:=Pc n w
 simp only[hz]
 simp only[↓aj,ak,simprocAttr,aa,aX,cw,e]
 exact .val _ rfl
theorem kChosen(rows:Rows)(k:D→Rows→Prop)(i:Int)(n w:JS)(t:Bool):aJ Ek rows k [.raw (it i),jD n,jD w,.raw (.bool t)]=k (KR ⟨i,n,!decide (n=w),t,0⟩) rows:=by
 refine(bi rfl (O4 (nS i) (bV yG n) (bV yG w) (x3:=t) rfl rfl)).trans ?_
 simp[KR,jD,shift,bh,ae,Sh.pure]
def El(e0 e1 i:Int):Bool:=(decide (i=0)&&decide (e0=0))||(decide (i=1)&&decide (e1=0))
def pL(iI:Int)(s:JS)(e0 e1:Int):Cho:=
 if iI=4 then⟨-1,s,false,false,17⟩else if iI<1∨3<iI then⟨-1,s,false,false,14⟩else
 bif El e0 e1 s.t&&decide (s.n<3)then⟨s.t,⟨s.q,s.a,s.t,s.n+1⟩,true,true,0⟩else
 bif El e0 e1 s.a then⟨s.a,⟨s.q,s.a,-1,0⟩,!decide ((⟨s.q,s.a,-1,0⟩:JS)=s),false,0⟩else
 bif El e0 e1 (1-s.a)then⟨1-s.a,⟨s.q,1-s.a,-1,0⟩,!decide ((⟨s.q,1-s.a,-1,0⟩:JS)=s),false,0⟩else
 ⟨-1,⟨s.q,s.a,-1,0⟩,!decide ((⟨s.q,s.a,-1,0⟩:JS)=s),false,3⟩
def e2D(x:Int×Int):D:= .agg (.ar 2 LI) [.raw (it x.1),.raw (it x.2)]
theorem e2D_inj(x y:Int×Int)(h:e2D x=e2D y):x=y:=by
 simp only[e2D,D.agg.injEq,List.cons.injEq,D.raw.injEq,E9,and_true,true_and]at h
 exact Prod.ext h.1 h.2
noncomputable def Us:Fn:=G2 rC (b8 jD) (b8 e2D) (fun _ s _=>bK s) fun l s x=>(KR (pL l s x.1 x.2),[])
theorem vY(C C1:be)(hs:C1.fn 130=some Au){rows:Rows}{r:Nat}{e0 e1 i:Int}(hr:live rows r=some ⟨.ar 2 LI,[e2D (e0,e1)]⟩){K:D→Rows→Prop}(hk:K (.raw (.bool (El e0 e1 i))) rows):
  aR C1 2 gK gJ [.raw (it i),.ptr (.ar 2 LI) r [0]] rows K:=by
 refine ag rfl ?_
 unfold gJ gK
 have ks:=fun rows k=>XF rows k i
 unfold El at hk
 simp only[e2D]at hr
 by_cases c0:i=0
 ·subst c0
  simp only[↓aj,ak,simprocAttr,aa,hs,ks,iE,hr]
  simpa using hk
 ·by_cases c1:i=1
  ·subst c1
   simp only[↓aj,ak,simprocAttr,aa,hs,ks,iE,hr]
   simpa using hk
  ·simp only[↓aj,ak,simprocAttr,aa,hs,ks,iE,c0,c1]
   simpa[c0,c1]using hk
theorem sel_ok(C C1:be)(hC:aI C P)(hs:C1.fn 130=some Au)(hc:C.fn 134=some Ek)(n0:C.fn 133=none)(r0:C.fU 133=some (aR C1 2 gK gJ)):aO C.aZ P 70 (Fn.run Us):=by
 refine aH (Dt C hC) fun ds rows r h=>?_
 obtain⟨d0,d1,d2,l,s,⟨e0,e1⟩,rfl,rfl,hd,he,hf,hp,rfl⟩:=fq h
 cases bX hd
 cases aF he
 cases aF hf
 refine⟨rfl,ag rfl ?_⟩
 clear h hd he hf
 unfold tL tM
 have hz:D.agg SJ [.raw (u32 0#32),.raw (it 0),.raw (it 0),.raw (it 0)]=jD ⟨0#32,0,0,0⟩:=rfl
 have ef:(e2D (e0,e1)).fits (.ar 2 LI)=true:=rfl
 have hmb:IY 133 []=false:=rfl
 simp only[hz,pL]
 by_cases c1:l=4
 ·have T7:(l=4)=True:=eq_true c1
  simp only[↓aj,ak,simprocAttr,aa,aX,cw,ef,T7,if_true]
  exact .val _ rfl
 have T7:(l=4)=False:=eq_false c1
 by_cases c2:l<1
 ·have Z9:(l<1)=True:=eq_true c2
  simp only[↓aj,ak,simprocAttr,aa,aX,cw,ef,T7,Z9,if_true,if_false,true_or]
  exact .val _ rfl
 have Z9:(l<1)=False:=eq_false c2
 by_cases c3:3<l
 ·have PC:(3<l)=True:=eq_true c3
  simp only[↓aj,ak,simprocAttr,aa,aX,cw,ef,T7,Z9,PC,if_true,if_false,or_true]
  exact .val _ rfl
 have PC:(3<l)=False:=eq_false c3
 have kc:=fun rows k=>kChosen rows k
 obtain⟨q,a,t,n⟩:=s
 have hr:(a=0∨a=1)∧0≤n∧n≤3:=by
  simp only[bK,iE,Bool.and_eq_true,Bool.or_eq_true,decide_eq_true_eq]at hp
  exact⟨hp.1.1.1,hp.1.2,hp.2⟩
 clear hp hz hmb
 have js1:∀s v,(jD s).set [1] (.raw (it v))=some (jD ⟨s.q,v,s.t,s.n⟩):=fun _ _=>rfl
 have js2:∀s v,(jD s).set [2] (.raw (it v))=some (jD ⟨s.q,s.a,v,s.n⟩):=fun _ _=>rfl
 have js3:∀s v,(jD s).set [3] (.raw (it v))=some (jD ⟨s.q,s.a,s.t,v⟩):=fun _ _=>rfl
 have w1:wz (n+1)=n+1:=bf (by omega)
 have w2:wz (1-a)=1-a:=bf (by omega)
 have cf:∀c,(KR c).fits SCo=true:=fun _=>rfl
 have hne:(⟨q,a,t,n+1⟩:JS)≠⟨q,a,t,n⟩:=fun h=>by injection h;omega
 have Cj:decide ((⟨q,a,t,n+1⟩:JS)=⟨q,a,t,n⟩)=false:=decide_eq_false hne
 simp only[↓aj,ak,simprocAttr,aa,aX,cw,ef,T7,Z9,PC,if_false,or_self,uh,As,QN,n0,r0]
 refine⟨rfl,vY C C1 hs rfl ?_⟩
 cases k1:El e0 e1 t&&decide (n<3)with
 |true=>
  obtain⟨k2,k3⟩:=Bool.and_eq_true_iff.1 k1
  have k3':(n<3)=True:=eq_true (of_decide_eq_true k3)
  simp only[↓aj,ak,simprocAttr,aa,aX,k2,k3',cw,As,QN,js3,w1,hc,kc,Cj,cf]
  exact .val _ rfl
 | false =>
  simp only[cond_false]
  have k4:El e0 e1 t=false∨El e0 e1 t=true∧(n<3)=False:=by
   cases h:El e0 e1 t
   ·exact .inl rfl
   ·rw[h,Bool.true_and]at k1
    exact .inr ⟨rfl,eq_false (of_decide_eq_false k1)⟩
  rcases k4 with k2|⟨k2,k3⟩
  ·simp only[↓aj,ak,simprocAttr,aa,aX,k2,cw,uh,js2,js3,n0,r0]
   refine⟨rfl,vY C C1 hs rfl ?_⟩
   cases k5:El e0 e1 a with
   |true=>
    simp only[↓aj,ak,simprocAttr,aa,aX,k5,cw,uh,hc,kc,cf]
    exact .val _ rfl
   | false =>
    simp only[↓aj,ak,simprocAttr,aa,aX,k5,cw,uh,w2,n0,r0]
    refine⟨rfl,vY C C1 hs rfl ?_⟩
    cases k6:El e0 e1 (1-a)with
    |true=>
     simp only[↓aj,ak,simprocAttr,aa,aX,k6,cw,js1,hc,kc,cf]
     exact .val _ rfl
    |false=>
     simp only[↓aj,ak,simprocAttr,aa,aX,k6,cw,Pc]
     exact .val _ rfl
  ·simp only[↓aj,ak,simprocAttr,aa,aX,k2,k3,cw,uh,QN,js2,js3,n0,r0]
   refine⟨rfl,vY C C1 hs rfl ?_⟩
   cases k5:El e0 e1 a with
   |true=>
    simp only[↓aj,ak,simprocAttr,aa,aX,k5,cw,uh,hc,kc,cf]
    exact .val _ rfl
   | false =>
    simp only[↓aj,ak,simprocAttr,aa,aX,k5,cw,uh,w2,n0,r0]
    refine⟨rfl,vY C C1 hs rfl ?_⟩
    cases k6:El e0 e1 (1-a)with
    |true=>
     simp only[↓aj,ak,simprocAttr,aa,aX,k6,cw,js1,hc,kc,cf]
     exact .val _ rfl
    |false=>
     simp only[↓aj,ak,simprocAttr,aa,aX,k6,cw,Pc]
     exact .val _ rfl
theorem kSel(rows:Rows)(k:D→Rows→Prop)(l:Int)(s:JS)(hs:bK s=true)(e0 e1:Int):aJ Us rows k [.raw (it l),jD s,.agg (.ar 2 LI) [.raw (it e0),.raw (it e1)]]=k (KR (pL l s e0 e1)) rows:=by
 refine(bi rfl (r:=(KR (pL l s e0 e1),[])) ?_).trans ?_
 ·have h:=bV e2D_inj (e0,e1)
  simp only[Us,yD,nS,bV yG,Option.bind_some,hs]
  rw[show D.agg (.ar 2 LI) [.raw (it e0),.raw (it e1)]=e2D (e0,e1)from rfl,h]
  rfl
 ·simp[KR,jD,shift,bh,ae,Sh.pure]
abbrev PJ:Sh:= .ar 4 (.ar 32 L8)
abbrev Ru:Sh:= .cons PJ .nil
def Ht(r:List (List (BitVec 8))):D:= .agg PJ (r.map aW)
theorem AN:∀{a b:List (List (BitVec 8))},a.map aW=b.map aW→a=b
 |[],[],_=>rfl
 |[],_::_,h=>by simp at h
 | _::_,[],h=>by simp at h
 |x::a,y::b,h=>by
  simp only[List.map_cons,List.cons.injEq]at h
  rw[Al _ _ h.1,AN h.2]
theorem Nc(x y:List (List (BitVec 8)))(h:Ht x=Ht y):x=y:=by
 injection h with _ h;exact AN h
def gY(r:List (List (BitVec 8))):D:= .agg Ru [Ht r]
theorem Ut(x y:List (List (BitVec 8)))(h:gY x=gY y):x=y:=by
 injection h with _ h
 injection h with h _
 exact Nc _ _ h
def Rv(r:List (List (BitVec 8))):Bool:=decide (r.length=4)&&It r
theorem BY{r:List (List (BitVec 8))}:Rv r=true↔r.length=4∧∀x∈r,x.length=32:=by simp[Rv,sa]
theorem YU(r:List (List (BitVec 8)))(rows:Rows):bT rows (b8 Ht) (Ht r) r:=bT.agg rfl (bV Nc r)
theorem IP(r:List (List (BitVec 8)))(rows:Rows):bT rows (b8 gY) (gY r) r:=bT.agg rfl (bV Ut r)
theorem Gy{r:List (List (BitVec 8))}(h:Rv r=true):r.flatten.length=128:=by
 obtain⟨h4,p8⟩:=BY.1 h
 rw[r8 p8,h4]
theorem okR_get{r:List (List (BitVec 8))}(h:Rv r=true){i:Nat}(hi:i<4):(r.getD i []).length=32:=by
 obtain⟨h4,p8⟩:=BY.1 h
 have hi':i<r.length:=by omega
 rw[List.getD_eq_getElem?_getD,List.getElem?_eq_getElem hi']
 exact p8 _ (List.getElem_mem hi')
def Rw(i:Int):Bool:=decide (0≤i)&&decide (i<4)
def Ks:Fn:=lE rC (fun _=>true) fun i=>(.raw (.bool (Rw i)),[])
theorem YV(C:be)(hC:aI C P):aO C.aZ P 193 (Fn.run Ks):=by
 refine aH (JJ C hC) fun ds rows r h=>?_
 obtain⟨d,i,rfl,rfl,hd,hp,rfl⟩:=a8 h
 cases bX hd
 refine⟨rfl,ag rfl ?_⟩
 clear h hd
 unfold Ac Ad
 by_cases h0:0≤i
 ·have e0:(0≤i)=True:=eq_true h0
  by_cases h1:i<4
  ·have e1:(i<4)=True:=eq_true h1
   have e:Rw i=true:=by simp[Rw,h0,h1]
   simp only[↓aj,ak,simprocAttr,aa,e0,e1,e,decide_true]
   exact .val _ rfl
  ·have e1:(i<4)=False:=eq_false h1
   have e:Rw i=false:=by simp[Rw,h0,h1]
   simp only[↓aj,ak,simprocAttr,aa,e0,e1,e,decide_true,decide_false]
   exact .val _ rfl
 ·have e0:(0≤i)=False:=eq_false h0
  have e:Rw i=false:=by simp[Rw,h0]
  simp only[↓aj,ak,simprocAttr,aa,e0,e,decide_false]
  exact .val _ rfl
theorem kThere(rows:Rows)(k:D→Rows→Prop)(i:Int):aJ Ks rows k [.raw (it i)]=k (.raw (.bool (Rw i))) rows:=by
 refine(cC (bT.int _) rfl rfl k).trans ?_
 simp[shift,ae]
def zR:List (List (BitVec 8)):=List.replicate 4 ug
theorem zR_eq:List.replicate 4 (D.agg (.ar 32 L8) (bs ug))=zR.map aW:=rfl
def Gz:Fn
 |[],[]=>some (gY zR,[])
 | _,_=>none
theorem YW(C:be)(hC:aI C P):aO C.aZ P 129 (Fn.run Gz):=by
 refine aH (OK C hC) fun ds rows r h=>?_
 unfold Gz at h
 split at h
 ·cases h
  refine⟨rfl,ag rfl ?_⟩
  unfold FB FC
  simp only[dW,zR_eq]
  simp only[↓aj,ak,simprocAttr,aa,aX]
  exact .val _ rfl
 ·cases h
theorem kMsNew(rows:Rows)(k:D→Rows→Prop):aJ Gz rows k []=k (gY zR) rows:=by
 refine(bi rfl (r:=(gY zR,[])) rfl).trans ?_
 simp[shift,ae,gY,Ht,Sh.pure]
noncomputable def Kt:Fn:=lE (b8 Ht) Rv fun r=>ez r.flatten false
theorem YX(C:be)(hC:aI C P):aO C.aZ P 195 (Fn.run Kt):=by
 refine aH (Md C hC) fun ds rows r h=>?_
 obtain⟨d,l,rfl,rfl,hd,hp,rfl⟩:=a8 h
 cases aF hd
 obtain⟨h4,p8⟩:=BY.1 hp
 refine⟨rfl,ag rfl ?_⟩
 clear h hd
 unfold CP CQ
 simp only[dW]
 simp only[Ht,↓aj,ak,simprocAttr,aa,aX]
 have hlt:∀i,i≤4→((l.take i).flatten).length=32*i:=fun i hi=>by
  rw[r8 (fun x hx=>p8 x (List.mem_of_mem_take hx)),List.length_take]
  omega
 refine bB 4 (fun i env rows=>has env [(7,.raw (it (i:Int))),(6,.agg PJ (l.map aW))]∧∃d,look env 3=some d∧iK L8 d rows (bs (l.take i).flatten)) ?_ ?_ ⟨?_,_,by simp only[↓aj,ak,simprocAttr,aa],.nil⟩
 ·rintro i hi env rows ⟨hh,d,h3,hO⟩ R hR
  simp only[has]at hh
  have e0:((i:Int)<4)=True:=eq_true (by omega)
  have b0:∀n:Nat,((0:Int)≤(n:Int))=True:=fun n=>eq_true (by omega)
  have e1:=cE i (by omega)
  have hi':i<l.length:=by omega
  have hx:=p8 _ (List.getElem_mem hi')
  have g:(l.map aW)[i]?=some (.agg (.ar 32 L8) (bs l[i])):=by simp[aW,hi']
  have hs:(l.take i).flatten++l[i]=(l.take (i+1)).flatten:=by
   rw[List.take_succ_eq_append_getElem hi',List.flatten_append];simp
  have hlen:=hlt i (by omega)
  generalize l[i]=xi at*
  have ea:∀ex,elems (rows++[some ⟨.ar 32 L8,[.agg (.ar 32 L8) (bs xi)]⟩]) (.sl L8 rows.length [0] 0 32 ex)=some (bs xi):=fun ex=>oG (n:=32) (by rw[b6];rfl) rfl hx
  simp only[↓aj,ak,simprocAttr,aa,aX,hh,e0,e1,b0,h3,g,ea,aC,hx]
  refine iX (hO.push) (by rw[aC,aC,hx,hlen];simp[most];omega) (by rw[aC,aC,hx,hlen];simp[most];omega) fun d' ab F4 oD vS _=>?_
  rw[nU,hs]at F4
  simp only[↓aj,ak,simprocAttr,aa,aX,hh,e1]
  exact hR _ _ ⟨by simp only[has,↓aj,ak,simprocAttr,aa,hh],d',by simp only[↓aj,ak,simprocAttr,aa],F4⟩
 ·rintro env rows ⟨hh,d,h3,hO⟩ R
  simp only[has]at hh
  rw[List.take_of_length_le (by omega)]at hO
  simp only[↓aj,ak,simprocAttr,aa,aX,hh,h3,hO.mI]
  exact hO.Jl
 ·simp only[has,↓aj,ak,simprocAttr,aa]
theorem kMText(rows:Rows)(k:D→Rows→Prop)(r:List (List (BitVec 8)))(h:Rv r=true):aJ Kt rows k [Ht r]=k (.sl L8 (0+rows.length) [] 0 128 false) (rows++[some ⟨L8,bs r.flatten⟩]):=by
 refine(cC (YU r rows) h rfl k).trans ?_
 simp[ez,shift,ae,Sh.pure,Gy h]
def Ku(r:List (List (BitVec 8)))(i:Int)(p:List (BitVec 8)):List (List (BitVec 8)):=bif Rw i then r.set i.toNat (dU (r.getD i.toNat []++dU p))else r
theorem extR_ok{r:List (List (BitVec 8))}(h:Rv r=true)(i:Int)(p:List (BitVec 8)):Rv (Ku r i p)=true:=by
 unfold Ku
 cases Rw i with
 |false=>exact h
 |true=>
  obtain⟨h4,p8⟩:=BY.1 h
  refine BY.2 ⟨by simp[h4],fun x hx=>?_⟩
  simp only[cond_true]at hx
  rcases List.mem_or_eq_of_mem_set hx with h1|h1
  ·exact p8 x h1
  ·rw[h1];exact dh _
noncomputable def AO:Fn:=G2 (b8 gY) rC pz (fun r _ ls=>Rv r&&(Nat.ble ls.length most&&Nat.ble ls.flatten.length most)) fun r i ls=>(.cA [gY (Ku r i ls.flatten),.raw (it (bif Rw i then 0 else 1))],[])
set_option maxHeartbeats 1000000 in
theorem Uu(C:be)(hC:aI C P)(h1:C.fn 193=some Ks)(h2:C.fn 95=some BI):aO C.aZ P 174 (Fn.run AO):=by
 refine aH (yz C hC) fun ds rows r h=>?_
 obtain⟨d0,d1,d2,r,i,ls,rfl,rfl,g0,g1,g2,hp,rfl⟩:=fq h
 cases aF g0
 cases bX g1
 obtain⟨l,e,rfl,hl⟩:=tq g2
 simp only[Bool.and_eq_true,Nat.ble_eq]at hp
 obtain⟨hr,Mj,sG⟩:=hp
 unfold most at Mj sG
 obtain⟨h4,p8⟩:=BY.1 hr
 refine⟨rfl,ag rfl ?_⟩
 clear h g0 g1 g2
 unfold pg pi
 have zr:D.agg Ru [.agg PJ (List.replicate 4 (.agg (.ar 32 L8) (bs ug)))]=gY zR:=rfl
 have mf:∀r,D.fits (gY r) Ru=true:=fun _=>rfl
 simp only[dW,zr]
 simp only[↓aj,ak,simprocAttr,aa,aX,h1,kThere,mf]
 cases hi:Rw i with
 |false=>
  have hx:Ku r i ls.flatten=r:=by simp[Ku,hi]
  rw[hx]
  simp only[↓aj,ak,simprocAttr,aa,aX,mf]
  exact .val _ rfl
 | true =>
  have Dn:0≤i∧i<4:=by simpa[Rw]using hi
  obtain⟨n,rfl⟩:=Int.eq_ofNat_of_zero_le Dn.1
  have hn:n<4:=by omega
  have kS:∀(rows:Rows) k,aJ BI rows k [.cF .ref l e]=k (.agg (.ar 32 L8) (bs (dU ls.flatten))) rows:=fun rows k=>by
   have hv:bT rows pz (.cF .ref l e) ls:=by
    have mh:=hl
    refine⟨?_,fun _=>hl⟩
    obtain⟨hlen,jz⟩:=jk hl
    have hv:aY (fun x y=>bc rows x y) l ls:=⟨hlen.symm,fun i x y hx hy=>(eU (jz i x y hx hy)).to⟩
    obtain⟨l',q1,q2⟩:=pC hv
    exact⟨.cF .ref l' e,by simp only[view,Sh.pure,cond_false,q1],by simpa[pz]using q2⟩
   refine(cC hv (by simp only[Bool.and_eq_true,Nat.ble_eq];exact⟨Mj,sG⟩) (by simp[aW,bZ,aS,Sh.pure]) k).trans ?_
   simp[aW,shift,ae,Sh.pure]
  have e0:((n:Int)<4)=True:=eq_true (by omega)
  have b0:((0:Int)≤(n:Int))=True:=eq_true (by omega)
  have g:∀x,(D.agg PJ (r.map aW)).set [n] x=some (.agg PJ ((r.map aW).set n x)):=fun x=>by simp[D.set,h4,hn]
  simp only[↓aj,ak,simprocAttr,aa,aX,h2,kS,e0,b0,gY,Ht]
  have NZ:n<r.length:=by omega
  have hx:(r.getD n []).length=32:=okR_get hr hn
  have hg:cP [D.agg Ru [D.agg PJ (r.map aW)]] [0,0,n]=some (.agg (.ar 32 L8) (bs (r.getD n []))):=by
   simp[cP,D.get,List.getD,NZ,aW]
  have hy:=dh ls.flatten
  refine Eq.mpr (O2 _ _ _ 2 _ _ [r.getD n [],dU ls.flatten] rfl rfl (.cons (bc.r9 (n:=32) rfl hg hx) (.cons (bc.r9 (n:=32) rfl rfl hy) .nil)) (by simp) (by simp only[List.flatten_cons,List.flatten_nil,List.length_append,List.length_nil,hx,hy];omega)) ?_
  have e:dU [r.getD n [],dU ls.flatten].flatten=dU (r.getD n []++dU ls.flatten):=by simp
  have hm:(r.map aW).set n (.agg (.ar 32 L8) (bs (dU (r.getD n []++dU ls.flatten))))=(r.set n (dU (r.getD n []++dU ls.flatten))).map aW:=by
   rw[List.map_set];rfl
  have hxx:Ku r (n:Int) ls.flatten=r.set n (dU (r.getD n []++dU ls.flatten)):=by simp[Ku,hi]
  rw[e,hxx]
  simp only[↓aj,ak,simprocAttr,aa,aX,e0,b0,g,hm]
  exact .val _ rfl
theorem kExtend(rows:Rows)(k:D→Rows→Prop)(r:List (List (BitVec 8)))(i:Int)(q n:Nat)(ex:Bool)(l:List D)(ls:List (List (BitVec 8)))(h:Rv r=true)(hl:live rows q=some ⟨.ref,l⟩)(hn:l.length=n)
  (hv:aY (fun x y=>bc rows x y) l ls)(hp:ls.length≤1099511627776)(sG:ls.flatten.length≤1099511627776):
  aJ AO rows k [gY r,.raw (it i),.sl .ref q [] 0 n ex]=k (.cA [gY (Ku r i ls.flatten),.raw (it (bif Rw i then 0 else 1))]) rows:=by
 refine(fT (IP r rows) (bT.int i) (bT.parts hl hn hv) (by simp only[Bool.and_eq_true,Nat.ble_eq];exact⟨h,hp,sG⟩) (by simp[bZ,fI,aS,gY,Sh.pure]) k).trans ?_
 simp[shift,bh,ae,gY,Sh.pure]
end iC
end Go.Am
namespace Go.Am
set_option linter.unusedSimpArgs false
set_option linter.unusedVariables false
attribute [local congr] cd bt cg bu bw bO bg bx bz bP a7 bQ bA b9
namespace iC
open Go.Am.F
set_option maxRecDepth 10000
namespace Ms
def eR(n:Nat):List (BitVec 8):=[BitVec.ofNat 8 (n/16777216),BitVec.ofNat 8 (n/65536),BitVec.ofNat 8 (n/256),BitVec.ofNat 8 n]
theorem M4(n:Nat):(eR n).length=4:=rfl
theorem Kp(n:Int)(m:BitVec 64)(k:D→Prop):bE .shr (it n) (u64 m) k=k (.raw (it (n.fdiv (2^(min m.toNat 64))))):=by
 simp only[bE,it,u64,Int.toNat_natCast,IntKind.bits]
 simp
theorem nI(n m:Nat):(n:Int).fdiv (m:Int)=((n/m:Nat):Int):=by
 rw[Int.fdiv_eq_ediv_of_nonneg _ (by omega)];rfl
end Ms
open Ms
theorem bT.cF{rows:Rows}{e:Bool}{l:List D}{ls:List (List (BitVec 8))}(h:aY (fun x y=>ec x y) l ls):bT rows pz (.cF .ref l e) ls:=by
 have h0:∀(l:List D) (ls:List (List (BitVec 8))),aY (fun x y=>ec x y) l ls→cW dN l=some ls:=by
  intro l
  induction l with
  |nil=>intro ls h;have:=h.len;cases ls with
   |nil=>rfl
   |cons _ _=>simp at this
  |cons x l ih=>intro ls h;cases ls with
   |nil=>have:=h.len;simp at this
   |cons y ls=>simp only[cW,h.head.rd,ih ls h.tail]
 refine⟨?_,fun _=>by simpa[pz]using h0 l ls h⟩
 obtain⟨l',q1,q2⟩:=pC (rows:=rows) (h.mono fun x y hb=>ec.to hb)
 exact⟨.cF .ref l' e,by simp only[view,Sh.pure,cond_false,q1],by simpa[pz]using q2⟩
def quo:List (BitVec 8):=[81#8,85#8,79#8,84#8]
end iC
end Go.Am
namespace Go.Am
set_option linter.unusedSimpArgs false
set_option linter.unusedVariables false
attribute [local congr] cd bt cg bu bw bO bg bx bz bP a7 bQ bA b9
namespace iC
open Go.Am.F
open Ms
set_option maxRecDepth 10000
abbrev SPl:Sh:= .cons LI (.cons (.ar 32 L8) .nil)
abbrev uI:Sh:= .cons (.ar 8 SPl) (.cons LB (.cons LB .nil))
def plD(p:Int×List (BitVec 8)):D:= .agg SPl [.raw (it p.1),.agg (.ar 32 L8) (bs p.2)]
def fO(l:List (Int×List (BitVec 8))):D:= .agg uI [.agg (.ar 8 SPl) (l.map plD),.raw (.bool false),.raw (.bool false)]
theorem sB{l:List (Int×List (BitVec 8))}{h:Nat}(hh:h<l.length):cP [fO l] [0,0,h,0]=some (.raw (it (l[h]).1)):=by
 simp[cP,D.get,fO,hh,plD]
theorem YY{l:List (Int×List (BitVec 8))}{h:Nat}(hh:h<l.length):cP [fO l] [0,0,h,1]=some (.agg (.ar 32 L8) (bs (l[h]).2)):=by
 simp[cP,D.get,fO,hh,plD]
theorem Uv(l:List (Int×List (BitVec 8))):cP [fO l] [0,1]=some (.raw (.bool false)):=rfl
theorem IQ(l:List (Int×List (BitVec 8))):cP [fO l] [0,2]=some (.raw (.bool false)):=rfl
theorem GA{l:List (Int×List (BitVec 8))}{h:Nat}(hh:h<l.length)(p:Int×List (BitVec 8)):kg [fO l] [0,0,h] (plD p)=some [fO (l.set h p)]:=by
 simp[kg,D.set,fO,hh,List.map_set]
theorem Kv(C C1:be){rows:Rows}{r q h:Nat}{ex:Bool}{l:List (Int×List (BitVec 8))}(hr:live rows r=some ⟨uI,[fO l]⟩)(hq:live rows q=some ⟨LI,[.raw (it (h:Int))]⟩)(hl:l.length=8)(hh:h<8)
  (nw:C.fn 205=none)(Rx:C.fU 205=some (aR C1 2 cJ cI)){K:D→Rows→Prop}(hk:K (.raw (it 0)) rows):
  aR C 2 eW eV [.ptr uI r [0],.sl LI q [] 0 1 ex] rows K:=by
 refine ag rfl ?_
 unfold eV eW
 have hd:=IQ l
 have e0:((0:Int)≤(h:Int))=True:=eq_true (by omega)
 have e1:((h:Int)<8)=True:=eq_true (by omega)
 simp only[↓aj,ak,simprocAttr,aa,aX,hr,hd]
 refine bB 1 (fun i env rs=>has env [(17,.raw (it (i:Int))),(16,.raw (it 1)),(15,.sl LI q [] 0 1 ex),(0,.ptr uI r [0])]∧rs=rows) ?_ ?_ ⟨?_,rfl⟩
 ·rintro i hi env rs ⟨hv,rfl⟩ R hR
  simp only[has]at hv
  have hi0:i=0:=by omega
  subst hi0
  simp only[↓aj,ak,simprocAttr,aa,aX,hv,hr,hq,lQ,nw,Rx,cI,cJ,e0,e1,Int.natCast_zero]
  exact hR _ _ ⟨by simp only[has,↓aj,ak,simprocAttr,aa,hv],rfl⟩
 ·rintro env rs ⟨hv,rfl⟩ R
  simp only[has]at hv
  simp only[↓aj,ak,simprocAttr,aa,aX,hv]
  exact hk
 ·simp only[has,↓aj,ak,simprocAttr,aa]
def Kept(rows ab:Rows):Prop:=∀q row,live rows q=some row→live ab q=some row
theorem Kept.refl(rows:Rows):Kept rows rows:=fun _ _ h=>h
theorem Kept.app(rows L:Rows):Kept rows (rows++L):=fun _ _ h=>aA h L
theorem Kept.trans{a b c:Rows}(h:Kept a b)(h':Kept b c):Kept a c:=fun q row hq=>h' q row (h q row hq)
theorem Kept.set{a b:Rows}{q:Nat}{x:Option Row}(h:Kept a b)(hq:live a q=none):Kept a (b.set q x):=fun q' row hq'=>by
 have:q≠q':=fun e=>by rw[e,hq']at hq;cases hq
 rw[aE this];exact h q' row hq'
structure SlC (C1 C:be):Prop where
 nm:C.fn 196=none
 rm:C.fU 196=some (aR C1 2 eW eV)
 nw:C1.fn 205=none
 Rx:∃C0,C1.fU 205=some (aR C0 2 cJ cI)
theorem key_run(C C1:be)(hC:SlC C1 C){rows:Rows}{r h:Nat}{l:List (Int×List (BitVec 8))}(hr:live rows r=some ⟨uI,[fO l]⟩)(hl:l.length=8)(hh:h<8){K:D→Rows→Prop}
  (hk:∀ab,Kept rows ab→K (.cA [bif decide ((l.getD h (0,[])).1=0)then .raw (.slice none 0 0)else .sl L8 r [0,0,h,1] 0 32 true,.raw (it (bif decide ((l.getD h (0,[])).1=0)then 3 else 0))]) ab):
  aR C 2 iy ix [.ptr uI r [0],.raw (it (h:Int))] rows K:=by
 obtain⟨nm,rm,nw,C0,Rx⟩:=hC
 refine ag rfl ?_
 unfold ix iy
 have e0:((0:Int)≤(h:Int))=True:=eq_true (by omega)
 have e1:((h:Int)<8)=True:=eq_true (by omega)
 have sF:=fun L=>aA hr L
 have Dm:=sB (l:=l) (h:=h) (by omega)
 have hg:l.getD h (0,[])=l[h]'(by omega):=by simp[List.getD,(by omega:h<l.length)]
 rw[hg]at hk
 simp only[↓aj,ak,simprocAttr,aa,aX,nm,rm]
 refine Kv (q:=rows.length) C1 C0 (sF _) (by rw[b6];rfl) hl hh nw Rx ?_
 simp only[↓aj,ak,simprocAttr,aa,aX,sF,Dm,e0,e1]
 by_cases hz:(l[h]'(by omega)).1=0
 ·have I5:((l[h]'(by omega)).1=0)=True:=eq_true hz
  have:=hk _ (Kept.app rows [some ⟨LI,[.raw (it (h:Int))]⟩])
  rw[decide_eq_true hz]at this
  simp only[↓aj,ak,simprocAttr,aa,aX,I5,decide_true]
  exact this
 ·have I5:((l[h]'(by omega)).1=0)=False:=eq_false hz
  have:=hk _ (Kept.app rows [some ⟨LI,[.raw (it (h:Int))]⟩])
  rw[decide_eq_false hz]at this
  simp only[↓aj,ak,simprocAttr,aa,aX,I5,decide_false,e0,e1]
  exact this
end iC
end Go.Am
namespace Go.Am
set_option linter.unusedSimpArgs false
set_option linter.unusedVariables false
attribute [local congr] cd bt cg bu bw bO bg bx bz bP a7 bQ bA b9
namespace iC
open Go.Am.F
set_option maxRecDepth 10000
def Fr(S:List Nat)(rows ab:Rows):Prop:=∀q row,live rows q=some row→q∉S→live ab q=some row
theorem Fr.refl(S:List Nat)(rows:Rows):Fr S rows rows:=fun _ _ h _=>h
theorem Fr.app(S:List Nat)(rows L:Rows):Fr S rows (rows++L):=fun _ _ h _=>bJ h
theorem Fr.trans{S:List Nat}{a b c:Rows}(h:Fr S a b)(h':Fr S b c):Fr S a c:=fun q row hq hn=>h' q row (h q row hq hn) hn
theorem Fr.mono{S S':List Nat}{a b:Rows}(h:Fr S a b)(hs:∀x∈S,x∈S'):Fr S' a b:=fun q row hq hn=>h q row hq fun h=>hn (hs _ h)
theorem Fr.set{S:List Nat}{a b:Rows}(h:Fr S a b){r:Nat}(hr:r∈S)(x:Option Row):Fr S a (b.set r x):=fun q row hq hn=>by
 rw[aE fun e=>hn (by rw[←e];exact hr)];exact h q row hq hn
theorem Fr.of{S:List Nat}{a b:Rows}(h:eJ a b):Fr S a b:=fun q row hq _=>h q row hq
theorem fH{rows:Rows}{a b:Nat}{s t:Sh}{l l':List D}(h:live rows a=some ⟨s,l⟩)(h':live rows b=some ⟨t,l'⟩)(hs:s≠t):a≠b:=fun e=>by
 rw[e,h']at h
 injection h with h
 injection h with h _
 exact hs h.symm
theorem wL{rows:Rows}{b:Nat}{y:Row}(hb:live rows b=some y):(∀l X,(rows++l).set b X=rows.set b X++l)∧(∀X Y l,(rows.set b X++l).set b Y=rows.set b Y++l)∧(∀X l,live (rows.set b (some X)++l) b=some X)∧(∀X l,live (rows.set b X++l) rows.length=live l 0)∧
  (∀X l k,live (rows.set b X++l) (rows.length+k)=live l k)∧(∀X l Y,(rows.set b X++l).set rows.length Y=rows.set b X++l.set 0 Y)∧∀X l k Y,(rows.set b X++l).set (rows.length+k) Y=rows.set b X++l.set k Y:=by
 have hl:=bn hb
 have h2:∀X,(rows.set b X).length=rows.length:=fun X=>List.length_set ..
 refine⟨fun l X=>List.set_append_left _ _ hl,fun X Y l=>?_,fun X l=>aA (aG hb) l,fun X l=>?_,fun X l k=>?_,fun X l Y=>?_,fun X l k Y=>?_⟩
 ·rw[List.set_append_left _ _ (by rw[h2];exact hl),List.set_set]
 ·have:=b6 (rows.set b X) l;rwa [h2]at this
 ·have:=cD (rows.set b X) l k;rwa [h2]at this
 ·have:=Mg (rows.set b X) l Y;rwa [h2]at this
 ·have:=Mh (rows.set b X) l k Y;rwa [h2]at this
theorem Ry{rows:Rows}{b r:Nat}{y:Row}(h:live rows r=some y)(hn:r≠b)(X:Option Row)(l:Rows):live (rows.set b X++l) r=some y:=by
 refine aA ?_ l
 rw[aE (Ne.symm hn)];exact h
abbrev jM:Sh:= .cons LI (.cons LI (.cons SM (.cons LB (.cons LI (.cons LI (.cons LI (.cons LI (.cons .ref (.cons (.ar 2 SVw) (.cons .ref (.cons LI (.cons LI .nil))))))))))))
structure Bt where
 ph:Int
 sl:Int
 kf:xQ
 tr:Bool
 e:Int
 left:Int
 iI:Int
 least:Int
 bH:D
 v0:D
 v1:D
 ops:D
 at_:Int
 DQ:Int
def jF(b:Bt):D:= .agg jM [.raw (it b.ph),.raw (it b.sl),cO b.kf,.raw (.bool b.tr),.raw (it b.e),.raw (it b.left),.raw (it b.iI),.raw (it b.least),b.bH,.agg (.ar 2 SVw) [b.v0,b.v1],b.ops,.raw (it b.at_),.raw (it b.DQ)]
abbrev cz(rows:Rows)(b:Nat)(B:Bt):Prop:=live rows b=some ⟨jM,[jF B]⟩
abbrev Rz:Sh:= .cons (.ar 32 dk) (.cons dk (.cons (.cons dk (.cons dk (.cons dk (.cons dk (.cons dk (.cons dk (.cons dk (.cons dk .nil)))))))) (.cons LB .nil)))
abbrev jb:Sh:= .cons .ref (.cons .ref (.cons Rz (.cons .ref .nil)))
abbrev SMea:Sh:= .cons (.ar 4 (.ar 32 L8)) .nil
abbrev ND:Sh:= .cons .ref (.cons SMea (.cons (.ar 32 L8) (.cons LI .nil)))
structure Ly where
 M:Nat
 s:Nat
 e:Nat
 sl:Nat
 f:Nat
 m:Nat
 q:Nat
 a:Nat
 w:Nat
def NE(L:Ly)(core p:D):D:= .agg jb [.ptr lC L.s [0],.ptr ND L.e [0],core,p]
structure wM where
 st:Int
 gk:List (BitVec 8)
 x:List (BitVec 8)
 c:pU
structure fB (rows:Rows) (L:Ly) (S:wM):Prop where
 ma:∃core p,live rows L.M=some ⟨jb,[NE L core p]⟩
 sp:∃pt,live rows L.s=some ⟨lC,[uH S.st S.gk pt L.f L.q]⟩
 rl:S.gk.length=8192
 fl:fG rows L.f L.m S.x
 xl:S.x.length=10240
 ch:sv rows L.q L.a L.w S.c
def Ly.ids(L:Ly):List Nat:=[L.M,L.s,L.f,L.m,L.q,L.a,L.w]
theorem fB.keep{rows ab:Rows}{L:Ly}{S:wM}(h:fB rows L S)(f:∀q row,live rows q=some row→q∈L.ids→live ab q=some row):fB ab L S:=by
 obtain⟨⟨co,p,h1⟩,⟨pt,h2⟩,h3,⟨⟨ex,h4⟩,h5⟩,h6,h7⟩:=h
 exact⟨⟨co,p,f _ _ h1 (by simp[Ly.ids])⟩,⟨pt,f _ _ h2 (by simp[Ly.ids])⟩,h3,⟨⟨ex,f _ _ h4 (by simp[Ly.ids])⟩,f _ _ h5 (by simp[Ly.ids])⟩,h6,h7.keep fun p row hp hq=>f p row hp (by rcases hq with h|h|h<;>simp[Ly.ids,h])⟩
theorem fB.fr{rows ab:Rows}{L:Ly}{S:wM}{b:Nat}{B:Bt}(h:fB rows L S)(hb:cz rows b B)(f:Fr [b] rows ab):fB ab L S:=by
 refine h.keep fun q row hq hm=>f q row hq fun hn=>?_
 have e:q=b:=by simpa using hn
 subst e
 obtain⟨⟨co,p,h1⟩,⟨pt,h2⟩,h3,⟨⟨ex,h4⟩,h5⟩,h6,h7⟩:=h
 have h8:=h7.ch
 have h9:=h7.ar
 have h10:=h7.dat
 simp only[Ly.ids,List.mem_cons,List.not_mem_nil,or_false]at hm
 rcases hm with rfl|rfl|rfl|rfl|rfl|rfl|rfl<;>simp_all
theorem qV(C:be){rows:Rows}{b:Nat}{B:Bt}(hb:cz rows b B)(p t:Int){K:D→Rows→Prop}(hk:K (.cA []) (rows.set b (some ⟨jM,[jF {B with ph:=p,left:=t}]⟩))):
  aR C 3 iu ir [.ptr jM b [0],.raw (it p),.raw (it t)] rows K:=by
 refine ag rfl ?_
 unfold ir iu
 simp only[cz,jF]at hb
 have h2:=fun x=>aG (y:=x) hb
 simp only[↓aj,ak,simprocAttr,aa,hb,h2,List.set_set]
 exact hk
theorem YZ(C C1:be)(n0:C.fn 172=none)(r0:C.fU 172=some (aR C1 3 iu ir)){rows:Rows}{b:Nat}{B:Bt}(hb:cz rows b B)(e:Int){K:D→Rows→Prop}(hk:K (.raw (.bool true)) (rows.set b (some ⟨jM,[jF {B with ph:=9,left:=0,e:=e}]⟩))):
  aR C 2 fS fR [.ptr jM b [0],.raw (it e)] rows K:=by
 refine ag rfl ?_
 unfold fR fS
 simp only[cz,jF]at hb
 simp only[↓aj,ak,simprocAttr,aa,hb,n0,r0]
 refine qV C1 (B:={B with e:=e}) (aG hb) 9 0 ?_
 simp only[↓aj,ak,simprocAttr,aa,List.set_set]
 exact hk
structure ToC (C:be):Prop where
 n:C.fn 172=none
 r:∃C1,C.fU 172=some (aR C1 3 iu ir)
structure HaC (C:be):Prop where
 n:C.fn 173=none
 r:∃C1,C.fU 173=some (aR C1 2 fS fR)∧ToC C1
theorem BZ(C1:be)(H:ToC C1){rows:Rows}{b:Nat}{B:Bt}(hb:cz rows b B)(e:Int){K:D→Rows→Prop}(hk:K (.raw (.bool true)) (rows.set b (some ⟨jM,[jF {B with ph:=9,left:=0,e:=e}]⟩))):
  aR C1 2 fS fR [.ptr jM b [0],.raw (it e)] rows K:=by
 obtain⟨C2,r⟩:=H.r
 exact YZ C1 C2 H.n r hb e hk
structure StaC (C:be):Prop where
 to:ToC C
 ha:HaC C
 li:C.fn 71=some Iy
 ct:C.fn 26=some XI
 ke:C.fn 69=some QV
 fi:C.fn 118=some BX
 se:C.fn 70=some Us
theorem Y0(l:Int):(pL l eE 0 0).i=if l=4∨l<1∨3<l then-1 else 0:=by
 unfold pL
 by_cases h1:l=4
 ·simp[h1]
 ·by_cases h2:l<1∨3<l
  ·simp[h1,h2]
  ·rw[if_neg h1,if_neg h2,if_neg (by omega)]
   rfl
theorem Uw(C:be)(H:StaC C){rows:Rows}{L:Ly}{S:wM}{b:Nat}{B:Bt}(hM:fB rows L S)(hb:cz rows b B){K:D→Rows→Prop}
  (h0:1≤dH S.c∧dH S.c≤3→∀ab p,Fr [b] rows ab→rows.length≤p→live ab p=some ⟨L8,bs (jE S.c)⟩→cz ab b {B with ph:=1,left:=17,iI:=dH S.c,least:=iS S.c,bH:= .sl L8 p [] 0 56 false}→K (.raw (.bool false)) ab)
  (h1:¬(1≤dH S.c∧dH S.c≤3)→∀ab d,Fr [b] rows ab→cz ab b {B with ph:=9,left:=0,e:=(pL (dH S.c) eE 0 0).e,iI:=dH S.c,least:=iS S.c,bH:=d}→K (.raw (.bool true)) ab):
  aR C 2 eB eA [.ptr jM b [0],.ptr jb L.M [0]] rows K:=by
 refine ag rfl ?_
 unfold eA eB
 obtain⟨⟨co,p,nY⟩,⟨pt,hsp⟩,Ax,lz,yR,CY⟩:=hM
 have Ow:=bn hb
 have kL:=fun k=>XK CY.rd CY.len k
 have kC:=fun k=>kCtr CY.rd CY.len k
 have kK:=fun k=>kKeyC CY.rd CY.len k
 simp only[NE]at nY
 simp only[uH]at hsp
 have pR:=fun L'=>aA hb L'
 simp only[cz,jF]at hb pR
 have hp:=wL hb
 have hc:bK eE=true:=rfl
 have kF:=fun rows k=>YK rows k
 have kS:=fun rows k=>kSel rows k (dH S.c) eE hc 0 0
 have hz:D.agg SJ [.raw (u32 0#32),.raw (it 0),.raw (it 0),.raw (it 0)]=jD ⟨0#32,0,0,0⟩:=rfl
 have cf:∀c,(KR c).fits SCo=true:=fun _=>rfl
 have g0:∀c,(KR c).get [0]=some (.raw (it c.i)):=fun _=>rfl
 have g4:∀c,(KR c).get [4]=some (.raw (it c.e)):=fun _=>rfl
 have hsi:=Y0 (dH S.c)
 simp only[hz]
 simp only[↓aj,ak,simprocAttr,aa,aX,nY,hsp,hb,pR,hp,H.li,H.ct,H.ke,kL,kC,kK,H.fi,kF,H.se,kS,cf,g0,g4,List.set_set]
 have hF:∀X l,Fr [b] rows (rows.set b X++l):=fun X l=>((Fr.refl _ _).set (by simp) _).trans (Fr.app _ _ _)
 have Hu:∀X l,live (rows.set b (some X)++l) b=some X:=hp.2.2.1
 by_cases c:1≤dH S.c∧dH S.c≤3
 ·rw[if_neg (by omega)]at hsi
  obtain⟨C1,r1⟩:=H.to.r
  simp only[↓aj,ak,simprocAttr,aa,hsi,H.to.n,r1]
  refine qV C1 (B:={B with iI:=dH S.c,least:=iS S.c,bH:= .sl L8 rows.length [] 0 56 false}) (Hu _ _) 1 17 ?_
  simp only[↓aj,ak,simprocAttr,aa,aX,hp]
  exact h0 c _ _ (hF _ _) (Nat.le_refl _) (by rw[hp.2.2.2.1];rfl) (Hu _ _)
 ·rw[if_pos (by omega)]at hsi
  obtain⟨C1,r1,hT⟩:=H.ha.r
  simp only[↓aj,ak,simprocAttr,aa,aX,hp,hsi,g4,H.ha.n,r1]
  refine BZ C1 hT (B:={B with iI:=dH S.c,least:=iS S.c,bH:= .sl L8 rows.length [] 0 56 false}) (Hu _ _) _ ?_
  simp only[↓aj,ak,simprocAttr,aa,aX,hp]
  exact h1 c _ _ (hF _ _) (Hu _ _)
end iC
end Go.Am
namespace Go.Am
set_option linter.unusedVariables false
set_option linter.unusedSimpArgs false
variable {C:be} {P:Program} {n:Nat}
def PK(C:be)(base:Nat)(env:Env):mi→Prop
 | .store s p _=>∃r q,ev C env p=some (.ptr s r q)∧base≤r
 | _=>True
def uj(C:be)(base:Nat):List aT→Env→Rows→(Env→Rows→Prop)→Prop
 |[],env,rows,K=>K env rows
 |⟨dst,o,none⟩::l,env,rows,K=>PK C base env o∧df C env rows o fun d rows=>uj C base l (put dst d env) rows K
 |⟨dst,o,some (g,want)⟩::l,env,rows,K=>∃d,look env g=some d∧match d with
  | .raw (.bool t)=>(t=want→PK C base env o∧df C env rows o fun d rows=>uj C base l (put dst d env) rows K)∧(t=!want→uj C base l (put dst (.cA []) env) rows K)
  | .cA []=>uj C base l (put dst (.cA []) env) rows K
  | _=>False
def awQ(C:be)(base:Nat):aB→(fa→Env→Rows→Prop)→Env→Rows→Prop
 | .seq a b,Q,env,rows=>awQ C base a (fun e env rows=>match e with
  | .normal=>awQ C base b Q env rows
  |e=>Q e env rows) env rows
 | .region false al,Q,env,rows=>uj C base al env rows (Q .normal)
 | .ret,Q,env,rows=>Q .ret env rows
 | .skip,Q,env,rows=>Q .normal env rows
 | .cond c a b,Q,env,rows=>∃t,ev C env c=some (.raw (.bool t))∧(t=true→awQ C base a Q env rows)∧(t=false→awQ C base b Q env rows)
 | _,_,_,_=>False
def isSt:Op→Bool
 | .store _ _ _=>true
 | _=>false
def okQ:List Oper→List aT→Bool
 |o::l,x::al=>((ko x.op&&fJ o.op)||isSt o.op)&&okQ l al
 |[],[]=>true
 | _,_=>false
def AP(P:Program)(n:Nat):Code→Bool
 | .seq a b=>AP P n a&&AP P n b
 | .region _ ops false=>match uN P n ops.toList ops.toList with
  |some al=>okQ ops.toList al
  |none=>false
 | .cond _ a b=>AP P n a&&AP P n b
 | .ret=>true
 | .skip=>true
 | _=>false
structure Nd (jj:Pl) (T0:Nat→Prop) (dG:Rows) (w0:World) (ρ:Pl) (T:Nat→Prop) (rows:Rows) (w:World):Prop where
 step:Step jj T0 dG w0 ρ T rows w
 qh:QH jj dG w0 w
 tg:∀b,T b→T0 b∨w0.heap.size≤b
 fr:∀r row L,live rows r=some row→ρ r=some L→dG.length≤r→w0.heap.size≤L.b
theorem qK.trans{w0 w w':World}{b:Nat}(h:qK w0 w b)(h':qK w w' b):qK w0 w' b:=by
 obtain⟨cur,t,fr,fr1,h1,h2,h3⟩:=h
 obtain⟨ov,t',fr',fr2,g1,g2,g3⟩:=h'
 rw[h2]at g1
 cases g1
 exact⟨cur,t,fr,fr2,h1,g2,g3⟩
theorem QH.trans{jj ρ:Pl}{T0 T:Nat→Prop}{dG rows:Rows}{w0 w w':World}(h0:QH jj dG w0 w)(hst:Step jj T0 dG w0 ρ T rows w)(h:QH ρ rows w w'):QH jj dG w0 w':=by
 intro b hb
 rcases h b (Nat.lt_of_lt_of_le hb hst.size)with e|⟨f,r,row,L,h1,h2,h3⟩
 ·rcases h0 b hb with e0|⟨⟨cur,t,fr,fr',q1,q2,q3⟩,m⟩
  ·exact .inl (e.trans e0)
  ·exact .inr ⟨⟨cur,t,fr,fr',q1,by rw[e];exact q2,q3⟩,m⟩
 ·have m:∃r row L,live dG r=some row∧jj r=some L∧L.b=b:=by
   rcases hst.fresh r row L h1 h2 with⟨r0,oR,L0,g1,g2,g3⟩|g
   ·exact⟨r0,oR,L0,g1,g2,g3.trans h3⟩
   ·omega
  rcases h0 b hb with e0|⟨f0,_⟩
  ·obtain⟨cur,t,fr,fr',q1,q2,q3⟩:=f
   exact .inr ⟨⟨cur,t,fr,fr',by rw[←e0];exact q1,q2,q3⟩,m⟩
  ·exact .inr ⟨f0.trans f,m⟩
theorem Nd.quiet{jj ρ ρ':Pl}{T0 T T':Nat→Prop}{dG rows new:Rows}{w0 w w':World}(h:Nd jj T0 dG w0 ρ T rows w)(hst:Step ρ T rows w ρ' T' (rows++new) w')(hr:iV ρ' (rows++new) w' T')
  (hq:QH ρ rows w w'∧∀b,T' b→T b∨w.heap.size≤b):Nd jj T0 dG w0 ρ' T' (rows++new) w':=by
 refine⟨h.step.trans hst,h.qh.trans h.step hq.1,fun b hb=>?_,fun r row L h1 h2 h3=>?_⟩
 ·rcases hq.2 b hb with g|g
  ·exact h.tg b g
  ·have:=h.step.size;omega
 ·by_cases hlt:r<rows.length
  ·have e1:live rows r=some row:=by rw[←h1];exact(fj rfl hlt).symm
   have e2:ρ r=some L:=by rw[←h2];exact(hst.same r hlt).symm
   exact h.fr r row L e1 e2 h3
  ·rcases hst.fresh r row L h1 h2 with⟨r0,oR,L0,g1,g2,g3⟩|g
   ·exfalso
    have l0:=bn g1
    have g1':live (rows++new) r0=some oR:=by rw[fj rfl l0];exact g1
    exact hr.jg r r0 row oR L L0 h1 g1' h2 (hst.pl _ _ g2) (by omega) g3.symm
   ·have:=h.step.size;omega
theorem PL (hC : aI C P) (hN : ∀ f, C.fU f = none) (ops : Array Oper) {Q' : Exit → Act → World → Prop} {jj : Pl} {T0 : Nat → Prop} {dG : Rows} {w0 : World} :
  ∀(l:List Oper) (i:Nat),ops.toList.drop i=l→∀(al:List aT),uN P n ops.toList l=some al→okQ l al=true→
  ∀(env:Env) (rows:Rows) (ρ:Pl) (T:Nat→Prop) (a:Act) (w:World) (K:Env→Rows→Prop),uj C dG.length al env rows K→dO n ρ T env rows a w→dM C w T→Nd jj T0 dG w0 ρ T rows w→
  (∀env' ab ρ' T' a' w',K env' ab→dO n ρ' T' env' ab a' w'→dM C w' T'→Nd jj T0 dG w0 ρ' T' ab w'→Q' .normal a' w')→wpOps P ops Q' (List.range' i l.length) a w:=by
 intro l
 induction l with
 |nil=>
  intro i _ al hc _ env rows ρ T a w K h hs hg hI hK
  simp[uN]at hc
  subst hc
  exact hK env rows ρ T a w h hs hg hI
 | cons o l ih =>
  intro i hi al hc hok env rows ρ T a w K h hs hg hI hK
  obtain⟨ao,g,r,h0,h1,h2,h3,rfl⟩:=Be hc
  have ho:ops[i]?=some o:=by
   have:=congrArg (fun q=>q[0]?) hi
   simpa using this
  have HT:ops.toList.drop (i+1)=l:=by
   have:=congrArg List.tail hi
   simpa using this
  have hd:=wq h0
  simp only[okQ,Bool.and_eq_true]at hok
  obtain⟨hok1,hok2⟩:=hok
  simp only[List.length_cons,List.range'_succ,wpOps,ho]
  have go : ∀ (htg : PK C dG.length env ao) (hop : df C env rows ao (fun d rows => uj C dG.length r (put o.dst d env) rows K)), o.wp P a w (wpOps P ops Q' (List.range' (i + 1) l.length)) Q' := by
   intro htg hop
   by_cases hst:isSt o.op=true
   ·cases hopc:o.op with
    | store t x y =>
     have hG:rj C ρ w T:=fun g d hd=>(hg g d hd).mono (by intro r L h;cases h) (fun _ _=>rfl) (fun _ h=>h)
     unfold ZV at h1
     split at h1
     case h_2=>cases h1;exact hop.elim
     rename_i a0 hc0
     cases h1
     rw[hopc]at hc0
     obtain⟨s,e1,hc0⟩:=aD hc0
     obtain⟨x',e2,hc0⟩:=aD hc0
     obtain⟨y',e3,hc0⟩:=aD hc0
     cases hc0
     obtain⟨d,ab,v,w',k1,k2,k3,k4,k5,rr,pp,L,k6,k7,k8,xx,k9⟩:=HG hs hG hopc e1 e2 e3 hop
     obtain⟨r1,q1,t1,t2⟩:=htg
     rw[k6]at t1
     cases t1
     have Lu:Nd jj T0 dG w0 ρ T ab w':=by
      have qc:∃row,live rows rr=some row:=by
       obtain⟨d0,he,hk⟩:=ah hop
       rw[k6]at he
       cases he
       obtain⟨d2,_,hk1⟩:=ah hk
       obtain⟨row,hl,_⟩:=ah hk1.2.2
       exact⟨row,hl⟩
      obtain⟨row,qc⟩:=qc
      have hLb:=hI.fr rr row L qc k7 t2
      have Xd:=hI.step.trans k3
      refine⟨Xd,fun b hb=>?_,hI.tg,fun r2 nL L2 g1 g2 g3=>?_⟩
      ·have e:w'.heap[b]?=w.heap[b]?:=k8 b (by omega)
       rcases hI.qh b hb with q|⟨⟨cur,t',fr,fr',q1,q2,q3⟩,m⟩
       ·exact .inl (e.trans q)
       ·exact .inr ⟨⟨cur,t',fr,fr',q1,by rw[e];exact q2,q3⟩,m⟩
      ·by_cases e:r2=rr
       ·subst e
        rw[k7]at g2
        cases g2
        exact hLb
       ·have g1':live rows r2=some nL:=by
         rw[k9]at g1
         unfold live at g1⊢
         rwa [List.getElem?_set_ne (Ne.symm e)]at g1
        exact hI.fr r2 nL L2 g1' g2 g3
     unfold Oper.wp
     have hcont:=ih (i+1) HT r h3 hok2 (put o.dst d env) ab ρ T (a.put o.dst v) w' K k1 (k2.put k4 hd) (hg.step hs k3) Lu hK
     rcases k5 with k5|⟨k5,rfl⟩
     ·rw[k5];exact hcont
     ·rw[k5];exact hcont
    | _=>rw[hopc]at hst;cases hst
   ·have hqq:ko ao=true∧fJ o.op=true:=by
     rcases Bool.or_eq_true _ _▸hok1 with h5|h5
     ·simpa using h5
     ·exact absurd h5 hst
    obtain⟨d,new,f1,f2⟩:=DZ hN ao hqq.1 _ hop
    refine uY hs hg hC h1 f2 ?_
    rintro d2 ab ρ' T' v w' ⟨rfl,rfl⟩ fD cM hv hq
    have Lu:=hI.quiet cM fD.bD (hq hN hqq.2)
    exact ih (i+1) HT r h3 hok2 _ _ ρ' T' _ w' K f1 (fD.put hv hd) (hg.step hs cM) Lu hK
  have skip:∀(h:uj C dG.length r (put o.dst (.cA []) env) rows K),wpOps P ops Q' (List.range' (i+1) l.length) (a.put o.dst undef) w:=by
   intro h
   have hv:VR ρ w T (.cA []) undef:=⟨#[],rfl,.nil⟩
   exact ih (i+1) HT r h3 hok2 _ rows ρ T _ w K h (hs.put hv hd) hg hI hK
  cases hgd:o.guard with
  |none=>
   rw[hgd]at h2
   simp[kn]at h2
   subst h2
   have hw:Region.wanted o (yielded ops a.tmps)=true:=by simp[Region.wanted,hgd]
   rw[if_pos hw]
   exact .inl (go h.1 h.2)
  | some jw =>
   obtain⟨j,want⟩:=jw
   rw[hgd]at h2
   simp only[kn]at h2
   split at h2
   ·rename_i oj hj
    split at h2
    ·rename_i t ht
     cases h2
     have mr:ops[j]?=some oj:=by simpa using hj
     obtain⟨d,EC,h⟩:=h
     have hv:=hs.env t d EC
     split at h
     ·rename_i b
      have hb:=VR.ofRaw hv
      have wO:a.tmps[t]?=some (.bool b):=by
       unfold Array.getD at hb
       split at hb
       ·rename_i hlt
        rw[Array.getElem?_eq_getElem hlt]
        simpa using hb
       ·cases hb
      have hy:yielded ops a.tmps j=some b:=by simp[yielded,mr,ht,wO]
      have hw:Region.wanted o (yielded ops a.tmps)=(b==want):=by
       simp only[Region.wanted,hgd,hy]
       cases b<;>cases want<;>rfl
      rw[hw]
      by_cases Ss:b=want
      ·subst Ss
       rw[if_pos (by simp)]
       exact .inl (go (h.1 rfl).1 (h.1 rfl).2)
      ·rw[if_neg (by simpa using Ss)]
       exact skip (h.2 (by cases b<;>cases want<;>simp_all))
     ·obtain⟨vs,hvs,bY⟩:=hv
      have N2:vs=#[]:=by
       have:=bY.len
       apply Array.ext'
       exact List.eq_nil_of_length_eq_zero (by simpa using this.symm)
      subst N2
      have hy:yielded ops a.tmps j=none:=by
       simp only[yielded,mr,Option.bind_some,ht]
       unfold Array.getD at hvs
       split at hvs
       ·rename_i hlt
        rw[Array.getElem?_eq_getElem hlt]
        have:a.tmps[t]= .tuple #[]:=by simpa using hvs
        rw[this]
       ·rename_i hlt
        rw[Array.getElem?_eq_none (by omega)]
      have hw:Region.wanted o (yielded ops a.tmps)=false:=by
       simp only[Region.wanted,hgd,hy]
       rfl
      rw[if_neg (by rw[hw];simp)]
      exact skip h
     ·exact h.elim
    ·cases h2
   ·cases h2
theorem Nf(hC:aI C P)(hN:∀f,C.fU f=none){jj:Pl}{T0:Nat→Prop}{dG:Rows}{w0:World}:∀(c:Code) (ac:aB),comp P n c=some ac→AP P n c=true→
  ∀(Q:fa→Env→Rows→Prop) (Q':Exit→Act→World→Prop) (env:Env) (rows:Rows) (ρ:Pl) (T:Nat→Prop) (a:Act) (w:World),awQ C dG.length ac Q env rows→dO n ρ T env rows a w→dM C w T→Nd jj T0 dG w0 ρ T rows w→
  (∀e env' ab ρ' T' a' w',Q e env' ab→dO n ρ' T' env' ab a' w'→dM C w' T'→Nd jj T0 dG w0 ρ' T' ab w'→Q' (N3 e) a' w')→c.wp P Q' a w:=by
 intro c
 induction c with
 |seq x y ihx ihy=>
  intro ac hc hq Q Q' env rows ρ T a w h hs hg hI hp
  obtain⟨ax,h1,hc⟩:=aD hc
  obtain⟨ay,h2,hc⟩:=aD hc
  cases hc
  simp only[AP,Bool.and_eq_true]at hq
  refine wp_seq (ihx ax h1 hq.1 _ _ env rows ρ T a w h hs hg hI ?_)
  intro e env' ab ρ' T' a' w' hk fD NA Lu
  cases e with
  |normal=>exact ihy ay h2 hq.2 Q Q' env' ab ρ' T' a' w' hk fD NA Lu hp
  |exit i=>exact hp (.exit i) env' ab ρ' T' a' w' hk fD NA Lu
  |ret=>exact hp .ret env' ab ρ' T' a' w' hk fD NA Lu
 | region id ops draw =>
  intro ac hc hq Q Q' env rows ρ T a w h hs hg hI hp
  cases draw with
  |true=>cases hq
  | false =>
   simp only[comp]at hc
   simp only[AP]at hq
   split at hc
   ·rename_i al h1
    rw[h1]at hq
    simp only[Bool.not_false,cond_true]at hc
    cases hc
    refine wp_region ?_
    have:=PL hC hN ops (Q':=Q') ops.toList 0 (by simp) al h1 hq env rows ρ T a w (Q .normal) h hs hg hI (fun env' ab ρ' T' a' w' hk fD NA Lu=>hp .normal env' ab ρ' T' a' w' hk fD NA Lu)
    rw[List.range_eq_range']
    simpa using this
   ·rename_i h1
    rw[h1]at hq
    cases hq
 |cond x p q ihp ihq=>
  intro ac hc hq Q Q' env rows ρ T a w h hs hg hI hp
  obtain⟨x',h1,hc⟩:=aD hc
  obtain⟨ap,h2,hc⟩:=aD hc
  obtain⟨aq,h3,hc⟩:=aD hc
  cases hc
  simp only[AP,Bool.and_eq_true]at hq
  obtain⟨t,he,hk⟩:=h
  have hG:rj C ρ w T:=fun g d hd=>(hg g d hd).mono (by intro r L h;cases h) (fun _ _=>rfl) (fun _ h=>h)
  refine wp_cond_split (eh h1 he hs hG) (fun ht=>?_) (fun ht=>?_)
  ·exact ihp ap h2 hq.1 Q Q' env rows ρ T a w (hk.1 ht) hs hg hI hp
  ·exact ihq aq h3 hq.2 Q Q' env rows ρ T a w (hk.2 ht) hs hg hI hp
 |skip=>
  intro ac hc hq Q Q' env rows ρ T a w h hs hg hI hp
  simp[comp]at hc;subst hc
  exact wp_skip (hp .normal env rows ρ T a w h hs hg hI)
 |ret=>
  intro ac hc hq Q Q' env rows ρ T a w h hs hg hI hp
  simp[comp]at hc;subst hc
  exact wp_ret (hp .ret env rows ρ T a w h hs hg hI)
 | _=>intro ac hc hq;cases hq
def afunQ(C:be)(np:Nat)(jt:List aU)(ac:aB):jx:=fun ds rows K=>
 ds.length=np∧awQ C rows.length ac (fun e env ab=>(e= .normal∨e= .ret)∧bd (yf env ab jt) fun l=>K (u9 l) ab) (aa 0 ds) rows
def bodyQ(P:Program)(fn:Func):Bool:=match fn.body with
 |some c=>AP P fn.ntmps c
 |none=>false
theorem Ux(hC:aI C P)(hN:∀f,C.fU f=none){f:FuncId}{fn:Func}{ac:aB}{jt:List aU}{np:Nat}(hf:P.funcs[f]?=some fn)(hb:o2 fn.body (comp P fn.ntmps)=some ac)(hr:E5 P fn.results.toList=some jt)(hnp:np≤fn.ntmps)(hq:bodyQ P fn=true)
  {q:Eo}(h:∀ds rows d new,q ds rows=some (d,new)→afunQ C np jt ac ds rows fun d' ab=>d'=d∧ab=rows++new):Jc C.aZ P f (KW q):=by
 intro ds rows K hK ρ w T args hrows kq wN hargs Ln
 obtain⟨⟨d,new⟩,hqd,hK⟩:=ah hK
 obtain⟨hlen,h⟩:=h ds rows d new hqd
 obtain⟨c,hbody,Wk⟩:=aD hb
 unfold bodyQ at hq
 rw[hbody]at hq
 refine calls_of_wp hf hbody ?_
 refine Nf hC hN c ac Wk hq _ _ _ rows ρ T _ w h (LK hnp hlen hrows kq wN hargs) Ln ⟨Step.refl _ _ _ _,fun _ _=> .inl rfl,fun _ h=> .inl h,fun r row L h1 _ h3=>absurd (bn h1) (by omega)⟩ ?_
 intro e env' ab ρ' T' a' w' ⟨he,hk⟩ fD NA hI
 obtain⟨l,hl,e1,rfl⟩:=ah hk
 obtain⟨v,Z2,hv2⟩:=Wj hr fD hl
 rw[e1]at hv2
 have LM:BackQ K ρ T rows w (.returned v) w':=⟨v,d,_,ρ',T',rfl,hK,fD.bD,fD.ur,fD.uo,hI.step,hv2,hI.qh,hI.tg⟩
 rcases he with rfl|rfl
 ·exact⟨fD.defers,v,Z2,LM⟩
 ·exact⟨fD.defers,v,Z2,LM⟩
end Go.Am
namespace Go.Am
set_option linter.unusedSimpArgs false
set_option linter.unusedVariables false
attribute [local congr] cd bt cg bu bw bO bg bx bz bP a7 bQ bA b9
namespace iC
open Go.Am.F
set_option maxRecDepth 10000
def Db(K:FV)(s:JS)(n:Nat):Rows:=[some ⟨SJ,[jD (fg K s)]⟩,some ⟨SJ,[jD (dJ K).1]⟩]++
 bif j4 K s then[some ⟨L8,bs (cU (fg K s))⟩,some ⟨AL,(jL K s (n+2)).map JO.D⟩]else[]
def Dc(K:FV)(s:JS)(n:Nat):D:=bif j4 K s then .sl AL (n+3) [] 0 2 true else .raw (.slice none 0 0)
theorem Y1{rows:Rows}{r m:Nat}{x:List (BitVec 8)}(h:fG rows r m x)(h1:8704≤x.length)(h2:x.length≤1048576)(k:D→Rows→Prop):aJ yN rows k [.ptr SF r [0]]=k (.cA [jD (dJ (some (x,false))).1,.raw (it (dJ (some (x,false))).2)]) rows:=by
 obtain⟨e,hf⟩:=h.to
 rw[kReadJ hf h2,vW x e h1,vW x false h1]
theorem fG.uni{rows:Rows}{f m m':Nat}{x x':List (BitVec 8)}(h:fG rows f m x)(h':fG rows f m' x'):x=x':=by
 obtain⟨⟨e,a⟩,b⟩:=h
 obtain⟨⟨e',a'⟩,b'⟩:=h'
 rw[a]at a'
 simp only[Option.some.injEq,Row.mk.injEq,List.cons.injEq,D.agg.injEq,D.sl.injEq,true_and,and_true]at a'
 obtain⟨rfl,_⟩:=a'
 rw[b]at b'
 injection b' with b'
 injection b' with _ b'
 exact tu b'
def PM(rows:Rows)(ds:List D)(z:List (BitVec 8)×JS):Prop:=∃f m,ds=[.ptr SF f [0],jD z.2]∧fG rows f m z.1∧8704≤z.1.length∧z.1.length≤1048576
open Classical in
noncomputable def De:Eo:=fun ds rows=>if h:∃z,PM rows ds z then some (Dc (some (h.choose.1,false)) h.choose.2 rows.length,Db (some (h.choose.1,false)) h.choose.2 rows.length)else none
theorem Kw{rows:Rows}{f m:Nat}{x:List (BitVec 8)}{s:JS}(hF:fG rows f m x)(h1:8704≤x.length)(h2:x.length≤1048576):
  De [.ptr SF f [0],jD s] rows=some (Dc (some (x,false)) s rows.length,Db (some (x,false)) s rows.length):=by
 have h:∃z,PM rows [.ptr SF f [0],jD s] z:=⟨(x,s),f,m,rfl,hF,h1,h2⟩
 have e:h.choose=(x,s):=by
  obtain⟨f',m',e,Ve,_⟩:=h.choose_spec
  simp only[List.cons.injEq,D.ptr.injEq,true_and,and_true]at e
  obtain⟨rfl,e⟩:=e
  exact Prod.ext (Ve.uni hF) (yG _ _ e.symm)
 unfold De
 rw[dif_pos h,e]
theorem Y2(C:be)(hC:aI C P)(hN:∀f,C.fU f=none)(hr:C.fn 58=some yN)(hri:C.fn 59=some mZ)(hb:C.fn 60=some qD):Jc C.aZ P 13 (KW De):=by
 refine Ux hC hN Go.Proofs.Tryz.func13 (by kernel_rfl) (by kernel_rfl) (Nat.le_of_ble_eq_true (by kernel_rfl)) (by kernel_rfl) (ac:=Fb) (jt:=Fc) (np:=2) ?_
 intro ds rows d new h
 by_cases hz:∃z,PM rows ds z
 ·obtain⟨⟨x,s⟩,f,m,rfl,hF,pS,zj⟩:=hz
  simp only at hF pS zj h
  rw[Kw hF pS zj]at h
  have h:=Prod.mk.inj (Option.some.inj h)
  rw[←h.1,←h.2]
  clear h
  refine⟨rfl,?_⟩
  unfold Fb Fc
  have hz:D.agg SJ [.raw (u32 0#32),.raw (it 0),.raw (it 0),.raw (it 0)]=jD Gx:=rfl
  have kr:=fun L k=>Y1 (hF.push L) pS zj k
  unfold Dc Db
  generalize some (x,false)=K at*
  have Ck:fg K s=⟨(dJ K).1.q+1#32,s.a,s.t,s.n⟩:=rfl
  have hri2:∀q,bK ⟨q,s.a,s.t,s.n⟩=bK s:=fun q=>rfl
  have kR:=fun rows k=>J4 rows k (fg K s)
  rw[Ck,hri2]at kR
  by_cases c:(dJ K).1.q+1#32=0#32
  ·have hB:j4 K s=false:=by rw[j4,decide_eq_true c];rfl
   have c1:((dJ K).1.q+1#32=0#32)=True:=eq_true c
   simp only[hB,awQ,uj,PK,exists_eq_left',D.raw.injEq,Value.bool.injEq,forall_const,reduceCtorEq,false_implies,true_and,and_true,and_self,or_true,true_implies,Bool.not_true,Bool.not_false,implies_true,↓aj,ak,simprocAttr,aa,aX,hz,cw,hr,kr,F7,Rq,Kr,c1,decide_true]
   exact⟨⟨_,_,rfl,by omega⟩,⟨_,_,rfl,by omega⟩,rfl⟩
  ·have c1:((dJ K).1.q+1#32=0#32)=False:=eq_false c
   cases hk:bK s
   ·have hB:j4 K s=false:=by rw[j4,hk,Bool.and_false]
    rw[hk]at kR
    simp only[hB,awQ,uj,PK,exists_eq_left',D.raw.injEq,Value.bool.injEq,forall_const,reduceCtorEq,false_implies,true_and,and_true,and_self,or_true,true_implies,Bool.not_true,Bool.not_false,implies_true,↓aj,ak,simprocAttr,aa,aX,hz,cw,hr,kr,F7,Rq,Kr,c1,decide_false,hri,kR]
    exact⟨⟨_,_,rfl,by omega⟩,⟨_,_,rfl,by omega⟩,rfl⟩
   ·have hB:j4 K s=true:=by rw[j4,hk,decide_eq_false c];rfl
    rw[hk]at kR
    have kb:=fun rows k=>QP rows k (fg K s) (by rw[Ck,hri2];exact hk)
    rw[Ck]at kb
    by_cases c2:(dJ K).2=32
    ·have c3:((dJ K).2=32)=True:=eq_true c2
     have hP:eG K=33:=if_pos c2
     simp only[hB,awQ,uj,PK,exists_eq_left',D.raw.injEq,Value.bool.injEq,forall_const,reduceCtorEq,false_implies,true_and,and_true,and_self,or_true,true_implies,Bool.not_true,Bool.not_false,implies_true,↓aj,ak,simprocAttr,aa,aX,hz,cw,hr,kr,F7,Rq,Kr,c1,c3,decide_false,decide_true,hri,kR,hb,kb]
     rw[jL,hP]
     exact⟨⟨_,_,rfl,by omega⟩,⟨_,_,rfl,by omega⟩,rfl⟩
    ·have c3:((dJ K).2=32)=False:=eq_false c2
     have hP:eG K=32:=if_neg c2
     simp only[hB,awQ,uj,PK,exists_eq_left',D.raw.injEq,Value.bool.injEq,forall_const,reduceCtorEq,false_implies,true_and,and_true,and_self,or_true,true_implies,Bool.not_true,Bool.not_false,implies_true,↓aj,ak,simprocAttr,aa,aX,hz,cw,hr,kr,F7,Rq,Kr,c1,c3,decide_false,decide_true,hri,kR,hb,kb]
     rw[jL,hP]
     exact⟨⟨_,_,rfl,by omega⟩,⟨_,_,rfl,by omega⟩,rfl⟩
 ·unfold De at h
  rw[dif_neg hz]at h
  cases h
end iC
end Go.Am

import Derived.Test.YtgcejocgnfkciaaGreatDoorKg10
set_option linter.unusedSimpArgs false
set_option linter.unusedVariables false
set_option maxRecDepth 10000
set_option maxHeartbeats 4000000
namespace Go.Am
attribute [local congr] dq bW dt bX bY cB bI bZ b5 cC bu cD b6 dj
namespace jU
open Go.Am.F
def JU(bD:List (BitVec 8))(least:Int)(q:List (BitVec 8)):Int:=
 if(cE q).2.2.2≠0 then(cE q).2.2.2 else if nU bD (q.take 48) (cE q).2.1≠0 then nU bD (q.take 48) (cE q).2.1 else
 if(cE q).1.v<least then 15 else if cM (cE q).2.2.1≠(cE q).1.dg then 16 else 0
theorem Wk(q:List (BitVec 8)):(cE q).1.dg.length=32:=by
 unfold cE
 cases decide (q.length<50)<;>cases decide ((cg (q.take 48)).2≠0)<;>cases decide ((q.length:Int)<50+dz q+(cg (q.take 48)).1.s)<;>first|exact parse_dg _|rfl
theorem Wl{q:List (BitVec 8)}(h:(cE q).2.2.2=0):50<=q.length:=by
 rcases aaZ q.length 50 with c|c
 ·unfold cE at h
  rw[aaY c]at h
  cases h
 ·exact c
theorem QZ(p:List (BitVec 8))(h:(cg p).2=0):bT (cg p).1=true:=by
 unfold cg at h⊢
 cases h1:decide (p.length=48)<;>cases h2:decide (p.take 4=pD)<;>rw[h1,h2]at h<;>simp only[ach,adD,acK,abQ,aaM,aaU]at h⊢<;>try (exact absurd h (by decide))
 cases h3:bT (lY p)<;>rw[h3]at h<;>simp only[aaM,aaU]at h⊢
 ·exact absurd h (by decide)
 ·exact h3
theorem E1{q:List (BitVec 8)}(h:(cE q).2.2.2=0):bT (cE q).1=true/\∃s:Nat,(cE q).1.s=(s:Int)/\4<=s/\s<=2048/\(cE q).2.2.1=sub q (50+dz q) s/\50+dz q+s<=q.length:=by
 unfold cE at h⊢
 cases h1:decide (q.length<50)<;>rw[h1]at h<;>simp only[aaM,aaU]at h⊢
 ·cases h2:decide ((cg (q.take 48)).2≠0)<;>rw[h2]at h<;>simp only[aaM,aaU]at h⊢
  ·have hp:=QZ (q.take 48) (by simpa using h2)
   cases h3:decide ((q.length:Int)<50+dz q+(cg (q.take 48)).1.s)<;>rw[h3]at h<;>simp only[aaM,aaU]at h⊢
   ·obtain⟨v,s,e,hv,hs,he,b1,b2,b3,b4,-,-⟩:=yX hp
    rw[hs]at h3⊢
    simp only[ab7]at h3
    refine⟨hp,s,rfl,?_,b2,by rw[aaB,sub],by omega⟩
    simp only[bT,aan,aat]at hp
    omega
   ·exact absurd h (by decide)
  ·exact absurd h (by simpa using h2)
 ·exact absurd h (by decide)
theorem iT.DE{s s':Sh}{d:D}{rows:Rows}{els els':List D}{q:Nat}{x:Option Row}(h:iT s d rows els)(hq:live rows q=some ⟨s',els'⟩)(hs:s'≠s):iT s d (rows.set q x) els:=by
 rcases h with⟨h1,h2⟩|⟨r,ex,h1,h2⟩
 ·exact .inl ⟨h1,h2⟩
 ·refine .inr ⟨r,ex,h1,?_⟩
  rw[az]
  ·exact h2
  ·rintro rfl
   rw[hq]at h2
   injection h2 with h2
   injection h2 with h2 _
   exact hs h2
theorem Ud(C C1:bf)(nR:C.fn 182=none)(rR:C.fy 182=some (aQ C1 1 ii ig))(h13:C1.fn 201=some rY)(h30:C1.fn 73=some tM)
  (hV:C.fn 88=some yT)(hS:C.fn 95=some Di){rows:Rows}{r n:Nat}{ex:Bool}{q bD:List (BitVec 8)}{dp:D}{least:Int}(hl:live rows r=some ⟨L8,bs q⟩)(hn:n=q.length)(hq:q.length<=10000)(hp:∀L,aU (rows++L) dp bD)(sq:bD.length<=1000){K:D->Rows->Prop}
  (h0:JU bD least q=0->∀aa d,bG rows aa->iT L8 d aa (bs (cE q).2.2.1)->K (.cA [cw (cE q).1,d,.raw (it 0)]) aa)
  (h1:JU bD least q≠0->∀aa,bG rows aa->K (.cA [cw dP,.raw (.slice none 0 0),.raw (it (JU bD least q))]) aa):
  aQ C 3 jc jb [dp,.raw (it least),.sl L8 r [] 0 n ex] rows K:=by
 subst hn
 refine ag rfl ?_
 unfold jb jc
 simp only[-List.reduceReplicate,pP]
 simp only[-List.reduceReplicate,dw]
 have hzm:D.agg SM [.raw (it 0),.raw (it 0),.raw (it 0),.agg (.ar 32 L8) (bs qg)]=cw dP:=rfl
 have hf:=dK
 simp only[↓ah,aj,simprocAttr,aM,nR,rR]
 refine read_run C1 (ae hl _) rfl (by omega) h13 h30 ?_
 rintro _ R1 ⟨L,d1,d2,rfl,rfl,OW,Kr⟩
 have Ue:bG rows (rows++[some ⟨SM,[cw dP]⟩]++L):=(bG.app _ _).trans (bG.app _ _)
 have hpL:∀L',aU (rows++[some ⟨SM,[cw dP]⟩]++L++L') dp bD:=λL'=>by rw[aaC,aaC];exact hp _
 have Fo:live (rows++[some ⟨SM,[cw dP]⟩]++L) rows.length=some ⟨SM,[cw dP]⟩:=ae (by rw[bw];rfl) _
 generalize rows++[some ⟨SM,[cw dP]⟩]++L=R at*
 have sO:=Ue _ _ hl
 have pE:=λL'=>ae Fo L'
 have ww:=Wk q
 obtain⟨RU,sy⟩:=QY q
 have hlen:=@Wl q
 have gv:∀m,(cw m).get [0]=some (.raw (it m.v)):=λ_=>rfl
 have gd:∀m,(cw m).get [3]=some (.agg (.ar 32 L8) (bs m.dg)):=λ_=>rfl
 unfold JU at h0 h1
 generalize hR:cE q=I at*
 obtain⟨m,sg,p,E⟩:=I
 simp only at h0 h1 OW Kr ww RU sy hlen
 have nt2:=Kr.pM
 have qR:∀L' x,live ((R++L').set rows.length (some x)) rows.length=some x:=λL' x=>aD (pE L')
 have fin:∀L',bG rows ((R++L').set rows.length (some ⟨SM,[cw dP]⟩)):=λL'=>(Ue.trans (bG.app R L')).set (aaz _) _
 by_cases c1:E=0
 ·subst c1
  have hq50:=hlen rfl
  have e48:((48:Int)<=((q.length:Nat):Int))=True:=aas (by omega)
  simp only[ne_eq,ac3,abW]at h0 h1
  have kV:=λL' og k=>VU (R++L') k dp (.sl L8 r [] 0 48 og) d1 bD (q.take 48) sg (hpL _) (by
   have:=aU.sub (rows:=R++L') (off:=0) (len:=48) (ex:=og) (ae sO _) (by omega)
   rwa [abi]at this) OW.push.to (by omega) (by rw[aau];omega) (by omega)
  generalize hVe:nU bD (q.take 48) sg=V at*
  by_cases c2:V=0
  ·subst c2
   simp only[ac3,abW]at h0 h1
   by_cases c3:m.v<least
   ·have Ou:(m.v<least)=True:=aas c3
    rw[aaI c3]at h0 h1
    simp only[↓ah,aj,simprocAttr,aM,hf,hV,kV,e48,Ou,gv,hzm,nt2,pE,qR]
    exact h1 (by decide) _ (fin _)
   ·have Ou:(m.v<least)=False:=aax c3
    rw[aaA c3]at h0 h1
    simp only[↓ah,aj,simprocAttr,aM,hf,hV,kV,e48,Ou,gv,gd,hzm,nt2,hS,pE,qR,Mm Kr]
    refine Eq.mpr (N0 _ _ _ _ _ _ [p] (by rw[aK];rfl) rfl (.cons Kr.push.to .nil) (by simp) (by simp;omega)) ?_
    have hsum:(cM [p].flatten)=cM p:=by simp
    rw[hsum]
    have hq:=vF (cM p) m.dg (cm p) ww
    by_cases c4:cM p=m.dg
    ·rw[aaY c4]at hq
     simp only[c4,ac3,abW]at h0 h1
     simp only[↓ah,aj,simprocAttr,aM,hf,gd,hq,nt2,pE,qR]
     exact h0 trivial _ d2 ((Ue.trans (bG.app _ _)).set (aaz _) _) (iT.DE Kr.push (pE _) (by decide))
    ·rw[aaJ c4]at hq
     rw[aaI c4]at h0 h1
     simp only[↓ah,aj,simprocAttr,aM,hf,gd,hq,nt2,pE,qR,hzm]
     exact h1 (by decide) _ (fin _)
  ·have c2':(V=0)=False:=aax c2
   rw[aaI c2]at h0 h1
   simp only[↓ah,aj,simprocAttr,aM,hf,hV,kV,e48,c2',hzm,pE,qR]
   exact h1 c2 _ (fin _)
 ·have K4:(E=0)=False:=aax c1
  rw[aaI c1]at h0 h1
  simp only[↓ah,aj,simprocAttr,aM,hf,K4,hzm,pE,qR]
  exact h1 c1 _ (fin _)
abbrev SVw:Sh:= .cons LI (.cons SM (.cons .ref .nil))
def Bs(e:Int)(m:AB)(p:D):D:= .agg SVw [.raw (it e),cw m,p]
def gT(x bD:List (BitVec 8))(least:Int)(i:Nat):Int:=JU bD least (sub x (4096*i) 4096)
def fD(x:List (BitVec 8))(i:Nat):AB×List (BitVec 8)×List (BitVec 8)×Int:=cE (sub x (4096*i) 4096)
def YB(x bD:List (BitVec 8))(least:Int)(i:Nat):D×Rows:=
 if gT x bD least i=0 then(Bs 0 (fD x i).1 (.sl L8 0 [] 0 (fD x i).2.2.1.length false),[some ⟨L8,bs (fD x i).2.2.1⟩])else(Bs (gT x bD least i) dP (.raw (.slice none 0 0)),[])
noncomputable def MD:Fn:=Zw (bx AA) dB tH tH (λK p _ i=>decide (nf K=10240)&&decide (p.length<=1000)&&(decide (i=0)||decide (i=1))) λK p l i=>YB (oB K) p l i.toNat
theorem look_ok(C C1 C2:bf)(hC:aJ C P)(kf:C.fn 130=some Dq)(hrd:C.fn 23=some tx)(n0:C.fn 131=none)(r0:C.fy 131=some (aQ C1 3 jc jb))
  (nR:C1.fn 182=none)(rR:C1.fy 182=some (aQ C2 1 ii ig))(h13:C2.fn 201=some rY)(h30:C2.fn 73=some tM)(hV:C1.fn 88=some yT)(hS:C1.fn 95=some Di):
  aN C.aX P 68 (Fn.run MD):=by
 refine bU (KJ C hC) λds rows r h=>?_
 obtain⟨d0,d1,d2,d3,K,bD,least,i,rfl,rfl,hd,he,hf,hg,hp,rfl⟩:=rQ h
 cases aE hd
 obtain⟨ex,hx⟩:=cb he
 cases bK hf
 cases bK hg
 simp only[aan,abI,aat]at hp
 obtain⟨⟨hl,tV⟩,hi⟩:=hp
 refine⟨rfl,_,.cons (.refl _) (.cons hx (.cons (.refl _) (.cons (.refl _) .nil))),ag rfl ?_⟩
 clear h hd he hf hg hx
 unfold zK zM
 obtain⟨j,rfl,hj⟩:∃j:Nat,i=(j:Int)/\j<=1:=⟨i.toNat,by omega,by omega⟩
 rcases K with _|⟨x,ek⟩
 ·simp[nf]at hl
 simp only[nf]at hl
 simp only[-List.reduceReplicate,pP]
 have Yr:lD (j:Int)=true:=by unfold lD;rcases(by omega:j=0\/j=1)with rfl|rfl<;>rfl
 have ks:=λrows k=>kSlot rows k (j:Int)
 rw[Yr]at ks
 have e1:wz (4096*(j:Int))=((4096*j:Nat):Int):=by rw[aZ (by omega)];omega
 have e0:mJ (some (x,ek)) ((4096*j:Nat):Int) 4096=0:=by simp only[mJ];rw[aaA (by omega)]
 have kr:=λrows k=>kRead (Oh rows (some (x,ek))) (by simp[nf];omega) ((4096*j:Nat):Int) 4096 k
 simp only[JI,aaI e0,oB,aaB,shift,bB,ab,Sh.pure,aaU,show(4096:Int).toNat=4096 from rfl]at kr
 simp only[aaB,oB]
 have hq:(sub x (4096*j) 4096).length=4096:=lS (by omega)
 have hf:=dK
 have hvz:D.agg SVw [.raw (it 0),cw dP,.raw (.slice none 0 0)]=Bs 0 dP (.raw (.slice none 0 0)):=rfl
 have hvf:∀e m d,d.fits .ref=true->(Bs e m d).fits SVw=true:=λ_ _ _ _=>rfl
 have hO0:JU bD least (sub x (4096*j) 4096)=0->YB x bD least j=(Bs 0 (cE (sub x (4096*j) 4096)).1 (.sl L8 0 [] 0 (cE (sub x (4096*j) 4096)).2.2.1.length false),[some ⟨L8,bs (cE (sub x (4096*j) 4096)).2.2.1⟩]):=λh=>aaI h
 have OW:JU bD least (sub x (4096*j) 4096)≠0->YB x bD least j=(Bs (JU bD least (sub x (4096*j) 4096)) dP (.raw (.slice none 0 0)),[]):=λh=>aaA h
 generalize YB x bD least j=O at*
 simp only[AA]at kr⊢
 generalize sub x (4096*j) 4096=q at*
 simp only[↓ah,aj,simprocAttr,aM,kf,ks,e1,hrd,kr,n0,r0]
 refine Ud C1 C2 nR rR h13 h30 hV hS (q:=q) rfl hq.symm (by omega) (λL=>ez.to (.inr ⟨ex,rfl⟩)) tV (λhz aa d hK hO=>?_) (λhz aa hK=>?_)
 ·rw[hO0 hz]
  obtain⟨Zu,s,RU,sy,Vh,hs4,hs5⟩:=E1 (q:=q) (by
   unfold JU at hz
   split at hz
   ·rename_i h;exact absurd hz h
   ·rename_i h;simpa using h)
  have hpl2:(cE q).2.2.1.length=s:=by rw[hs4];exact lS hs5
  have Fo:=hK 0 _ rfl
  generalize (cE q).2.2.1=p at*
  generalize (cE q).1=m at*
  have hnt:=hO.pM
  have hof:=Mm hO
  have pE:=λL=>ae Fo L
  have qR:=λL x=>aD (y:=x) (pE L)
  simp only[↓ah,aj,simprocAttr,aM,hf,pE,qR,hnt,hof,Bs]
  rcases iT.DE (q:=0) (x:=some ⟨SVw,[.agg SVw [.raw (it 0),cw m,d]]⟩) (hO.push (more:=[some ⟨SM,[cw m]⟩])) (pE _) (by decide)with⟨h1,rfl⟩|⟨r,og,rfl,DW⟩
  ·have:p.length=0:=by rw[<-aB,h1];rfl
   omega
  ·simp only[aB]at DW⊢
   exact .ownA _ [_,_] _ _ _ _ _ _ _ [] DW rfl rfl rfl (λh=>by cases h)
 ·rw[OW hz]
  have Fo:=hK 0 _ rfl
  have pE:=λL=>ae Fo L
  have qR:=λL x=>aD (y:=x) (pE L)
  simp only[↓ah,aj,simprocAttr,aM,hf,pE,qR,Bs]
  exact .val _ rfl
def Zy(p:List (BitVec 8)):JS:=⟨cR (p.drop 4),(p.getD 8 0#8).toNat,((p.getD 9 0#8).toNat:Int)-1,(p.getD 10 0#8).toNat⟩
def JV:JS:=⟨0#32,0,0,0⟩
def dh(p:List (BitVec 8)):JS×Bool:=
 bif decide (p.length=32)&&(eV (Zy p)&&decide (gq (Zy p)=p))then(Zy p,true)else(JV,false)
noncomputable def Hh:Fn:=mV dB (λp=>Nat.ble p.length most) λp=>(.cA [jD (dh p).1,.raw (.bool (dh p).2)],[])
theorem YC(C:bf)(hC:aJ C P)(hb:C.fn 60=some tj)(he:C.fn 94=some yf):aN C.aX P 119 (Fn.run Hh):=by
 refine bU (Gz C hC) λds rows r h=>?_
 obtain⟨d,p,rfl,rfl,hd,hp,rfl⟩:=a8 h
 obtain⟨x,hx⟩:=cb hd
 refine⟨rfl,_,.cons hx .nil,ag rfl ?_⟩
 simp only[abo]at hp
 unfold most at hp
 clear h hx hd
 unfold we wg
 have hz:D.agg SJ [.raw (u32 0#32),.raw (it 0),.raw (it 0),.raw (it 0)]=jD JV:=rfl
 by_cases hl:p.length=32
 ·have g:∀i,i<32->(bs p)[i]?=some (.raw (u8 (p.getD i 0#8))):=λi hi=>j4 (by omega)
  have hn:(p.getD 4 0#8).setWidth 32<<<24|||(p.getD 5 0#8).setWidth 32<<<16|||(p.getD 6 0#8).setWidth 32<<<8|||(p.getD 7 0#8).setWidth 32=cR (p.drop 4):=by
   rw[XQ];rfl
  have w:wz (((p.getD 9 0#8).toNat:Int)-1)=((p.getD 9 0#8).toNat:Int)-1:=by
   have:=(p.getD 9 0#8).isLt
   rw[aZ (by omega)]
  have hof:∀q:BitVec 32,q=cR (p.drop 4)->D.agg SJ [.raw (u32 q),.raw (it ((p.getD 8 0#8).toNat:Int)),.raw (it (((p.getD 9 0#8).toNat:Int)-1)),.raw (it ((p.getD 10 0#8).toNat:Int))]=jD (Zy p):=λq hq=>by rw[hq];rfl
  have hof':=hof _ hn
  simp only[↓ah,aj,simprocAttr,aB,hl,g 4 (by omega),g 5 (by omega),g 6 (by omega),g 7 (by omega),g 8 (by omega),g 9 (by omega),g 10 (by omega),w,hn,hz,hof _ rfl,cN,hb]
  cases hk:eV (Zy p)
  ·have hq:dh p=(JV,false):=by rw[dh,hk];simp
   have kb:=λrows k=>kBytesN rows k (Zy p) hk
   have ke:=λrows k=>Bl rows k (.raw (.slice none 0 0)) (.cI L8 (bs p) x) [] p (ez.to (.inl ⟨rfl,rfl⟩)) (ez.to (.inr ⟨x,rfl⟩)) (by simp) hp
   have hne:decide (([]:List (BitVec 8))=p)=false:=aaJ (by intro h;rw[<-h]at hl;cases hl)
   rw[hne]at ke
   rw[hq]
   simp only[↓ah,aj,simprocAttr,kb,he,ke,hz,cN]
   exact .val _ rfl
  ·have kb:=λrows k=>VF rows k (Zy p) hk
   simp only[↓ah,aj,simprocAttr,kb,he]
   refine Eq.mpr (Bl _ _ _ _ (gq (Zy p)) p (aU.own rfl _ (oQ _).symm) (ez.to (.inr ⟨x,rfl⟩)) (by rw[oQ];omega) hp) ?_
   by_cases RR:gq (Zy p)=p
   ·have hq:dh p=(Zy p,true):=by rw[dh,hk,hl,aaY RR];simp
    rw[hq,aaY RR]
    simp only[↓ah,aj,simprocAttr,cN]
    exact .val _ rfl
   ·have hq:dh p=(JV,false):=by rw[dh,aaJ RR];simp
    rw[hq,aaJ RR]
    simp only[↓ah,aj,simprocAttr,hz,cN]
    exact .val _ rfl
 ·have sO:((p.length:Int)=32)=False:=aax (by omega)
  have hq:dh p=(JV,false):=by rw[dh,aaJ hl];rfl
  rw[hq]
  simp only[↓ah,aj,simprocAttr,aB,sO,hz,cN]
  exact .val _ rfl
theorem kParseJ(rows:Rows)(k:D->Rows->Prop)(d:D)(p:List (BitVec 8))(h:aU rows d p)(hp:p.length<=1099511627776):aI Hh rows k [d]=k (.cA [jD (dh p).1,.raw (.bool (dh p).2)]) rows:=by
 refine(qB h (by simpa[most]using hp) ?_).trans ?_
 ·simp[jD,cj,jG,be,Sh.pure]
 ·simp[shift,bB,Jn,ab]
def fu:JS:=⟨0#32,0,-1,0⟩
noncomputable def E2:Fn
 |[],[]=>some (jD fu,[])
 | _,_=>none
theorem first_ok(C:bf)(hC:aJ C P):aN C.aX P 118 (Fn.run E2):=by
 refine aG (Gy C hC) λds rows r h=>?_
 unfold E2 at h
 split at h
 ·cases h
  refine⟨rfl,ag rfl ?_⟩
  unfold v9 wc
  simp only[↓ah,aj,simprocAttr]
  exact .val _ rfl
 ·cases h
theorem kFirst(rows:Rows)(k:D->Rows->Prop):aI E2 rows k []=k (jD fu) rows:=by
 refine(a9 rfl (r:=(jD fu,[])) rfl).trans ?_
 simp[Jn,ab]
def DF(K:FV)(i:Nat)(s:JS×Int):JS×Int:=
 if mJ K ((256*i:Nat):Int) 32=0 then
  (bif (dh (sub (oB K) (256*i) 32)).2&&(decide (s.2=-1)||decide (s.1.q<(dh (sub (oB K) (256*i) 32)).1.q))then((dh (sub (oB K) (256*i) 32)).1,(i:Int))else s)
 else s
def fU(K:FV):JS×Int:=DF K 33 (DF K 32 (fu,-1))
noncomputable def yj:Fn:=mV (bx AA) (λK=>decide (nf K<=1048576)) λK=>(.cA [jD (fU K).1,.raw (it (fU K).2)],[])
def atJ(K:FV):Nat->JS×Int
 |0=>(fu,-1)
 |1=>DF K 32 (fu,-1)
 | _=>fU K
theorem u32_gt(x y:BitVec 32)(k:D->Prop):cF .gtr (u32 x) (u32 y) k=k (.raw (.bool (decide (y<x)))):=by
 have:(x.toNat:Int)>(y.toNat:Int)↔y<x:=by rw[acz];omega
 simp only[cF,u32]
 by_cases h:y<x
 ·have:=this.2 h
  simp[h,acz.1 h]
 ·have h2:¬y.toNat<x.toNat:=λe=>h (acz.2 e)
  simp[h,h2]
theorem readj_ok(C:bf)(hC:aJ C P)(hf:C.fn 118=some E2)(hr:C.fn 23=some tx)(hp:C.fn 119=some Hh):aN C.aX P 58 (Fn.run yj):=by
 refine aG (Iu C hC) λds rows r h=>?_
 obtain⟨d,K,rfl,rfl,hd,hp',rfl⟩:=a8 h
 cases aE hd
 simp only[aat]at hp'
 refine⟨rfl,ag rfl ?_⟩
 clear h hd
 unfold xF xG
 have hz:D.agg SJ [.raw (u32 0#32),.raw (it 0),.raw (it 0),.raw (it 0)]=jD JV:=rfl
 have hg:∀rs,QI rs (AA K) K:=λrs=>Oh rs K
 have kr:=λrows (i:Nat) k=>kRead (hg rows) hp' ((256*i:Nat):Int) 32 k
 generalize hkk:AA K=kk at kr⊢
 simp only[↓ah,aj,simprocAttr,aM,hz,cN,hf,kFirst]
 refine bg 2 (λi env rows=>has env [(6,.raw (it ((32+i:Nat):Int))),(5,.raw (it (atJ K i).2)),(4,.ptr SJ 1 [0]),(2,.ptr SJ 0 [0]),(0,kk)]/\live rows 1=some ⟨SJ,[jD (atJ K i).1]⟩/\∃x,live rows 0=some ⟨SJ,[x]⟩) ?_ ?_ ?_
 ·rintro i hi env rows ⟨hh,r1,⟨x0,r0⟩⟩ R hR
  simp only[has]at hh
  have e0:(((32+i:Nat):Int)<34)=True:=aas (by omega)
  have e1:wz (256*((32+i:Nat):Int))=((256*(32+i):Nat):Int):=by rw[aZ (by omega)];omega
  have e2:wz (((32+i:Nat):Int)+1)=((32+(i+1):Nat):Int):=by rw[aZ (by omega)];omega
  have hs:atJ K (i+1)=DF K (32+i) (atJ K i):=by
   have:i=0\/i=1:=by omega
   rcases this with rfl|rfl<;>rfl
  have fin:∀env' aa,(has env' [(6,.raw (it ((32+(i+1):Nat):Int))),(5,.raw (it (atJ K (i+1)).2)),(4,.ptr SJ 1 [0]),(2,.ptr SJ 0 [0]),(0,kk)]/\live aa 1=some ⟨SJ,[jD (atJ K (i+1)).1]⟩/\∃x,live aa 0=some ⟨SJ,[x]⟩)->R env' aa:=λenv' aa h=>hR env' aa h
  rw[hs]at fin
  have kr':=kr rows (32+i)
  by_cases c:mJ K ((256*(32+i):Nat):Int) 32=0
  ·rw [JI, aaI c] at kr'
   have kf:(sub (oB K) (256*(32+i)) 32).length=32:=by
    rcases K with _|⟨x,ex⟩
    ·cases c
    ·obtain⟨b1,b2,b3,b4⟩:=Og c
     exact lS (x:=x) (by omega)
   have e32:(32:Int).toNat=32:=rfl
   simp only[aaB,e32,shift,bB,ab,abq,adv,Sh.pure,aaU,abE]at kr'
   simp only[DF,aaI c]at fin
   generalize sub (oB K) (256*(32+i)) 32=p at kr' fin kf
   generalize atJ K i=st at hh r1 fin
   have kp:=λk=>kParseJ (rows++[some ⟨L8,bs p⟩]) k (.sl L8 rows.length [] 0 32 false) p (aU.own (by rw[bw];rfl) _ kf.symm) (by omega)
   generalize dh p=qk at kp fin
   obtain⟨q,ok⟩:=qk
   obtain⟨s1,at1⟩:=st
   simp only at hh r1 fin kp
   have f1:=λl=>ae r1 l
   have f0:=λl=>ae r0 l
   have hw:∀rs,live rs 1=some ⟨SJ,[jD s1]⟩->live (rs.set 1 (some ⟨SJ,[jD q]⟩)) 1=some ⟨SJ,[jD q]⟩:=λrs h=>aD h
   have hw0:∀rs,live rs 0=some ⟨SJ,[x0]⟩->live (rs.set 1 (some ⟨SJ,[jD q]⟩)) 0=some ⟨SJ,[x0]⟩:=λrs h=>df h (by decide)
   cases ok
   ·simp only[abQ,aaM]at fin
    simp only[↓ah,aj,simprocAttr,aM,hh,e0,e1,e2,hr,kr',hp,kp,cN,f1]
    exact fin _ _ ⟨by simp only[has,↓ah,aj,simprocAttr,hh],f1 _,_,f0 _⟩
   ·simp only[abA]at fin
    by_cases c2:at1=-1
    ·have c3:(at1=-1)=True:=aas c2
     simp only[c3,aav,adS,aaU]at fin
     simp only[↓ah,aj,simprocAttr,aM,hh,e0,e1,e2,hr,kr',hp,kp,cN,f1,c3]
     exact fin _ _ ⟨by simp only[has,↓ah,aj,simprocAttr,hh],hw _ (f1 _),_,hw0 _ (f0 _)⟩
    ·have c3:(at1=-1)=False:=aax c2
     by_cases c4:s1.q<q.q
     ·have c5:(s1.q<q.q)=True:=aas c4
      simp only[c3,c5,aav,aaw,acy,aaU]at fin
      simp only[↓ah,aj,simprocAttr,aM,hh,e0,e1,e2,hr,kr',hp,kp,cN,f1,c3,Jo,u32_gt,c5,aav]
      exact fin _ _ ⟨by simp only[has,↓ah,aj,simprocAttr,hh],hw _ (f1 _),_,hw0 _ (f0 _)⟩
     ·have c5:(s1.q<q.q)=False:=aax c4
      simp only[c3,c5,aaw,acy,aaM]at fin
      simp only[↓ah,aj,simprocAttr,aM,hh,e0,e1,e2,hr,kr',hp,kp,cN,f1,c3,Jo,u32_gt,c5,aaw]
      exact fin _ _ ⟨by simp only[has,↓ah,aj,simprocAttr,hh],f1 _,_,f0 _⟩
  ·rw[JI,aaA c]at kr'
   have c1:(mJ K ((256*(32+i):Nat):Int) 32=0)=False:=aax c
   simp only[shift,bB,ab]at kr'
   simp only[DF,aaA c]at fin
   generalize atJ K i=st at hh r1 fin
   simp only[↓ah,aj,simprocAttr,aM,hh,e0,e1,e2,hr,kr',c1]
   exact fin _ _ ⟨by simp only[has,↓ah,aj,simprocAttr,hh],r1,_,r0⟩
 ·rintro env rows ⟨hh,r1,⟨x0,r0⟩⟩ R
  simp only[has]at hh
  have Hi:atJ K 2=fU K:=rfl
  rw[Hi]at hh r1
  have e5:live (rows.set 0 (some ⟨SJ,[jD (fU K).1]⟩)) 0=some ⟨SJ,[jD (fU K).1]⟩:=aD r0
  simp only[↓ah,aj,simprocAttr,aM,hh,r1,r0,cN,e5]
  exact .val _ rfl
 ·have:atJ K 0=(fu,-1):=rfl
  rw[this]
  exact⟨by simp only[has,↓ah,aj,simprocAttr],rfl,_,rfl⟩
theorem kReadJ{rows:Rows}{d:D}{K:FV}(h:QI rows d K)(hl:nf K<=1048576)(k:D->Rows->Prop):aI yj rows k [d]=k (.cA [jD (fU K).1,.raw (it (fU K).2)]) rows:=by
 refine(Dz h (vs:=[]) rfl rfl (r:=(.cA [jD (fU K).1,.raw (it (fU K).2)],[])) ?_ (by simp[jD,cj,jG,be,Sh.pure]) k).trans ?_
 ·simp only[yj,fn1_ev,br yV,abc,hl,aav,aaU]
 ·simp[shift,bB,Jn,ab]
def refJ(x:List (BitVec 8)):JS×Int:=
 if x.length<8704 then(fu,-1)else
 bif (dh (sub x 8192 32)).2&&(!(dh (sub x 8448 32)).2||decide ((dh (sub x 8448 32)).1.q<=(dh (sub x 8192 32)).1.q))then((dh (sub x 8192 32)).1,32)else
 bif (dh (sub x 8448 32)).2 then((dh (sub x 8448 32)).1,33)else(fu,-1)
theorem JW(x:List (BitVec 8))(e:Bool)(h:8704<=x.length):fU (some (x,e))=refJ x:=by
 have w1:mJ (some (x,e)) ((256*32:Nat):Int) 32=0:=by simp only[mJ];rw[aaA (by omega)]
 have w2:mJ (some (x,e)) ((256*33:Nat):Int) 32=0:=by simp only[mJ];rw[aaA (by omega)]
 unfold fU DF refJ
 rw[aaI w1,aaI w2,aaA (by omega)]
 show(bif (dh (sub x 8448 32)).2&&(decide ((bif (dh (sub x 8192 32)).2&&(decide ((-1:Int)=-1)||decide (fu.q<(dh (sub x 8192 32)).1.q))then((dh (sub x 8192 32)).1,(32:Int))else(fu,-1)).2=-1)||decide ((bif (dh (sub x 8192 32)).2&&(decide ((-1:Int)=-1)||decide (fu.q<(dh (sub x 8192 32)).1.q))then((dh (sub x 8192 32)).1,(32:Int))else(fu,-1)).1.q<(dh (sub x 8448 32)).1.q))then((dh (sub x 8448 32)).1,(33:Int))else bif (dh (sub x 8192 32)).2&&(decide ((-1:Int)=-1)||decide (fu.q<(dh (sub x 8192 32)).1.q))then((dh (sub x 8192 32)).1,(32:Int))else(fu,-1))=_
 generalize dh (sub x 8192 32)=A
 generalize dh (sub x 8448 32)=B
 obtain⟨a,x1⟩:=A
 obtain⟨b,y1⟩:=B
 have hlt:decide (a.q<b.q)=!decide (b.q<=a.q):=by
  by_cases c:b.q<=a.q
  ·rw[aaY c,aaJ (by rw[acz];rw[abS]at c;omega)];rfl
  ·rw[aaJ c,aaY (by rw[acz];rw[abS]at c;omega)];rfl
 cases x1<;>cases y1<;>simp[hlt]<;>cases decide (b.q<=a.q)<;>simp
theorem YD{α β γ δ:Type}{rd:D->Option α}{rd':D->Option β}{GI:D->Option γ}{rd3:D->Option δ}{pre:α->β->γ->δ->Bool}{out:α->β->γ->δ->D×Rows}{rows:Rows}{d e f g:D}{a:α}{b:β}{c:γ}{z:δ}(h:bk rows rd d a)(h':bk rows rd' e b)(h2:bk rows GI f c)(h3:bk rows rd3 g z)(hp:pre a b c z=true)
  (hr:(cj (out a b c z).1&&be (out a b c z).2)=true)(k:D->Rows->Prop):
  aI (fn4 rd rd' GI rd3 pre out) rows k [d,e,f,g]=k (shift rows.length (out a b c z).1) (rows++ab rows.length (out a b c z).2):=by
 obtain⟨⟨x,hx,hx'⟩,hn⟩:=h
 obtain⟨⟨y,hy,hy'⟩,hm⟩:=h'
 obtain⟨⟨u,hz,Kw⟩,ho⟩:=h2
 obtain⟨⟨v,hw,hw'⟩,hq⟩:=h3
 refine uI (ds':=[x,y,u,v]) (by simp only[dU,hx,hy,hz,hw]) (fn4_eq hx' hy' Kw hw' hp) (λhh=>?_) hr
 simp only[aW,acx,acg]at hh
 exact fn4_eq (hn hh.1) (hm hh.2.1) (ho hh.2.2.1) (hq hh.2.2.2) hp
theorem bk.fl{rows:Rows}{r m:Nat}{x:List (BitVec 8)}(h:gE rows r m x):∃e,bk rows (bx AA) (.ptr SF r [0]) (some (x,e)):=by
 obtain⟨e,hv⟩:=h.view
 exact⟨e,⟨_,hv,br yV _⟩,λh=>by simp[aR]at h⟩
theorem kAfterG{rows:Rows}{r m:Nat}{x:List (BitVec 8)}(h:gE rows r m x)(hx:x.length<=1048576)(i a:Int){d:D}{p:List (BitVec 8)}(hp:aU rows d p)(tV:p.length<=1048576)(h0:tQ (some (x,false)) i a p=0)(k:D->Rows->Prop):
  aI EZ rows k [.ptr SF r [0],.raw (it i),.raw (it a),d]=k (.cA [.sl L8 rows.length [] 0 256 false,.raw (it 0)]) (rows++[some ⟨L8,bs (wO (some (x,false)) i a p)⟩]):=by
 obtain⟨e,hf⟩:=bk.fl h
 have hE:tQ (some (x,e)) i a p=tQ (some (x,false)) i a p:=rfl
 have hD:wO (some (x,e)) i a p=wO (some (x,false)) i a p:=rfl
 have ho:K5 (some (x,e)) i a p=(.cA [.sl L8 0 [] 0 256 false,.raw (it 0)],[some ⟨L8,bs (wO (some (x,false)) i a p)⟩]):=by
  rw[K5,hE,aaI h0,hD]
 refine(YD hf (.int i) (.int a) (.bs hp) (by simp[nf,hx,tV]) (by rw[ho];simp[cj,jG,be,Sh.pure]) k).trans ?_
 rw[ho]
 simp[shift,bB,ab,Sh.pure]
def fV:List (BitVec 8):=List.replicate 256 255#8
theorem ff_len:fV.length=256:=by rw[fV,aaS]
theorem ff_get(i:Nat)(h:i<256):fV.getD i 0#8=255#8:=rep255 256 i h
noncomputable def ME:Fn
 |[],[]=>some (.sl L8 0 [] 0 256 false,[some ⟨L8,bs fV⟩])
 | _,_=>none
theorem allf_ok(C:bf)(hC:aJ C P)(hr:C.fn 103=some qx):aN C.aX P 57 (Fn.run ME):=by
 refine aG (KI C hC) λds rows r h=>?_
 unfold ME at h
 split at h
 ·cases h
  refine⟨rfl,ag rfl ?_⟩
  unfold zI zJ
  simp only[↓ah,aj,simprocAttr,hr]
  refine Eq.mpr (Of (b:=255#8) (aU.own (l:=[255#8]) rfl _ rfl) 256 (by omega) _) ?_
  rw[show List.replicate 256 255#8=fV from rfl]
  simp only[↓ah,aj,simprocAttr]
  exact .own L8 _ 0 256 false false _ rfl rfl id
 ·cases h
theorem kAllF(rows:Rows)(k:D->Rows->Prop):aI ME rows k []=k (.sl L8 (0+rows.length) [] 0 256 false) (rows++[some ⟨L8,bs fV⟩]):=by
 refine(a9 rfl (r:=(.sl L8 0 [] 0 256 false,[some ⟨L8,bs fV⟩])) rfl).trans ?_
 simp only[shift,ab,Sh.pure,abq,adv,aaU]
abbrev E3:Sh:= .cons L8 (.cons LI (.cons LI (.cons .ref (.cons LI (.cons cJ .nil)))))
def opD(kind:BitVec 8)(page:Nat)(d:D):D:= .agg E3 [.raw (u8 kind),.raw (it (page:Int)),.raw (it 0),d,.raw (it 0),.raw (u32 0#32)]
theorem op_g0(k:BitVec 8)(i:Nat)(d:D):(opD k i d).get [0]=some (.raw (u8 k)):=rfl
theorem op_g1(k:BitVec 8)(i:Nat)(d:D):(opD k i d).get [1]=some (.raw (it (i:Int))):=rfl
theorem op_g2(k:BitVec 8)(i:Nat)(d:D):(opD k i d).get [2]=some (.raw (it 0)):=rfl
theorem op_g3(k:BitVec 8)(i:Nat)(d:D):(opD k i d).get [3]=some d:=rfl
inductive Q3 (rows:Rows) (m:Nat):BitVec 8->D->List (BitVec 8)->Prop where
 |er:Q3 rows m 1#8 (.raw (.slice none 0 0)) []
 |wr (q:Nat) (p:List (BitVec 8)) (ex:Bool):live rows q=some ⟨L8,bs p⟩->0<p.length->p.length<=256->q≠m->Q3 rows m 2#8 (.sl L8 q [] 0 p.length ex) p
theorem Q3.fits{rows:Rows}{m:Nat}{k:BitVec 8}{d:D}{p:List (BitVec 8)}(h:Q3 rows m k d p)(i:Nat):(opD k i d).fits E3=true:=by
 cases h<;>rfl
theorem Q3.bs{rows:Rows}{m:Nat}{k:BitVec 8}{d:D}{p:List (BitVec 8)}(h:Q3 rows m k d p)(L:Rows):aU (rows++L) d p:=by
 cases h with
 |er=>exact ez.to (.inl ⟨rfl,rfl⟩)
 |wr q p ex h1 h2 h3 h4=>exact aU.own (ae h1 L) _ rfl
theorem Q3.len{rows:Rows}{m:Nat}{k:BitVec 8}{d:D}{p:List (BitVec 8)}(h:Q3 rows m k d p):p.length<=256:=by
 cases h with
 |er=>simp
 |wr q p ex h1 h2 h3 h4=>exact h3
def pQ(x:List (BitVec 8))(i:Nat)(p w:List (BitVec 8)):List (BitVec 8):=Zx x i (wO (some (x,false)) i 0 p) w
theorem uT(x:List (BitVec 8))(i:Nat)(p w:List (BitVec 8)):(pQ x i p w).length=x.length:=V6 _ _ _ _
theorem Wm(x:List (BitVec 8))(i:Nat)(p:List (BitVec 8))(hp:p.length<=256)(hx:256*i+256<=x.length):(wO (some (x,false)) i 0 p).length=256:=by
 unfold wO
 split
 ·rw[aaS]
 ·have kf:(sub (oB (some (x,false))) (256*(i:Int).toNat) 256).length=256:=lS (x:=x) (by omega)
  rw[show(0:Int).toNat=0 from rfl,jL _ _ _ (by omega),kf]
theorem tearB{rows:Rows}{r m q1 q2 n:Nat}{x w k:List (BitVec 8)}{N9 Kp:Bool}(h:gE rows r m x)(hx:x.length<=1048576)(Vd:live rows q1=some ⟨L8,bs w⟩)(hn:n=w.length)(RR:live rows q2=some ⟨L8,bs k⟩)(n1:m≠q1)(n2:m≠q2)(hw:w.length<=1048576)(Nc:k.length<=1048576)(i:Int)(hE:erE x i=0){K:D->Rows->Prop}
  (hk:∀aa,V7 rows aa r m (Zx x i w k)->K (.raw (it 0)) aa):aQ CF 4 dE dD [.ptr SF r [0],.raw (it i),.sl L8 q1 [] 0 n N9,.sl L8 q2 [] 0 k.length Kp] rows K:=by
 subst hn
 refine tearA h hx Vd RR n1 n2 hw Nc i λaa U=>?_
 rw[hE]
 exact hk aa U
theorem V7.of{rows L aa:Rows}{r m:Nat}{x:List (BitVec 8)}(h:V7 (rows++L) aa r m x):V7 rows aa r m x:=⟨h.fl,λq row hq hn=>h.frame q row (ae hq L) hn⟩
theorem YE(C:bf){dc:D}{rows:Rows}{r m qm i:Nat}{ex:Bool}{kind:BitVec 8}{d:D}{x p w:List (BitVec 8)}(hF:gE rows r m x)(hx:x.length<=1048576)(hi:256*i+256<=x.length)(ho:Q3 rows m kind d p)
  (hm:live rows qm=some ⟨L8,bs w⟩)(nm:m≠qm)(hw:w.length<=1048576)(h0:tQ (some (x,false)) (i:Int) 0 p=0)
  (hA:C.fn 116=some EZ)(nT:C.fn 117=none)(rT:C.fy 117=some (aQ CF 4 dE dD)){K:D->Rows->Prop}
  (hk:∀aa,V7 rows aa r m (pQ x i p w)->K (.raw (it 0)) aa):aQ C 4 ja iZ [.ptr SF r [0],dc,opD kind i d,.sl L8 qm [] 0 w.length ex] rows K:=by
 refine ag rfl ?_
 unfold iZ ja
 have hE:erE x (i:Int)=0:=by simp only[erE,wN];rw[aaA (by omega)]
 have hfit:=ho.fits i
 have hd:=Wm x i p ho.len hi
 have ka:=λL k=>kAfterG (hF.push L) hx (i:Int) 0 (ho.bs L) (by have:=ho.len;omega) h0 k
 have lt:=hF.lt
 cases ho with
 |er=>
  simp only[↓ah,aj,simprocAttr,aM,hfit,op_g0,op_g1,op_g2,op_g3,hA,ka,nT,rT]
  refine tearB (hF.push _) hx (w:=wO (some (x,false)) (i:Int) 0 []) (by rw[aK];rfl) hd.symm (ae hm _) (by omega) nm (by omega) hw _ hE λaa U=>?_
  simp only[↓ah,aj,simprocAttr]
  exact hk aa U.of
 |wr q p ex h1 h2 h3 h4=>
  have c0:((p.length:Int)=0)=False:=aax (by omega)
  simp only[↓ah,aj,simprocAttr,aM,hfit,op_g0,op_g1,op_g2,op_g3,c0,hA,ka,nT,rT]
  refine tearB (hF.push _) hx (w:=wO (some (x,false)) (i:Int) 0 p) (by rw[aK];rfl) hd.symm (ae hm _) (by omega) nm (by omega) hw _ hE λaa U=>?_
  simp only[↓ah,aj,simprocAttr]
  exact hk aa U.of
structure JO where
 k:BitVec 8
 i:Nat
 d:D
 p:List (BitVec 8)
def JO.D(o:JO):Am.D:=opD o.k o.i o.d
def Uf(x:List (BitVec 8))(l:List JO):List (BitVec 8):=l.foldl (λx o=>pQ x o.i o.p fV) x
theorem DH(x:List (BitVec 8))(l:List JO):(Uf x l).length=x.length:=by
 induction l generalizing x with
 |nil=>rfl
 |cons o l ih=>exact(ih _).trans (uT _ _ _ _)
theorem doX_succ(x:List (BitVec 8))(l:List JO)(j:Nat)(o:JO)(h:l[j]?=some o):Uf x (l.take (j+1))=pQ (Uf x (l.take j)) o.i o.p fV:=by
 obtain⟨hj,rfl⟩:=adA.1 h
 rw[aaR hj,Uf,aen]
 rfl
theorem Q3.keep{rows aa:Rows}{m:Nat}{k:BitVec 8}{d:D}{p:List (BitVec 8)}(h:Q3 rows m k d p)(f:∀q row,live rows q=some row->q≠m->live aa q=some row):Q3 aa m k d p:=by
 cases h with
 |er=>exact .er
 |wr q p ex h1 h2 h3 h4=>exact .wr q p ex (f _ _ h1 h4) h2 h3 h4
theorem do_run(C C0:bf){dc:D}{rows:Rows}{r m ro n:Nat}{ex:Bool}{x:List (BitVec 8)}{ops:List JO}(hF:gE rows r m x)(hx:x.length<=1048576)(hro:live rows ro=some ⟨E3,ops.map JO.D⟩)(nro:ro≠m)(hn:ops.length=n)(hn2:n<=1048576)
  (hop:∀(j:Nat) (o:JO),ops[j]?=some o->Q3 rows m o.k o.d o.p/\256*o.i+256<=x.length/\tQ (some (Uf x (ops.take j),false)) (o.i:Int) 0 o.p=0)
  (hA:C0.fn 116=some EZ)(nT:C0.fn 117=none)(rT:C0.fy 117=some (aQ CF 4 dE dD))
  (bQ:C.fn 57=some ME)(nJ:C.fn 56=none)(rJ:C.fy 56=some (aQ C0 4 ja iZ)){K:D->Rows->Prop}
  (hk:∀aa,V7 rows aa r m (Uf x ops)->K (.raw (it 0)) aa):aQ C 3 lN lM [.ptr SF r [0],dc,.sl E3 ro [] 0 n ex] rows K:=by
 subst hn
 refine ag rfl ?_
 unfold lM lN
 simp only[↓ah,aj,simprocAttr]
 refine bg ops.length (λj env rs=>has env [(12,.raw (it (j:Int))),(11,.raw (it (ops.length:Int))),(10,.sl E3 ro [] 0 ops.length ex),(0,.ptr SF r [0]),(1,dc)]/\V7 rows rs r m (Uf x (ops.take j))) ?_ ?_ ?_
 ·rintro j hj env rs ⟨hh,U⟩ R hR
  simp only[has]at hh
  have e0:((j:Int)<(ops.length:Int))=True:=aas (by omega)
  have e1:=ca j (by omega)
  obtain⟨o,ho⟩:∃o,ops[j]?=some o:=⟨_,aap hj⟩
  obtain⟨b1,b2,b3⟩:=hop j o ho
  have g:(ops.map JO.D)[j]?=some (opD o.k o.i o.d):=by rw[abu,ho];rfl
  have hl:=U.frame _ _ hro nro
  have hlA:=λL=>ae hl L
  have b1':=b1.keep U.frame
  have hfit:=b1.fits o.i
  have e2:((0:Int)<=(j:Int))=True:=aas (by omega)
  simp only[↓ah,aj,simprocAttr,aM,hh,e0,e1,e2,hl,hlA,g,hfit,bQ,kAllF,nJ,rJ]
  have lt:=U.fl.lt
  have hm:=aK rs [some ⟨E3,[opD o.k o.i o.d]⟩,some ⟨L8,bs fV⟩] 1
  refine YE C0 (dc:=dc) (w:=fV) (U.fl.push _) (by rw[DH];exact hx) (by rw[DH];exact b2) (b1'.keep λq row hq _=>ae hq _) (by rw[aK];rfl) (by omega) (by rw[ff_len];omega) b3 hA nT rT λaa U'=>?_
  have hs:=doX_succ x ops j o ho
  rw[<-hs]at U'
  simp only[↓ah,aj,simprocAttr,aM,hh,e1]
  refine hR _ _ ⟨by simp only[has,↓ah,aj,simprocAttr,hh],U'.fl,λq row hq hn=>U'.of.frame q row (U.frame q row hq hn) hn⟩
 ·rintro env rs ⟨hh,U⟩ R
  simp only[has]at hh
  rw[aaV]at U
  have e0:((ops.length:Int)<(ops.length:Int))=False:=aax (by omega)
  simp only[↓ah,aj,simprocAttr,aM,hh,e0]
  exact hk _ U
 ·exact⟨by simp only[has,↓ah,aj,simprocAttr],hF,λq row hq _=>hq⟩
def oC(K:FV)(s:JS):JS:=⟨(fU K).1.q+1#32,s.a,s.t,s.n⟩
def jq(K:FV):Nat:=if(fU K).2=32 then 33 else 32
def wy(K:FV)(s:JS):Bool:=!decide ((fU K).1.q+1#32=0#32)&&eV s
def tz(K:FV)(s:JS)(q:Nat):List JO:=[⟨1#8,jq K,.raw (.slice none 0 0),[]⟩,⟨2#8,jq K,.sl L8 q [] 0 32 false,gq (oC K s)⟩]
theorem Ov(x y:BitVec 32)(k:D->Prop):cF .eql (u32 x) (u32 y) k=k (.raw (.bool (decide (x=y)))):=by
 simp only[cF,u32]
 by_cases h:x=y
 ·subst h;simp
 ·have:¬(x.toNat:Int)=(y.toNat:Int):=λe=>h (aaG (by omega))
  simp[h,this]
theorem Wn(s:JS)(q:BitVec 32):(jD s).set [0] (.raw (u32 q))=some (jD ⟨q,s.a,s.t,s.n⟩):=rfl
def Sl(rows:Rows)(d:D)(p:List (BitVec 8)):Prop:=ez d p\/∃r ex,d= .sl L8 r [] 0 p.length ex/\live rows r=some ⟨L8,bs p⟩
theorem Sl.to{rows:Rows}{d:D}{p:List (BitVec 8)}(h:Sl rows d p):aU rows d p:=by
 rcases h with h|⟨r,ex,rfl,h⟩
 ·exact h.to
 ·exact aU.own h _ rfl
theorem Sl.keep{rows aa:Rows}{d:D}{p:List (BitVec 8)}(h:Sl rows d p)(f:∀q row,live rows q=some row->live aa q=some row):Sl aa d p:=by
 rcases h with h|⟨r,ex,rfl,h⟩
 ·exact .inl h
 ·exact .inr ⟨r,ex,rfl,f _ _ h⟩
theorem Made.uX{rows rZ nD:Rows}{r m:Nat}{x y:List (BitVec 8)}(h:Made rows rZ r m x)(U:V7 rZ nD r m y):Made rows nD r m y:=
 ⟨U.fl,λq row hq=>U.frame q row (h.frame q row hq) (by have:=bb hq;have:=h.hm;omega),h.hr,h.hm⟩
theorem Made.more{rows rZ:Rows}{r m:Nat}{x:List (BitVec 8)}(h:Made rows rZ r m x)(L:Rows):Made rows (rZ++L) r m x:=
 ⟨h.fl.push L,λq row hq=>ae (h.frame q row hq) L,h.hr,h.hm⟩
structure JC (C:bf):Prop where
 nW:C.fn 45=none
 rW:C.fy 45=some (aQ CF 3 eB eA)
 nN:C.fn 43=none
 rN:C.fy 43=some (aQ CF 1 m8 mZ)
 cut:C.fn 17=some GJ
theorem YF{a b:List (BitVec 8)}(hl:a.length=b.length)(h:∀i,i<a.length->a.getD i 0#8=b.getD i 0#8):a=b:=by
 refine acH hl λi h1 h2=>?_
 have:=h i h1
 simpa[List.getD,h1,h2]using this
theorem erE0{x:List (BitVec 8)}{i:Nat}(hi:256*i+256<=x.length):erE x (i:Int)=0:=by
 simp only[erE,wN];rw[aaA (by omega)]
theorem Q4(x:List (BitVec 8))(i:Nat)(p w:List (BitVec 8))(hi:256*i+256<=x.length)(t:Nat)(ht:t<256*i\/256*i+256<=t):(pQ x i p w).getD t 0#8=x.getD t 0#8:=by
 unfold pQ Zx
 rw[aaI (erE0 hi),aaB]
 have hM:QK (wO (some (x,false)) (i:Int) 0 p) w<=256:=by unfold QK;omega
 rw[Hd _ _ _ _ _ _ (by omega),aaA (by omega)]
theorem YG(x:List (BitVec 8))(i:Nat)(p:List (BitVec 8))(hp:p.length<=256)(hi:256*i+256<=x.length):sub (pQ x i p fV) (256*i) 256=wO (some (x,false)) (i:Int) 0 p:=by
 have hd:=Wm x i p hp hi
 refine YF (by rw[hd];exact lS (by rw[uT];omega)) λj hj=>?_
 have oe:j<256:=by rw[lS (by rw[uT];omega)]at hj;exact hj
 rw[sub_get _ _ _ _ oe]
 unfold pQ Zx
 rw[aaI (erE0 hi),aaB]
 have hM:QK (wO (some (x,false)) (i:Int) 0 p) fV=256:=by unfold QK;rw[hd,ff_len];rfl
 rw[hM,Hd _ _ _ _ _ _ (by omega),aaI (by omega),adL,ff_get _ oe,teV_all]
theorem dat_nil(x:List (BitVec 8))(i:Int):wO (some (x,false)) i 0 []=fV:=by rw[wO,aaI rfl,fV]
theorem err_nil{x:List (BitVec 8)}{i:Nat}(hi:256*i+256<=x.length):tQ (some (x,false)) (i:Int) 0 []=0:=by
 have hP:wN (some (x,false)) (i:Int)=0:=erE0 hi
 rw[tQ,aaA (by rw[hP];simp),aaI rfl]
theorem err_wr{x p:List (BitVec 8)}{i:Nat}(hi:256*i+256<=x.length)(hp:p.length<=256)(hs:sub x (256*i) 256=fV):tQ (some (x,false)) (i:Int) 0 p=0:=by
 have hP:wN (some (x,false)) (i:Int)=0:=erE0 hi
 rw[tQ,aaA (by rw[hP];simp)]
 split
 ·rfl
 ·rw[aaA (by omega),aaI]
  rw[aaB]
  show clears ((sub x (256*i) 256).drop 0) p
  rw[hs,abi,fV]
  exact T6 _ _ hp
theorem JX(K:FV):jq K=32\/jq K=33:=by unfold jq;split<;>simp
theorem erased{x:List (BitVec 8)}{i:Nat}(hi:256*i+256<=x.length):sub (pQ x i [] fV) (256*i) 256=fV:=by
 rw[YG x i [] (by simp) hi,dat_nil]
theorem next_ok{x:List (BitVec 8)}{K:FV}{s:JS}{q:Nat}(hx:8704<=x.length):∀(j:Nat) (o:JO),(tz K s q)[j]?=some o->o.p.length<=256/\256*o.i+256<=x.length/\tQ (some (Uf x ((tz K s q).take j),false)) (o.i:Int) 0 o.p=0:=by
 have hi:256*jq K+256<=x.length:=by rcases JX K with h|h<;>rw[h]<;>omega
 intro j o h
 match j with
 |0=>cases h;exact⟨by simp,hi,err_nil hi⟩
 |1=>
  cases h
  refine⟨by rw[oQ];omega,hi,?_⟩
  show tQ (some (pQ x (jq K) [] fV,false)) (jq K:Int) 0 (gq (oC K s))=0
  exact err_wr (by rw[uT];exact hi) (by rw[oQ];omega) (erased hi)
 |j+2=>cases h
theorem next_out{x:List (BitVec 8)}{K:FV}{s:JS}{q:Nat}(hx:8704<=x.length)(t:Nat)(ht:t<256*jq K\/256*jq K+256<=t):(Uf x (tz K s q)).getD t 0#8=x.getD t 0#8:=by
 have hi:256*jq K+256<=x.length:=by rcases JX K with h|h<;>rw[h]<;>omega
 have HY:256*jq K+256<=(pQ x (jq K) [] fV).length:=by rw[uT];exact hi
 show(pQ (pQ x (jq K) [] fV) (jq K) (gq (oC K s)) fV).getD t 0#8=_
 rw[Q4 _ _ _ _ HY t ht,Q4 _ _ _ _ hi t ht]
def vwAt(x bD:List (BitVec 8))(least:Int)(i n:Nat):D:=
 if gT x bD least i=0 then Bs 0 (fD x i).1 (.sl L8 n [] 0 (fD x i).2.2.1.length false)else Bs (gT x bD least i) dP (.raw (.slice none 0 0))
def vwR(x bD:List (BitVec 8))(least:Int)(i:Nat):Rows:=if gT x bD least i=0 then[some ⟨L8,bs (fD x i).2.2.1⟩]else[]
theorem gE.rd{rows:Rows}{r m:Nat}{x:List (BitVec 8)}(h:gE rows r m x):∃e,bk rows (bx AA) (.ptr SF r [0]) (some (x,e)):=by
 obtain⟨e,hv⟩:=h.view
 exact⟨e,⟨_,hv,br yV _⟩,λh=>by simp[aR]at h⟩
theorem kLook{rows:Rows}{f m:Nat}{x bD:List (BitVec 8)}{dp:D}(hF:gE rows f m x)(hx:x.length=10240)(hp:aU rows dp bD)(sq:bD.length<=1000)(least:Int)(i:Nat)(hi:i<=1)(k:D->Rows->Prop):
  aI MD rows k [.ptr SF f [0],dp,.raw (it least),.raw (it (i:Int))]=k (vwAt x bD least i rows.length) (rows++vwR x bD least i):=by
 obtain⟨e,hr⟩:=hF.rd
 refine(uK hr (.bs hp) (.int _) (.int _) (by simp[nf,hx,sq];omega) ?_ k).trans ?_
 ·simp only[YB,Bs,cw]
  split<;>simp[cj,jG,be,Sh.pure]
 ·simp only[YB,vwAt,vwR,aaB,oB]
  by_cases c:gT x bD least i=0<;>simp[c,Bs,cw,shift,bB,ab,Sh.pure]
theorem cslot_ok(C:bf)(hC:aJ C P):aN C.aX P 130 (Fn.run Dq):=by
 refine aG (KQ C hC) λds rows r h=>?_
 obtain⟨d,i,rfl,rfl,hd,hp,rfl⟩:=a8 h
 cases bK hd
 refine⟨rfl,ag rfl ?_⟩
 clear h hd
 unfold z9 Aa lD
 by_cases c0:i=0
 ·simp only[↓ah,aj,simprocAttr,c0,aav,adS]
  exact .val _ rfl
 ·simp only[↓ah,aj,simprocAttr,c0,aaw,acy]
  exact .val _ rfl
structure Cho where
 i:Int
 s:JS
 c:Bool
 t:Bool
 e:Int
abbrev SCo:Sh:= .cons LI (.cons SJ (.cons LB (.cons LB (.cons LI .nil))))
def Ow(c:Cho):D:= .agg SCo [.raw (it c.i),jD c.s,.raw (.bool c.c),.raw (.bool c.t),.raw (it c.e)]
def rdBo:D->Option Bool
 | .raw (.bool b)=>some b
 | _=>none
theorem YH{d:D}{b:Bool}(h:rdBo d=some b):d= .raw (.bool b):=by
 unfold rdBo at h
 split at h
 ·cases h;rfl
 ·cases h
noncomputable def Hj:Fn:=Zw tH (bx jD) (bx jD) rdBo (λ_ _ _ _=>true) λi n w t=>(Ow ⟨i,n,!decide (n=w),t,0⟩,[])
theorem YI(C:bf)(hC:aJ C P):aN C.aX P 134 (Fn.run Hj):=by
 refine aG (GA C hC) λds rows r h=>?_
 obtain⟨d0,d1,d2,d3,i,n,w,t,rfl,rfl,hd,he,hf,hg,hp,rfl⟩:=rQ h
 cases bK hd
 cases aE he
 cases aE hf
 cases YH hg
 refine⟨rfl,ag rfl ?_⟩
 clear h hd he hf hg
 unfold wh wj
 have hz:D.agg SJ [.raw (u32 0#32),.raw (it 0),.raw (it 0),.raw (it 0)]=jD ⟨0#32,0,0,0⟩:=rfl
 have e:=TO n w
 simp only[hz]
 simp only[↓ah,aj,simprocAttr,aM,cN,e]
 exact .val _ rfl
theorem kChosen(rows:Rows)(k:D->Rows->Prop)(i:Int)(n w:JS)(t:Bool):aI Hj rows k [.raw (it i),jD n,jD w,.raw (.bool t)]=k (Ow ⟨i,n,!decide (n=w),t,0⟩) rows:=by
 refine(a9 rfl (TI (lc i) (br Bm n) (br Bm w) (x3:=t) rfl rfl)).trans ?_
 simp[Ow,jD,shift,bB,ab,Sh.pure]
def K7(e0 e1 i:Int):Bool:=(decide (i=0)&&decide (e0=0))||(decide (i=1)&&decide (e1=0))
def sE(jy:Int)(s:JS)(e0 e1:Int):Cho:=
 if jy=4 then⟨-1,s,false,false,17⟩else if jy<1\/3<jy then⟨-1,s,false,false,14⟩else
 bif K7 e0 e1 s.t&&decide (s.n<3)then⟨s.t,⟨s.q,s.a,s.t,s.n+1⟩,true,true,0⟩else
 bif K7 e0 e1 s.a then⟨s.a,⟨s.q,s.a,-1,0⟩,!decide ((⟨s.q,s.a,-1,0⟩:JS)=s),false,0⟩else
 bif K7 e0 e1 (1-s.a)then⟨1-s.a,⟨s.q,1-s.a,-1,0⟩,!decide ((⟨s.q,1-s.a,-1,0⟩:JS)=s),false,0⟩else
 ⟨-1,⟨s.q,s.a,-1,0⟩,!decide ((⟨s.q,s.a,-1,0⟩:JS)=s),false,3⟩
def e2D(x:Int×Int):D:= .agg (.ar 2 LI) [.raw (it x.1),.raw (it x.2)]
theorem e2D_inj(x y:Int×Int)(h:e2D x=e2D y):x=y:=by
 simp only[e2D,D.agg.injEq,abC,D.raw.injEq,Ik,acg,aa2]at h
 exact Prod.ext h.1 h.2
noncomputable def Ug:Fn:=GY tH (bx jD) (bx e2D) (λ_ s _=>eV s) λl s x=>(Ow (sE l s x.1 x.2),[])
theorem ym(C C1:bf)(hs:C1.fn 130=some Dq){rows:Rows}{r:Nat}{e0 e1 i:Int}(hr:live rows r=some ⟨.ar 2 LI,[e2D (e0,e1)]⟩){K:D->Rows->Prop}(hk:K (.raw (.bool (K7 e0 e1 i))) rows):
  aQ C1 2 iB iA [.raw (it i),.ptr (.ar 2 LI) r [0]] rows K:=by
 refine ag rfl ?_
 unfold iA iB
 have ks:=λrows k=>kSlot rows k i
 unfold K7 at hk
 simp only[e2D]at hr
 by_cases c0:i=0
 ·subst c0
  simp only[↓ah,aj,simprocAttr,hs,ks,lD,hr]
  simpa using hk
 ·by_cases c1:i=1
  ·subst c1
   simp only[↓ah,aj,simprocAttr,hs,ks,lD,hr]
   simpa using hk
  ·simp only[↓ah,aj,simprocAttr,hs,ks,lD,c0,c1]
   simpa[c0,c1]using hk
theorem sel_ok(C C1:bf)(hC:aJ C P)(hs:C1.fn 130=some Dq)(hc:C.fn 134=some Hj)(n0:C.fn 133=none)(r0:C.fy 133=some (aQ C1 2 iB iA)):aN C.aX P 70 (Fn.run Ug):=by
 refine aG (Gu C hC) λds rows r h=>?_
 obtain⟨d0,d1,d2,l,s,⟨e0,e1⟩,rfl,rfl,hd,he,hf,hp,rfl⟩:=fp h
 cases bK hd
 cases aE he
 cases aE hf
 refine⟨rfl,ag rfl ?_⟩
 clear h hd he hf
 unfold vV vW
 have hz:D.agg SJ [.raw (u32 0#32),.raw (it 0),.raw (it 0),.raw (it 0)]=jD ⟨0#32,0,0,0⟩:=rfl
 have ef:(e2D (e0,e1)).fits (.ar 2 LI)=true:=rfl
 have hmb:MY 133 []=false:=rfl
 simp only[hz,sE]
 by_cases c1:l=4
 ·have K4:(l=4)=True:=aas c1
  simp only[↓ah,aj,simprocAttr,aM,cN,ef,K4,abX]
  exact .val _ rfl
 have K4:(l=4)=False:=aax c1
 by_cases c2:l<1
 ·have c2':(l<1)=True:=aas c2
  simp only[↓ah,aj,simprocAttr,aM,cN,ef,K4,c2',abX,abW,aeG]
  exact .val _ rfl
 have c2':(l<1)=False:=aax c2
 by_cases c3:3<l
 ·have Ou:(3<l)=True:=aas c3
  simp only[↓ah,aj,simprocAttr,aM,cN,ef,K4,c2',Ou,abX,abW,aep]
  exact .val _ rfl
 have Ou:(3<l)=False:=aax c3
 have kc:=λrows k=>kChosen rows k
 obtain⟨q,a,t,n⟩:=s
 have hr:(a=0\/a=1)/\0<=n/\n<=3:=by
  simp only[eV,lD,aan,abI,aat]at hp
  exact⟨hp.1.1.1,hp.1.2,hp.2⟩
 clear hp hz hmb
 have js1:∀s v,(jD s).set [1] (.raw (it v))=some (jD ⟨s.q,v,s.t,s.n⟩):=λ_ _=>rfl
 have js2:∀s v,(jD s).set [2] (.raw (it v))=some (jD ⟨s.q,s.a,v,s.n⟩):=λ_ _=>rfl
 have js3:∀s v,(jD s).set [3] (.raw (it v))=some (jD ⟨s.q,s.a,s.t,v⟩):=λ_ _=>rfl
 have w1:wz (n+1)=n+1:=aZ (by omega)
 have w2:wz (1-a)=1-a:=aZ (by omega)
 have cf:∀c,(Ow c).fits SCo=true:=λ_=>rfl
 have hne:(⟨q,a,t,n+1⟩:JS)≠⟨q,a,t,n⟩:=λh=>by injection h;omega
 have Fw:decide ((⟨q,a,t,n+1⟩:JS)=⟨q,a,t,n⟩)=false:=aaJ hne
 simp only[↓ah,aj,simprocAttr,aM,cN,ef,K4,c2',Ou,abW,or_self,F7,jD_g2,VC,n0,r0]
 refine⟨rfl,ym C C1 hs rfl ?_⟩
 cases k1:K7 e0 e1 t&&decide (n<3)with
 |true=>
  obtain⟨k2,k3⟩:=acY.1 k1
  have k3':(n<3)=True:=aas (ac1 k3)
  simp only[↓ah,aj,simprocAttr,aM,k2,k3',cN,jD_g2,VC,js3,w1,hc,kc,Fw,cf]
  exact .val _ rfl
 | false =>
  simp only[aaM]
  have k4:K7 e0 e1 t=false\/K7 e0 e1 t=true/\(n<3)=False:=by
   cases h:K7 e0 e1 t
   ·exact .inl rfl
   ·rw[h,abA]at k1
    exact .inr ⟨rfl,aax (aei k1)⟩
  rcases k4 with k2|⟨k2,k3⟩
  ·simp only[↓ah,aj,simprocAttr,aM,k2,cN,F7,js2,js3,n0,r0]
   refine⟨rfl,ym C C1 hs rfl ?_⟩
   cases k5:K7 e0 e1 a with
   |true=>
    simp only[↓ah,aj,simprocAttr,aM,k5,cN,F7,hc,kc,cf]
    exact .val _ rfl
   | false =>
    simp only[↓ah,aj,simprocAttr,aM,k5,cN,F7,w2,n0,r0]
    refine⟨rfl,ym C C1 hs rfl ?_⟩
    cases k6:K7 e0 e1 (1-a)with
    |true=>
     simp only[↓ah,aj,simprocAttr,aM,k6,cN,js1,hc,kc,cf]
     exact .val _ rfl
    |false=>
     simp only[↓ah,aj,simprocAttr,aM,k6,cN,TO]
     exact .val _ rfl
  ·simp only[↓ah,aj,simprocAttr,aM,k2,k3,cN,F7,VC,js2,js3,n0,r0]
   refine⟨rfl,ym C C1 hs rfl ?_⟩
   cases k5:K7 e0 e1 a with
   |true=>
    simp only[↓ah,aj,simprocAttr,aM,k5,cN,F7,hc,kc,cf]
    exact .val _ rfl
   | false =>
    simp only[↓ah,aj,simprocAttr,aM,k5,cN,F7,w2,n0,r0]
    refine⟨rfl,ym C C1 hs rfl ?_⟩
    cases k6:K7 e0 e1 (1-a)with
    |true=>
     simp only[↓ah,aj,simprocAttr,aM,k6,cN,js1,hc,kc,cf]
     exact .val _ rfl
    |false=>
     simp only[↓ah,aj,simprocAttr,aM,k6,cN,TO]
     exact .val _ rfl
theorem kSel(rows:Rows)(k:D->Rows->Prop)(l:Int)(s:JS)(hs:eV s=true)(e0 e1:Int):aI Ug rows k [.raw (it l),jD s,.agg (.ar 2 LI) [.raw (it e0),.raw (it e1)]]=k (Ow (sE l s e0 e1)) rows:=by
 refine(a9 rfl (r:=(Ow (sE l s e0 e1),[])) ?_).trans ?_
 ·have h:=br e2D_inj (e0,e1)
  simp only[Ug,Bf,lc,br Bm,abc,hs]
  rw[show D.agg (.ar 2 LI) [.raw (it e0),.raw (it e1)]=e2D (e0,e1)from rfl,h]
  rfl
 ·simp[Ow,jD,shift,bB,ab,Sh.pure]
abbrev Uh:Sh:= .ar 4 (.ar 32 L8)
abbrev Wo:Sh:= .cons Uh .nil
def K8(r:List (List (BitVec 8))):D:= .agg Uh (r.map aO)
theorem DI:∀{a b:List (List (BitVec 8))},a.map aO=b.map aO->a=b
 |[],[],_=>rfl
 |[],_::_,h=>by simp at h
 | _::_,[],h=>by simp at h
 |x::a,y::b,h=>by
  simp only[abq,abC]at h
  rw[yc _ _ h.1,DI h.2]
theorem Q5(x y:List (List (BitVec 8)))(h:K8 x=K8 y):x=y:=by
 injection h with _ h;exact DI h
def iU(r:List (List (BitVec 8))):D:= .agg Wo [K8 r]
theorem YJ(x y:List (List (BitVec 8)))(h:iU x=iU y):x=y:=by
 injection h with _ h
 injection h with h _
 exact Q5 _ _ h
def Wp(r:List (List (BitVec 8))):Bool:=decide (r.length=4)&&Jj r
theorem E4{r:List (List (BitVec 8))}:Wp r=true↔r.length=4/\∀x∈r,x.length=32:=by simp[Wp,py]
theorem all_pure(r:List (List (BitVec 8)))(rows:Rows):bk rows (bx K8) (K8 r) r:=bk.agg rfl (br Q5 r)
theorem MF(r:List (List (BitVec 8)))(rows:Rows):bk rows (bx iU) (iU r) r:=bk.agg rfl (br YJ r)
theorem JY{r:List (List (BitVec 8))}(h:Wp r=true):r.flatten.length=128:=by
 obtain⟨h4,qE⟩:=E4.1 h
 rw[px qE,h4]
theorem okR_get{r:List (List (BitVec 8))}(h:Wp r=true){i:Nat}(hi:i<4):(r.getD i []).length=32:=by
 obtain⟨h4,qE⟩:=E4.1 h
 have hi':i<r.length:=by omega
 rw[aaH,aap hi']
 exact qE _ (abz hi')
def Wq(i:Int):Bool:=decide (0<=i)&&decide (i<4)
def Ox:Fn:=mV tH (λ_=>true) λi=>(.raw (.bool (Wq i)),[])
theorem there_ok(C:bf)(hC:aJ C P):aN C.aX P 193 (Fn.run Ox):=by
 refine aG (NM C hC) λds rows r h=>?_
 obtain⟨d,i,rfl,rfl,hd,hp,rfl⟩:=a8 h
 cases bK hd
 refine⟨rfl,ag rfl ?_⟩
 clear h hd
 unfold CW CX
 by_cases h0:0<=i
 ·have e0:(0<=i)=True:=aas h0
  by_cases h1:i<4
  ·have e1:(i<4)=True:=aas h1
   have e:Wq i=true:=by simp[Wq,h0,h1]
   simp only[↓ah,aj,simprocAttr,e0,e1,e,aav]
   exact .val _ rfl
  ·have e1:(i<4)=False:=aax h1
   have e:Wq i=false:=by simp[Wq,h0,h1]
   simp only[↓ah,aj,simprocAttr,e0,e1,e,aav,aaw]
   exact .val _ rfl
 ·have e0:(0<=i)=False:=aax h0
  have e:Wq i=false:=by simp[Wq,h0]
  simp only[↓ah,aj,simprocAttr,e0,e,aaw]
  exact .val _ rfl
theorem kThere(rows:Rows)(k:D->Rows->Prop)(i:Int):aI Ox rows k [.raw (it i)]=k (.raw (.bool (Wq i))) rows:=by
 refine(cO (bk.int _) rfl rfl k).trans ?_
 simp[shift,ab]
def zR:List (List (BitVec 8)):=List.replicate 4 qg
theorem zR_eq:List.replicate 4 (D.agg (.ar 32 L8) (bs qg))=zR.map aO:=rfl
def JZ:Fn
 |[],[]=>some (iU zR,[])
 | _,_=>none
theorem msnew_ok(C:bf)(hC:aJ C P):aN C.aX P 129 (Fn.run JZ):=by
 refine aG (Tr C hC) λds rows r h=>?_
 unfold JZ at h
 split at h
 ·cases h
  refine⟨rfl,ag rfl ?_⟩
  unfold IJ IK
  simp only[dw,zR_eq]
  simp only[↓ah,aj,simprocAttr,aM]
  exact .val _ rfl
 ·cases h
theorem kMsNew(rows:Rows)(k:D->Rows->Prop):aI JZ rows k []=k (iU zR) rows:=by
 refine(a9 rfl (r:=(iU zR,[])) rfl).trans ?_
 simp[shift,ab,iU,K8,Sh.pure]
noncomputable def Oy:Fn:=mV (bx K8) Wp λr=>dF r.flatten false
theorem mtext_ok(C:bf)(hC:aJ C P):aN C.aX P 195 (Fn.run Oy):=by
 refine aG (P9 C hC) λds rows r h=>?_
 obtain⟨d,l,rfl,rfl,hd,hp,rfl⟩:=a8 h
 cases aE hd
 obtain⟨h4,qE⟩:=E4.1 hp
 refine⟨rfl,ag rfl ?_⟩
 clear h hd
 unfold F0 F1
 simp only[dw]
 simp only[K8,↓ah,aj,simprocAttr,aM]
 have hlt:∀i,i<=4->((l.take i).flatten).length=32*i:=λi hi=>by
  rw[px (λx hx=>qE x (aa1 hx)),aau]
  omega
 refine bg 4 (λi env rows=>has env [(7,.raw (it (i:Int))),(6,.agg Uh (l.map aO))]/\∃d,look env 3=some d/\iT L8 d rows (bs (l.take i).flatten)) ?_ ?_ ⟨?_,_,by simp only[↓ah,aj,simprocAttr],.nil⟩
 ·rintro i hi env rows ⟨hh,d,h3,hO⟩ R hR
  simp only[has]at hh
  have e0:((i:Int)<4)=True:=aas (by omega)
  have b0:∀n:Nat,((0:Int)<=(n:Int))=True:=λn=>aas (by omega)
  have e1:=ca i (by omega)
  have hi':i<l.length:=by omega
  have hx:=qE _ (abz hi')
  have g:(l.map aO)[i]?=some (.agg (.ar 32 L8) (bs l[i])):=by simp[aO,hi']
  have hs:(l.take i).flatten++l[i]=(l.take (i+1)).flatten:=by
   rw[aaR hi',abU];simp
  have hlen:=hlt i (by omega)
  generalize l[i]=xi at*
  have ea:∀ex,elems (rows++[some ⟨.ar 32 L8,[.agg (.ar 32 L8) (bs xi)]⟩]) (.sl L8 rows.length [0] 0 32 ex)=some (bs xi):=λex=>oP (n:=32) (by rw[bw];rfl) rfl hx
  simp only[↓ah,aj,simprocAttr,aM,hh,e0,e1,b0,h3,g,ea,aB,hx]
  refine iq (hO.push) (by rw[aB,aB,hx,hlen];simp[most];omega) (by rw[aB,aB,hx,hlen];simp[most];omega) λd' aa F6 qo wv _=>?_
  rw[j3,hs]at F6
  simp only[↓ah,aj,simprocAttr,aM,hh,e1]
  exact hR _ _ ⟨by simp only[has,↓ah,aj,simprocAttr,hh],d',by simp only[↓ah,aj,simprocAttr],F6⟩
 ·rintro env rows ⟨hh,d,h3,hO⟩ R
  simp only[has]at hh
  rw[aaq (by omega)]at hO
  simp only[↓ah,aj,simprocAttr,aM,hh,h3,hO.pM]
  exact hO.Nl
 ·simp only[has,↓ah,aj,simprocAttr]
theorem kMText(rows:Rows)(k:D->Rows->Prop)(r:List (List (BitVec 8)))(h:Wp r=true):aI Oy rows k [K8 r]=k (.sl L8 (0+rows.length) [] 0 128 false) (rows++[some ⟨L8,bs r.flatten⟩]):=by
 refine(cO (all_pure r rows) h rfl k).trans ?_
 simp[dF,shift,ab,Sh.pure,JY h]
def Oz(r:List (List (BitVec 8)))(i:Int)(p:List (BitVec 8)):List (List (BitVec 8)):=bif Wq i then r.set i.toNat (cM (r.getD i.toNat []++cM p))else r
theorem extR_ok{r:List (List (BitVec 8))}(h:Wp r=true)(i:Int)(p:List (BitVec 8)):Wp (Oz r i p)=true:=by
 unfold Oz
 cases Wq i with
 |false=>exact h
 |true=>
  obtain⟨h4,qE⟩:=E4.1 h
  refine E4.2 ⟨by simp[h4],λx hx=>?_⟩
  simp only[aaU]at hx
  rcases adz hx with h1|h1
  ·exact qE x h1
  ·rw[h1];exact cm _
noncomputable def DJ:Fn:=GY (bx iU) tH rM (λr _ ls=>Wp r&&(Nat.ble ls.length most&&Nat.ble ls.flatten.length most)) λr i ls=>(.cA [iU (Oz r i ls.flatten),.raw (it (bif Wq i then 0 else 1))],[])
theorem YK(C:bf)(hC:aJ C P)(h1:C.fn 193=some Ox)(h2:C.fn 95=some Di):aN C.aX P 174 (Fn.run DJ):=by
 refine aG (Bb C hC) λds rows r h=>?_
 obtain⟨d0,d1,d2,r,i,ls,rfl,rfl,g0,g1,g2,hp,rfl⟩:=fp h
 cases aE g0
 cases bK g1
 obtain⟨l,e,rfl,hl⟩:=vC g2
 simp only[aan,abo]at hp
 obtain⟨hr,Mc,sq⟩:=hp
 unfold most at Mc sq
 obtain⟨h4,qE⟩:=E4.1 hr
 refine⟨rfl,ag rfl ?_⟩
 clear h g0 g1 g2
 unfold rD rE
 have zr:D.agg Wo [.agg Uh (List.replicate 4 (.agg (.ar 32 L8) (bs qg)))]=iU zR:=rfl
 have mf:∀r,D.fits (iU r) Wo=true:=λ_=>rfl
 simp only[dw,zr]
 simp only[↓ah,aj,simprocAttr,aM,h1,kThere,mf]
 cases hi:Wq i with
 |false=>
  have hx:Oz r i ls.flatten=r:=by simp[Oz,hi]
  rw[hx]
  simp only[↓ah,aj,simprocAttr,aM,mf]
  exact .val _ rfl
 | true =>
  have HY:0<=i/\i<4:=by simpa[Wq]using hi
  obtain⟨n,rfl⟩:=aaD HY.1
  have hn:n<4:=by omega
  have kS:∀(rows:Rows) k,aI Di rows k [.cI .ref l e]=k (.agg (.ar 32 L8) (bs (cM ls.flatten))) rows:=λrows k=>by
   have hv:bk rows rM (.cI .ref l e) ls:=by
    have nV:=hl
    refine⟨?_,λ_=>hl⟩
    obtain⟨hlen,lK⟩:=kU hl
    have hv:bd (λx y=>aU rows x y) l ls:=⟨hlen.symm,λi x y hx hy=>(dR (lK i x y hx hy)).to⟩
    obtain⟨l',q1,q2⟩:=rP hv
    exact⟨.cI .ref l' e,by simp only[view,Sh.pure,aaM,q1],by simpa[rM]using q2⟩
   refine(cO hv (by simp only[aan,abo];exact⟨Mc,sq⟩) (by simp[aO,cj,be,Sh.pure]) k).trans ?_
   simp[aO,shift,ab,Sh.pure]
  have e0:((n:Int)<4)=True:=aas (by omega)
  have b0:((0:Int)<=(n:Int))=True:=aas (by omega)
  have g:∀x,(D.agg Uh (r.map aO)).set [n] x=some (.agg Uh ((r.map aO).set n x)):=λx=>by simp[D.set,h4,hn]
  simp only[↓ah,aj,simprocAttr,aM,h2,kS,e0,b0,iU,K8]
  have SA:n<r.length:=by omega
  have hx:(r.getD n []).length=32:=okR_get hr hn
  have hg:dC [D.agg Wo [D.agg Uh (r.map aO)]] [0,0,n]=some (.agg (.ar 32 L8) (bs (r.getD n []))):=by
   simp[dC,D.get,List.getD,SA,aO]
  have hy:=cm ls.flatten
  refine Eq.mpr (N0 _ _ _ 2 _ _ [r.getD n [],cM ls.flatten] rfl rfl (.cons (aU.tf (n:=32) rfl hg hx) (.cons (aU.tf (n:=32) rfl rfl hy) .nil)) (by simp) (by simp only[abl,abn,aao,aaT,hx,hy];omega)) ?_
  have e:cM [r.getD n [],cM ls.flatten].flatten=cM (r.getD n []++cM ls.flatten):=by simp
  have hm:(r.map aO).set n (.agg (.ar 32 L8) (bs (cM (r.getD n []++cM ls.flatten))))=(r.set n (cM (r.getD n []++cM ls.flatten))).map aO:=by
   rw[acr];rfl
  have hxx:Oz r (n:Int) ls.flatten=r.set n (cM (r.getD n []++cM ls.flatten)):=by simp[Oz,hi]
  rw[e,hxx]
  simp only[↓ah,aj,simprocAttr,aM,e0,b0,g,hm]
  exact .val _ rfl
theorem kExtend(rows:Rows)(k:D->Rows->Prop)(r:List (List (BitVec 8)))(i:Int)(q n:Nat)(ex:Bool)(l:List D)(ls:List (List (BitVec 8)))(h:Wp r=true)(hl:live rows q=some ⟨.ref,l⟩)(hn:l.length=n)
  (hv:bd (λx y=>aU rows x y) l ls)(hp:ls.length<=1099511627776)(sq:ls.flatten.length<=1099511627776):
  aI DJ rows k [iU r,.raw (it i),.sl .ref q [] 0 n ex]=k (.cA [iU (Oz r i ls.flatten),.raw (it (bif Wq i then 0 else 1))]) rows:=by
 refine(fH (MF r rows) (bk.int i) (bk.parts hl hn hv) (by simp only[aan,abo];exact⟨h,hp,sq⟩) (by simp[cj,jG,be,iU,Sh.pure]) k).trans ?_
 simp[shift,bB,ab,iU,Sh.pure]
end jU
end Go.Am
namespace Go.Am
attribute [local congr] dq bW dt bX bY cB bI bZ b5 cC bu cD b6 dj
namespace jU
open Go.Am.F
namespace Ms
def fx(n:Nat):List (BitVec 8):=[BitVec.ofNat 8 (n/16777216),BitVec.ofNat 8 (n/65536),BitVec.ofNat 8 (n/256),BitVec.ofNat 8 n]
theorem QU(n:Nat):(fx n).length=4:=rfl
theorem Oo(n:Int)(m:BitVec 64)(k:D->Prop):cF .shr (it n) (u64 m) k=k (.raw (it (n.fdiv (2^(min m.toNat 64))))):=by
 simp only[cF,it,u64,aaB,IntKind.bits]
 simp
theorem pC(n m:Nat):(n:Int).fdiv (m:Int)=((n/m:Nat):Int):=by
 rw[ace _ (by omega)];rfl
end Ms
open Ms
theorem bk.cI{rows:Rows}{e:Bool}{l:List D}{ls:List (List (BitVec 8))}(h:bd (λx y=>ez x y) l ls):bk rows rM (.cI .ref l e) ls:=by
 have h0:∀(l:List D) (ls:List (List (BitVec 8))),bd (λx y=>ez x y) l ls->dU dB l=some ls:=by
  intro l
  induction l with
  |nil=>intro ls h;have:=h.len;cases ls with
   |nil=>rfl
   |cons _ _=>simp at this
  |cons x l ih=>intro ls h;cases ls with
   |nil=>have:=h.len;simp at this
   |cons y ls=>simp only[dU,h.head.rd,ih ls h.tail]
 refine⟨?_,λ_=>by simpa[rM]using h0 l ls h⟩
 obtain⟨l',q1,q2⟩:=rP (rows:=rows) (h.mono λx y hb=>ez.to hb)
 exact⟨.cI .ref l' e,by simp only[view,Sh.pure,aaM,q1],by simpa[rM]using q2⟩
def quo:List (BitVec 8):=[81#8,85#8,79#8,84#8]
end jU
end Go.Am
namespace Go.Am
attribute [local congr] dq bW dt bX bY cB bI bZ b5 cC bu cD b6 dj
namespace jU
open Go.Am.F
open Ms
abbrev SPl:Sh:= .cons LI (.cons (.ar 32 L8) .nil)
abbrev wR:Sh:= .cons (.ar 8 SPl) (.cons LB (.cons LB .nil))
def plD(p:Int×List (BitVec 8)):D:= .agg SPl [.raw (it p.1),.agg (.ar 32 L8) (bs p.2)]
def gJ(l:List (Int×List (BitVec 8))):D:= .agg wR [.agg (.ar 8 SPl) (l.map plD),.raw (.bool false),.raw (.bool false)]
theorem uU{l:List (Int×List (BitVec 8))}{h:Nat}(hh:h<l.length):dC [gJ l] [0,0,h,0]=some (.raw (it (l[h]).1)):=by
 simp[dC,D.get,gJ,hh,plD]
theorem slot_key{l:List (Int×List (BitVec 8))}{h:Nat}(hh:h<l.length):dC [gJ l] [0,0,h,1]=some (.agg (.ar 32 L8) (bs (l[h]).2)):=by
 simp[dC,D.get,gJ,hh,plD]
theorem YL(l:List (Int×List (BitVec 8))):dC [gJ l] [0,1]=some (.raw (.bool false)):=rfl
theorem MG(l:List (Int×List (BitVec 8))):dC [gJ l] [0,2]=some (.raw (.bool false)):=rfl
theorem J0{l:List (Int×List (BitVec 8))}{h:Nat}(hh:h<l.length)(p:Int×List (BitVec 8)):mA [gJ l] [0,0,h] (plD p)=some [gJ (l.set h p)]:=by
 simp[mA,D.set,gJ,hh,acr]
theorem OA(C C1:bf){rows:Rows}{r q h:Nat}{ex:Bool}{l:List (Int×List (BitVec 8))}(hr:live rows r=some ⟨wR,[gJ l]⟩)(hq:live rows q=some ⟨LI,[.raw (it (h:Int))]⟩)(hl:l.length=8)(hh:h<8)
  (nw:C.fn 205=none)(Ws:C.fy 205=some (aQ C1 2 cZ cY)){K:D->Rows->Prop}(hk:K (.raw (it 0)) rows):
  aQ C 2 fG fF [.ptr wR r [0],.sl LI q [] 0 1 ex] rows K:=by
 refine ag rfl ?_
 unfold fF fG
 have hd:=MG l
 have e0:((0:Int)<=(h:Int))=True:=aas (by omega)
 have e1:((h:Int)<8)=True:=aas (by omega)
 simp only[↓ah,aj,simprocAttr,aM,hr,hd]
 refine bg 1 (λi env rs=>has env [(17,.raw (it (i:Int))),(16,.raw (it 1)),(15,.sl LI q [] 0 1 ex),(0,.ptr wR r [0])]/\rs=rows) ?_ ?_ ⟨?_,rfl⟩
 ·rintro i hi env rs ⟨hv,rfl⟩ R hR
  simp only[has]at hv
  have hi0:i=0:=by omega
  subst hi0
  simp only[↓ah,aj,simprocAttr,aM,hv,hr,hq,nG,nw,Ws,cY,cZ,e0,e1,adw]
  exact hR _ _ ⟨by simp only[has,↓ah,aj,simprocAttr,hv],rfl⟩
 ·rintro env rs ⟨hv,rfl⟩ R
  simp only[has]at hv
  simp only[↓ah,aj,simprocAttr,aM,hv]
  exact hk
 ·simp only[has,↓ah,aj,simprocAttr]
def Kept(rows aa:Rows):Prop:=∀q row,live rows q=some row->live aa q=some row
theorem Kept.refl(rows:Rows):Kept rows rows:=λ_ _ h=>h
theorem Kept.app(rows L:Rows):Kept rows (rows++L):=λ_ _ h=>ae h L
theorem Kept.trans{a b c:Rows}(h:Kept a b)(h':Kept b c):Kept a c:=λq row hq=>h' q row (h q row hq)
theorem Kept.set{a b:Rows}{q:Nat}{x:Option Row}(h:Kept a b)(hq:live a q=none):Kept a (b.set q x):=λq' row hq'=>by
 have:q≠q':=λe=>by rw[e,hq']at hq;cases hq
 rw[az this];exact h q' row hq'
structure SlC (C1 C:bf):Prop where
 nm:C.fn 196=none
 rm:C.fy 196=some (aQ C1 2 fG fF)
 nw:C1.fn 205=none
 Ws:∃C0,C1.fy 205=some (aQ C0 2 cZ cY)
theorem key_run(C C1:bf)(hC:SlC C1 C){rows:Rows}{r h:Nat}{l:List (Int×List (BitVec 8))}(hr:live rows r=some ⟨wR,[gJ l]⟩)(hl:l.length=8)(hh:h<8){K:D->Rows->Prop}
  (hk:∀aa,Kept rows aa->K (.cA [bif decide ((l.getD h (0,[])).1=0)then .raw (.slice none 0 0)else .sl L8 r [0,0,h,1] 0 32 true,.raw (it (bif decide ((l.getD h (0,[])).1=0)then 3 else 0))]) aa):
  aQ C 2 jl jk [.ptr wR r [0],.raw (it (h:Int))] rows K:=by
 obtain⟨nm,rm,nw,C0,Ws⟩:=hC
 refine ag rfl ?_
 unfold jk jl
 have e0:((0:Int)<=(h:Int))=True:=aas (by omega)
 have e1:((h:Int)<8)=True:=aas (by omega)
 have uY:=λL=>ae hr L
 have Gn:=uU (l:=l) (h:=h) (by omega)
 have hg:l.getD h (0,[])=l[h]'(by omega):=by simp[List.getD,(by omega:h<l.length)]
 rw[hg]at hk
 simp only[↓ah,aj,simprocAttr,aM,nm,rm]
 refine OA (q:=rows.length) C1 C0 (uY _) (by rw[bw];rfl) hl hh nw Ws ?_
 simp only[↓ah,aj,simprocAttr,aM,uY,Gn,e0,e1]
 by_cases hz:(l[h]'(by omega)).1=0
 ·have Kw:((l[h]'(by omega)).1=0)=True:=aas hz
  have:=hk _ (Kept.app rows [some ⟨LI,[.raw (it (h:Int))]⟩])
  rw[aaY hz]at this
  simp only[↓ah,aj,simprocAttr,aM,Kw,aav]
  exact this
 ·have Kw:((l[h]'(by omega)).1=0)=False:=aax hz
  have:=hk _ (Kept.app rows [some ⟨LI,[.raw (it (h:Int))]⟩])
  rw[aaJ hz]at this
  simp only[↓ah,aj,simprocAttr,aM,Kw,aaw,e0,e1]
  exact this
end jU
end Go.Am
namespace Go.Am
attribute [local congr] dq bW dt bX bY cB bI bZ b5 cC bu cD b6 dj
namespace jU
open Go.Am.F
def Fr(S:List Nat)(rows aa:Rows):Prop:=∀q row,live rows q=some row->q∉S->live aa q=some row
theorem Fr.refl(S:List Nat)(rows:Rows):Fr S rows rows:=λ_ _ h _=>h
theorem Fr.app(S:List Nat)(rows L:Rows):Fr S rows (rows++L):=λ_ _ h _=>a7 h
theorem Fr.trans{S:List Nat}{a b c:Rows}(h:Fr S a b)(h':Fr S b c):Fr S a c:=λq row hq hn=>h' q row (h q row hq hn) hn
theorem Fr.mono{S S':List Nat}{a b:Rows}(h:Fr S a b)(hs:∀x∈S,x∈S'):Fr S' a b:=λq row hq hn=>h q row hq λh=>hn (hs _ h)
theorem Fr.set{S:List Nat}{a b:Rows}(h:Fr S a b){r:Nat}(hr:r∈S)(x:Option Row):Fr S a (b.set r x):=λq row hq hn=>by
 rw[az λe=>hn (by rw[<-e];exact hr)];exact h q row hq hn
theorem Fr.of{S:List Nat}{a b:Rows}(h:bG a b):Fr S a b:=λq row hq _=>h q row hq
theorem gU{rows:Rows}{a b:Nat}{s t:Sh}{l l':List D}(h:live rows a=some ⟨s,l⟩)(h':live rows b=some ⟨t,l'⟩)(hs:s≠t):a≠b:=λe=>by
 rw[e,h']at h
 injection h with h
 injection h with h _
 exact hs h.symm
theorem yY{rows:Rows}{b:Nat}{y:Row}(hb:live rows b=some y):(∀l X,(rows++l).set b X=rows.set b X++l)/\(∀X Y l,(rows.set b X++l).set b Y=rows.set b Y++l)/\(∀X l,live (rows.set b (some X)++l) b=some X)/\(∀X l,live (rows.set b X++l) rows.length=live l 0)/\
  (∀X l k,live (rows.set b X++l) (rows.length+k)=live l k)/\(∀X l Y,(rows.set b X++l).set rows.length Y=rows.set b X++l.set 0 Y)/\∀X l k Y,(rows.set b X++l).set (rows.length+k) Y=rows.set b X++l.set k Y:=by
 have hl:=bb hb
 have h2:∀X,(rows.set b X).length=rows.length:=λX=>aa6 ..
 refine⟨λl X=>List.set_append_left _ _ hl,λX Y l=>?_,λX l=>ae (aD hb) l,λX l=>?_,λX l k=>?_,λX l Y=>?_,λX l k Y=>?_⟩
 ·rw[List.set_append_left _ _ (by rw[h2];exact hl),ac4]
 ·have:=bw (rows.set b X) l;rwa [h2]at this
 ·have:=aK (rows.set b X) l k;rwa [h2]at this
 ·have:=Qb (rows.set b X) l Y;rwa [h2]at this
 ·have:=Qc (rows.set b X) l k Y;rwa [h2]at this
theorem Wt{rows:Rows}{b r:Nat}{y:Row}(h:live rows r=some y)(hn:r≠b)(X:Option Row)(l:Rows):live (rows.set b X++l) r=some y:=by
 refine ae ?_ l
 rw[az (abT hn)];exact h
abbrev l7:Sh:= .cons LI (.cons LI (.cons SM (.cons LB (.cons LI (.cons LI (.cons LI (.cons LI (.cons .ref (.cons (.ar 2 SVw) (.cons .ref (.cons LI (.cons LI .nil))))))))))))
structure Bt where
 ph:Int
 sl:Int
 iR:AB
 tr:Bool
 e:Int
 left:Int
 jy:Int
 least:Int
 bD:D
 v0:D
 v1:D
 ops:D
 at_:Int
 Gc:Int
def mc(b:Bt):D:= .agg l7 [.raw (it b.ph),.raw (it b.sl),cw b.iR,.raw (.bool b.tr),.raw (it b.e),.raw (it b.left),.raw (it b.jy),.raw (it b.least),b.bD,.agg (.ar 2 SVw) [b.v0,b.v1],b.ops,.raw (it b.at_),.raw (it b.Gc)]
abbrev cP(rows:Rows)(b:Nat)(B:Bt):Prop:=live rows b=some ⟨l7,[mc B]⟩
abbrev Wu:Sh:= .cons (.ar 32 cJ) (.cons cJ (.cons (.cons cJ (.cons cJ (.cons cJ (.cons cJ (.cons cJ (.cons cJ (.cons cJ (.cons cJ .nil)))))))) (.cons LB .nil)))
abbrev ko:Sh:= .cons .ref (.cons .ref (.cons Wu (.cons .ref .nil)))
abbrev SMea:Sh:= .cons (.ar 4 (.ar 32 L8)) .nil
abbrev RW:Sh:= .cons .ref (.cons SMea (.cons (.ar 32 L8) (.cons LI .nil)))
structure Ly where
 M:Nat
 s:Nat
 e:Nat
 sl:Nat
 f:Nat
 m:Nat
 q:Nat
 a:Nat
 w:Nat
def RX(L:Ly)(core p:D):D:= .agg ko [.ptr nj L.s [0],.ptr RW L.e [0],core,p]
structure zq where
 st:Int
 gZ:List (BitVec 8)
 x:List (BitVec 8)
 c:rU
structure gF (rows:Rows) (L:Ly) (S:zq):Prop where
 ma:∃core p,live rows L.M=some ⟨ko,[RX L core p]⟩
 sp:∃pt,live rows L.s=some ⟨nj,[wQ S.st S.gZ pt L.f L.q]⟩
 rl:S.gZ.length=8192
 fl:gE rows L.f L.m S.x
 xl:S.x.length=10240
 ch:uR rows L.q L.a L.w S.c
def Ly.ids(L:Ly):List Nat:=[L.M,L.s,L.f,L.m,L.q,L.a,L.w]
theorem gF.keep{rows aa:Rows}{L:Ly}{S:zq}(h:gF rows L S)(f:∀q row,live rows q=some row->q∈L.ids->live aa q=some row):gF aa L S:=by
 obtain⟨⟨co,p,h1⟩,⟨pt,h2⟩,h3,⟨⟨ex,h4⟩,h5⟩,h6,h7⟩:=h
 exact⟨⟨co,p,f _ _ h1 (by simp[Ly.ids])⟩,⟨pt,f _ _ h2 (by simp[Ly.ids])⟩,h3,⟨⟨ex,f _ _ h4 (by simp[Ly.ids])⟩,f _ _ h5 (by simp[Ly.ids])⟩,h6,h7.keep λp row hp hq=>f p row hp (by rcases hq with h|h|h<;>simp[Ly.ids,h])⟩
theorem gF.fr{rows aa:Rows}{L:Ly}{S:zq}{b:Nat}{B:Bt}(h:gF rows L S)(hb:cP rows b B)(f:Fr [b] rows aa):gF aa L S:=by
 refine h.keep λq row hq hm=>f q row hq λhn=>?_
 have e:q=b:=by simpa using hn
 subst e
 obtain⟨⟨co,p,h1⟩,⟨pt,h2⟩,h3,⟨⟨ex,h4⟩,h5⟩,h6,h7⟩:=h
 have h8:=h7.ch
 have h9:=h7.ar
 have h10:=h7.dat
 simp only[Ly.ids,aaW,acm,adU]at hm
 rcases hm with rfl|rfl|rfl|rfl|rfl|rfl|rfl<;>simp_all
theorem tS(C:bf){rows:Rows}{b:Nat}{B:Bt}(hb:cP rows b B)(p t:Int){K:D->Rows->Prop}(hk:K (.cA []) (rows.set b (some ⟨l7,[mc {B with ph:=p,left:=t}]⟩))):
  aQ C 3 jg jf [.ptr l7 b [0],.raw (it p),.raw (it t)] rows K:=by
 refine ag rfl ?_
 unfold jf jg
 simp only[cP,mc]at hb
 have h2:=λx=>aD (y:=x) hb
 simp only[↓ah,aj,simprocAttr,hb,h2,ac4]
 exact hk
theorem halt_run(C C1:bf)(n0:C.fn 172=none)(r0:C.fy 172=some (aQ C1 3 jg jf)){rows:Rows}{b:Nat}{B:Bt}(hb:cP rows b B)(e:Int){K:D->Rows->Prop}(hk:K (.raw (.bool true)) (rows.set b (some ⟨l7,[mc {B with ph:=9,left:=0,e:=e}]⟩))):
  aQ C 2 gN gM [.ptr l7 b [0],.raw (it e)] rows K:=by
 refine ag rfl ?_
 unfold gM gN
 simp only[cP,mc]at hb
 simp only[↓ah,aj,simprocAttr,hb,n0,r0]
 refine tS C1 (B:={B with e:=e}) (aD hb) 9 0 ?_
 simp only[↓ah,aj,simprocAttr,ac4]
 exact hk
structure ToC (C:bf):Prop where
 n:C.fn 172=none
 r:∃C1,C.fy 172=some (aQ C1 3 jg jf)
structure HaC (C:bf):Prop where
 n:C.fn 173=none
 r:∃C1,C.fy 173=some (aQ C1 2 gN gM)/\ToC C1
theorem E5(C1:bf)(H:ToC C1){rows:Rows}{b:Nat}{B:Bt}(hb:cP rows b B)(e:Int){K:D->Rows->Prop}(hk:K (.raw (.bool true)) (rows.set b (some ⟨l7,[mc {B with ph:=9,left:=0,e:=e}]⟩))):
  aQ C1 2 gN gM [.ptr l7 b [0],.raw (it e)] rows K:=by
 obtain⟨C2,r⟩:=H.r
 exact halt_run C1 C2 H.n r hb e hk
structure StaC (C:bf):Prop where
 to:ToC C
 ha:HaC C
 li:C.fn 71=some Jp
 ct:C.fn 26=some TS
 ke:C.fn 69=some Qu
 fi:C.fn 118=some E2
 se:C.fn 70=some Ug
theorem selFirst(l:Int):(sE l fu 0 0).i=if l=4\/l<1\/3<l then-1 else 0:=by
 unfold sE
 by_cases h1:l=4
 ·simp[h1]
 ·by_cases h2:l<1\/3<l
  ·simp[h1,h2]
  ·rw[aaA h1,aaA h2,aaA (by omega)]
   rfl
theorem YM(C:bf)(H:StaC C){rows:Rows}{L:Ly}{S:zq}{b:Nat}{B:Bt}(hM:gF rows L S)(hb:cP rows b B){K:D->Rows->Prop}
  (h0:1<=ey S.c/\ey S.c<=3->∀aa p,Fr [b] rows aa->rows.length<=p->live aa p=some ⟨L8,bs (jK S.c)⟩->cP aa b {B with ph:=1,left:=17,jy:=ey S.c,least:=js S.c,bD:= .sl L8 p [] 0 56 false}->K (.raw (.bool false)) aa)
  (h1:¬(1<=ey S.c/\ey S.c<=3)->∀aa d,Fr [b] rows aa->cP aa b {B with ph:=9,left:=0,e:=(sE (ey S.c) fu 0 0).e,jy:=ey S.c,least:=js S.c,bD:=d}->K (.raw (.bool true)) aa):
  aQ C 2 fo fm [.ptr l7 b [0],.ptr ko L.M [0]] rows K:=by
 refine ag rfl ?_
 unfold fm fo
 obtain⟨⟨co,p,qG⟩,⟨pt,hsp⟩,DZ,my,zA,Ay⟩:=hM
 have FB:=bb hb
 have kL:=λk=>kLife Ay.rd Ay.len k
 have kC:=λk=>kCtr Ay.rd Ay.len k
 have kK:=λk=>kKeyC Ay.rd Ay.len k
 simp only[RX]at qG
 simp only[wQ]at hsp
 have pS:=λL'=>ae hb L'
 simp only[cP,mc]at hb pS
 have hp:=yY hb
 have hc:eV fu=true:=rfl
 have kF:=λrows k=>kFirst rows k
 have kS:=λrows k=>kSel rows k (ey S.c) fu hc 0 0
 have hz:D.agg SJ [.raw (u32 0#32),.raw (it 0),.raw (it 0),.raw (it 0)]=jD ⟨0#32,0,0,0⟩:=rfl
 have cf:∀c,(Ow c).fits SCo=true:=λ_=>rfl
 have g0:∀c,(Ow c).get [0]=some (.raw (it c.i)):=λ_=>rfl
 have g4:∀c,(Ow c).get [4]=some (.raw (it c.e)):=λ_=>rfl
 have hsi:=selFirst (ey S.c)
 simp only[hz]
 simp only[↓ah,aj,simprocAttr,aM,qG,hsp,hb,pS,hp,H.li,H.ct,H.ke,kL,kC,kK,H.fi,kF,H.se,kS,cf,g0,g4,ac4]
 have hF:∀X l,Fr [b] rows (rows.set b X++l):=λX l=>((Fr.refl _ _).set (by simp) _).trans (Fr.app _ _ _)
 have J1:∀X l,live (rows.set b (some X)++l) b=some X:=hp.2.2.1
 by_cases c:1<=ey S.c/\ey S.c<=3
 ·rw[aaA (by omega)]at hsi
  obtain⟨C1,r1⟩:=H.to.r
  simp only[↓ah,aj,simprocAttr,hsi,H.to.n,r1]
  refine tS C1 (B:={B with jy:=ey S.c,least:=js S.c,bD:= .sl L8 rows.length [] 0 56 false}) (J1 _ _) 1 17 ?_
  simp only[↓ah,aj,simprocAttr,aM,hp]
  exact h0 c _ _ (hF _ _) (aaz _) (by rw[hp.2.2.2.1];rfl) (J1 _ _)
 ·rw[aaI (by omega)]at hsi
  obtain⟨C1,r1,hT⟩:=H.ha.r
  simp only[↓ah,aj,simprocAttr,aM,hp,hsi,g4,H.ha.n,r1]
  refine E5 C1 hT (B:={B with jy:=ey S.c,least:=js S.c,bD:= .sl L8 rows.length [] 0 56 false}) (J1 _ _) _ ?_
  simp only[↓ah,aj,simprocAttr,aM,hp]
  exact h1 c _ _ (hF _ _) (J1 _ _)
end jU
end Go.Am
namespace Go.Am
variable {C:bf} {P:Program} {n:Nat}
def Q6(C:bf)(base:Nat)(env:Env):nY->Prop
 | .store s p _=>∃r q,ev C env p=some (.ptr s r q)/\base<=r
 | _=>True
def uV(C:bf)(base:Nat):List aY->Env->Rows->(Env->Rows->Prop)->Prop
 |[],env,rows,K=>K env rows
 |⟨dst,o,none⟩::l,env,rows,K=>Q6 C base env o/\dW C env rows o λd rows=>uV C base l (put dst d env) rows K
 |⟨dst,o,some (g,want)⟩::l,env,rows,K=>∃d,look env g=some d/\match d with
  | .raw (.bool t)=>(t=want->Q6 C base env o/\dW C env rows o λd rows=>uV C base l (put dst d env) rows K)/\(t=!want->uV C base l (put dst (.cA []) env) rows K)
  | .cA []=>uV C base l (put dst (.cA []) env) rows K
  | _=>False
def awQ(C:bf)(base:Nat):aC->(fI->Env->Rows->Prop)->Env->Rows->Prop
 | .seq a b,Q,env,rows=>awQ C base a (λe env rows=>match e with
  | .normal=>awQ C base b Q env rows
  |e=>Q e env rows) env rows
 | .region false al,Q,env,rows=>uV C base al env rows (Q .normal)
 | .ret,Q,env,rows=>Q .ret env rows
 | .skip,Q,env,rows=>Q .normal env rows
 | .cond c a b,Q,env,rows=>∃t,ev C env c=some (.raw (.bool t))/\(t=true->awQ C base a Q env rows)/\(t=false->awQ C base b Q env rows)
 | _,_,_,_=>False
def isSt:Op->Bool
 | .store _ _ _=>true
 | _=>false
def okQ:List Oper->List aY->Bool
 |o::l,x::al=>((mE x.op&&gG o.op)||isSt o.op)&&okQ l al
 |[],[]=>true
 | _,_=>false
def DL(P:Program)(n:Nat):Code->Bool
 | .seq a b=>DL P n a&&DL P n b
 | .region _ ops false=>match wZ P n ops.toList ops.toList with
  |some al=>okQ ops.toList al
  |none=>false
 | .cond _ a b=>DL P n a&&DL P n b
 | .ret=>true
 | .skip=>true
 | _=>false
structure Q7 (kz:Pl) (T0:Nat->Prop) (eG:Rows) (w0:World) (ρ:Pl) (T:Nat->Prop) (rows:Rows) (w:World):Prop where
 step:Step kz T0 eG w0 ρ T rows w
 qh:QH kz eG w0 w
 tg:∀b,T b->T0 b\/w0.heap.size<=b
 fr:∀r row L,live rows r=some row->ρ r=some L->eG.length<=r->w0.heap.size<=L.b
theorem tC.trans{w0 w w':World}{b:Nat}(h:tC w0 w b)(h':tC w w' b):tC w0 w' b:=by
 obtain⟨cur,t,fr,fr1,h1,h2,h3⟩:=h
 obtain⟨qn,t',fr',fr2,g1,g2,g3⟩:=h'
 rw[h2]at g1
 cases g1
 exact⟨cur,t,fr,fr2,h1,g2,g3⟩
theorem QH.trans{kz ρ:Pl}{T0 T:Nat->Prop}{eG rows:Rows}{w0 w w':World}(h0:QH kz eG w0 w)(hst:Step kz T0 eG w0 ρ T rows w)(h:QH ρ rows w w'):QH kz eG w0 w':=by
 intro b hb
 rcases h b (abR hb hst.size)with e|⟨f,r,row,L,h1,h2,h3⟩
 ·rcases h0 b hb with e0|⟨⟨cur,t,fr,fr',q1,q2,q3⟩,m⟩
  ·exact .inl (e.trans e0)
  ·exact .inr ⟨⟨cur,t,fr,fr',q1,by rw[e];exact q2,q3⟩,m⟩
 ·have m:∃r row L,live eG r=some row/\kz r=some L/\L.b=b:=by
   rcases hst.fresh r row L h1 h2 with⟨r0,qP,L0,g1,g2,g3⟩|g
   ·exact⟨r0,qP,L0,g1,g2,g3.trans h3⟩
   ·omega
  rcases h0 b hb with e0|⟨f0,_⟩
  ·obtain⟨cur,t,fr,fr',q1,q2,q3⟩:=f
   exact .inr ⟨⟨cur,t,fr,fr',by rw[<-e0];exact q1,q2,q3⟩,m⟩
  ·exact .inr ⟨f0.trans f,m⟩
theorem Q7.quiet{kz ρ ρ':Pl}{T0 T T':Nat->Prop}{eG rows new:Rows}{w0 w w':World}(h:Q7 kz T0 eG w0 ρ T rows w)(hst:Step ρ T rows w ρ' T' (rows++new) w')(hr:jY ρ' (rows++new) w' T')
  (hq:QH ρ rows w w'/\∀b,T' b->T b\/w.heap.size<=b):Q7 kz T0 eG w0 ρ' T' (rows++new) w':=by
 refine⟨h.step.trans hst,h.qh.trans h.step hq.1,λb hb=>?_,λr row L h1 h2 h3=>?_⟩
 ·rcases hq.2 b hb with g|g
  ·exact h.tg b g
  ·have:=h.step.size;omega
 ·by_cases hlt:r<rows.length
  ·have e1:live rows r=some row:=by rw[<-h1];exact(fK rfl hlt).symm
   have e2:ρ r=some L:=by rw[<-h2];exact(hst.same r hlt).symm
   exact h.fr r row L e1 e2 h3
  ·rcases hst.fresh r row L h1 h2 with⟨r0,qP,L0,g1,g2,g3⟩|g
   ·exfalso
    have l0:=bb g1
    have g1':live (rows++new) r0=some qP:=by rw[fK rfl l0];exact g1
    exact hr.kx r r0 row qP L L0 h1 g1' h2 (hst.pl _ _ g2) (by omega) g3.symm
   ·have:=h.step.size;omega
theorem Ui (hC : aJ C P) (hN : ∀ f, C.fy f = none) (ops : Array Oper) {Q' : Exit -> Act -> World -> Prop} {kz : Pl} {T0 : Nat -> Prop} {eG : Rows} {w0 : World} :
  ∀(l:List Oper) (i:Nat),ops.toList.drop i=l->∀(al:List aY),wZ P n ops.toList l=some al->okQ l al=true->
  ∀(env:Env) (rows:Rows) (ρ:Pl) (T:Nat->Prop) (a:Act) (w:World) (K:Env->Rows->Prop),uV C eG.length al env rows K->eQ n ρ T env rows a w->eJ C w T->Q7 kz T0 eG w0 ρ T rows w->
  (∀env' aa ρ' T' a' w',K env' aa->eQ n ρ' T' env' aa a' w'->eJ C w' T'->Q7 kz T0 eG w0 ρ' T' aa w'->Q' .normal a' w')->wpOps P ops Q' (List.range' i l.length) a w:=by
 intro l
 induction l with
 |nil=>
  intro i _ al hc _ env rows ρ T a w K h hs hg hI hK
  simp[wZ]at hc
  subst hc
  exact hK env rows ρ T a w h hs hg hI
 | cons o l ih =>
  intro i hi al hc hok env rows ρ T a w K h hs hg hI hK
  obtain⟨ao,g,r,h0,h1,h2,h3,rfl⟩:=Eh hc
  have ho:ops[i]?=some o:=by
   have:=abB (λq=>q[0]?) hi
   simpa using this
  have Lw:ops.toList.drop (i+1)=l:=by
   have:=abB List.tail hi
   simpa using this
  have hd:=yJ h0
  simp only[okQ,aan]at hok
  obtain⟨hok1,hok2⟩:=hok
  simp only[aaP,aet,wpOps,ho]
  have go : ∀ (htg : Q6 C eG.length env ao) (hop : dW C env rows ao (λd rows => uV C eG.length r (put o.dst d env) rows K)), o.wp P a w (wpOps P ops Q' (List.range' (i + 1) l.length)) Q' := by
   intro htg hop
   by_cases hst:isSt o.op=true
   ·cases hopc:o.op with
    | store t x y =>
     have hG:tZ C ρ w T:=λg d hd=>(hg g d hd).mono (by intro r L h;cases h) (λ_ _=>rfl) (λ_ h=>h)
     unfold cOp at h1
     split at h1
     case h_2=>cases h1;exact hop.elim
     rename_i a0 hc0
     cases h1
     rw[hopc]at hc0
     obtain⟨s,e1,hc0⟩:=aH hc0
     obtain⟨x',e2,hc0⟩:=aH hc0
     obtain⟨y',e3,hc0⟩:=aH hc0
     cases hc0
     obtain⟨d,aa,v,w',k1,k2,k3,k4,k5,rr,pp,L,k6,k7,k8,xx,k9⟩:=Lj hs hG hopc e1 e2 e3 hop
     obtain⟨r1,q1,t1,t2⟩:=htg
     rw[k6]at t1
     cases t1
     have Pw:Q7 kz T0 eG w0 ρ T aa w':=by
      have sI:∃row,live rows rr=some row:=by
       obtain⟨d0,he,hk⟩:=au hop
       rw[k6]at he
       cases he
       obtain⟨d2,_,Zk⟩:=au hk
       obtain⟨row,hl,_⟩:=au Zk.2.2
       exact⟨row,hl⟩
      obtain⟨row,sI⟩:=sI
      have hLb:=hI.fr rr row L sI k7 t2
      have hstep:=hI.step.trans k3
      refine⟨hstep,λb hb=>?_,hI.tg,λr2 pH L2 g1 g2 g3=>?_⟩
      ·have e:w'.heap[b]?=w.heap[b]?:=k8 b (by omega)
       rcases hI.qh b hb with q|⟨⟨cur,t',fr,fr',q1,q2,q3⟩,m⟩
       ·exact .inl (e.trans q)
       ·exact .inr ⟨⟨cur,t',fr,fr',q1,by rw[e];exact q2,q3⟩,m⟩
      ·by_cases e:r2=rr
       ·subst e
        rw[k7]at g2
        cases g2
        exact hLb
       ·have g1':live rows r2=some pH:=by
         rw[k9]at g1
         unfold live at g1⊢
         rwa [abP (abT e)]at g1
        exact hI.fr r2 pH L2 g1' g2 g3
     unfold Oper.wp
     have hcont:=ih (i+1) Lw r h3 hok2 (put o.dst d env) aa ρ T (a.put o.dst v) w' K k1 (k2.put k4 hd) (hg.step hs k3) Pw hK
     rcases k5 with k5|⟨k5,rfl⟩
     ·rw[k5];exact hcont
     ·rw[k5];exact hcont
    | _=>rw[hopc]at hst;cases hst
   ·have hqq:mE ao=true/\gG o.op=true:=by
     rcases abI _ _▸hok1 with h5|h5
     ·simpa using h5
     ·exact absurd h5 hst
    obtain⟨d,new,f1,f2⟩:=GV hN ao hqq.1 _ hop
    refine xp hs hg hC h1 f2 ?_
    rintro d2 aa ρ' T' v w' ⟨rfl,rfl⟩ gy du hv hq
    have Pw:=hI.quiet du gy.bE (hq hN hqq.2)
    exact ih (i+1) Lw r h3 hok2 _ _ ρ' T' _ w' K f1 (gy.put hv hd) (hg.step hs du) Pw hK
  have skip:∀(h:uV C eG.length r (put o.dst (.cA []) env) rows K),wpOps P ops Q' (List.range' (i+1) l.length) (a.put o.dst undef) w:=by
   intro h
   have hv:VR ρ w T (.cA []) undef:=⟨#[],rfl,.nil⟩
   exact ih (i+1) Lw r h3 hok2 _ rows ρ T _ w K h (hs.put hv hd) hg hI hK
  cases hgd:o.guard with
  |none=>
   rw[hgd]at h2
   simp[mD]at h2
   subst h2
   have hw:Region.wanted o (yielded ops a.tmps)=true:=by simp[Region.wanted,hgd]
   rw[aaI hw]
   exact .inl (go h.1 h.2)
  | some jw =>
   obtain⟨j,want⟩:=jw
   rw[hgd]at h2
   simp only[mD]at h2
   split at h2
   ·rename_i oj hj
    split at h2
    ·rename_i t ht
     cases h2
     have oe:ops[j]?=some oj:=by simpa using hj
     obtain⟨d,Hz,h⟩:=h
     have hv:=hs.env t d Hz
     split at h
     ·rename_i b
      have hb:=VR.ofRaw hv
      have xq:a.tmps[t]?=some (.bool b):=by
       unfold Array.getD at hb
       split at hb
       ·rename_i hlt
        rw[abw hlt]
        simpa using hb
       ·cases hb
      have hy:yielded ops a.tmps j=some b:=by simp[yielded,oe,ht,xq]
      have hw:Region.wanted o (yielded ops a.tmps)=(b==want):=by
       simp only[Region.wanted,hgd,hy]
       cases b<;>cases want<;>rfl
      rw[hw]
      by_cases Xh:b=want
      ·subst Xh
       rw[aaI (by simp)]
       exact .inl (go (h.1 rfl).1 (h.1 rfl).2)
      ·rw[aaA (by simpa using Xh)]
       exact skip (h.2 (by cases b<;>cases want<;>simp_all))
     ·obtain⟨vs,hvs,bQ⟩:=hv
      have SB:vs=#[]:=by
       have:=bQ.len
       apply acb
       exact aaF (by simpa using this.symm)
      subst SB
      have hy:yielded ops a.tmps j=none:=by
       simp only[yielded,oe,abc,ht]
       unfold Array.getD at hvs
       split at hvs
       ·rename_i hlt
        rw[abw hlt]
        have:a.tmps[t]= .tuple #[]:=by simpa using hvs
        rw[this]
       ·rename_i hlt
        rw[acA (by omega)]
      have hw:Region.wanted o (yielded ops a.tmps)=false:=by
       simp only[Region.wanted,hgd,hy]
       rfl
      rw[aaA (by rw[hw];simp)]
      exact skip h
     ·exact h.elim
    ·cases h2
   ·cases h2
theorem Q8(hC:aJ C P)(hN:∀f,C.fy f=none){kz:Pl}{T0:Nat->Prop}{eG:Rows}{w0:World}:∀(c:Code) (ac:aC),comp P n c=some ac->DL P n c=true->
  ∀(Q:fI->Env->Rows->Prop) (Q':Exit->Act->World->Prop) (env:Env) (rows:Rows) (ρ:Pl) (T:Nat->Prop) (a:Act) (w:World),awQ C eG.length ac Q env rows->eQ n ρ T env rows a w->eJ C w T->Q7 kz T0 eG w0 ρ T rows w->
  (∀e env' aa ρ' T' a' w',Q e env' aa->eQ n ρ' T' env' aa a' w'->eJ C w' T'->Q7 kz T0 eG w0 ρ' T' aa w'->Q' (SC e) a' w')->c.wp P Q' a w:=by
 intro c
 induction c with
 |seq x y ihx ihy=>
  intro ac hc hq Q Q' env rows ρ T a w h hs hg hI hp
  obtain⟨ax,h1,hc⟩:=aH hc
  obtain⟨ay,h2,hc⟩:=aH hc
  cases hc
  simp only[DL,aan]at hq
  refine wp_seq (ihx ax h1 hq.1 _ _ env rows ρ T a w h hs hg hI ?_)
  intro e env' aa ρ' T' a' w' hk gy RS Pw
  cases e with
  |normal=>exact ihy ay h2 hq.2 Q Q' env' aa ρ' T' a' w' hk gy RS Pw hp
  |exit i=>exact hp (.exit i) env' aa ρ' T' a' w' hk gy RS Pw
  |ret=>exact hp .ret env' aa ρ' T' a' w' hk gy RS Pw
 | region id ops draw =>
  intro ac hc hq Q Q' env rows ρ T a w h hs hg hI hp
  cases draw with
  |true=>cases hq
  | false =>
   simp only[comp]at hc
   simp only[DL]at hq
   split at hc
   ·rename_i al h1
    rw[h1]at hq
    simp only[aba,aaU]at hc
    cases hc
    refine wp_region ?_
    have:=Ui hC hN ops (Q':=Q') ops.toList 0 (by simp) al h1 hq env rows ρ T a w (Q .normal) h hs hg hI (λenv' aa ρ' T' a' w' hk gy RS Pw=>hp .normal env' aa ρ' T' a' w' hk gy RS Pw)
    rw[ad4]
    simpa using this
   ·rename_i h1
    rw[h1]at hq
    cases hq
 |cond x p q ihp ihq=>
  intro ac hc hq Q Q' env rows ρ T a w h hs hg hI hp
  obtain⟨x',h1,hc⟩:=aH hc
  obtain⟨ap,h2,hc⟩:=aH hc
  obtain⟨aq,h3,hc⟩:=aH hc
  cases hc
  simp only[DL,aan]at hq
  obtain⟨t,he,hk⟩:=h
  have hG:tZ C ρ w T:=λg d hd=>(hg g d hd).mono (by intro r L h;cases h) (λ_ _=>rfl) (λ_ h=>h)
  refine wp_cond_split (fb h1 he hs hG) (λht=>?_) (λht=>?_)
  ·exact ihp ap h2 hq.1 Q Q' env rows ρ T a w (hk.1 ht) hs hg hI hp
  ·exact ihq aq h3 hq.2 Q Q' env rows ρ T a w (hk.2 ht) hs hg hI hp
 |skip=>
  intro ac hc hq Q Q' env rows ρ T a w h hs hg hI hp
  simp[comp]at hc;subst hc
  exact wp_skip (hp .normal env rows ρ T a w h hs hg hI)
 |ret=>
  intro ac hc hq Q Q' env rows ρ T a w h hs hg hI hp
  simp[comp]at hc;subst hc
  exact wp_ret (hp .ret env rows ρ T a w h hs hg hI)
 | _=>intro ac hc hq;cases hq
def afunQ(C:bf)(np:Nat)(kq:List aS)(ac:aC):lI:=λds rows K=>
 ds.length=np/\awQ C rows.length ac (λe env aa=>(e= .normal\/e= .ret)/\bn (AU env aa kq) λl=>K (xA l) aa) (pL 0 ds) rows
def bodyQ(P:Program)(fn:Func):Bool:=match fn.body with
 |some c=>DL P fn.ntmps c
 |none=>false
theorem MH(hC:aJ C P)(hN:∀f,C.fy f=none){f:FuncId}{fn:Func}{ac:aC}{kq:List aS}{np:Nat}(hf:P.funcs[f]?=some fn)(hb:o2 fn.body (comp P fn.ntmps)=some ac)(hr:Ic P fn.results.toList=some kq)(hnp:np<=fn.ntmps)(hq:bodyQ P fn=true)
  {q:Gh}(h:∀ds rows d new,q ds rows=some (d,new)->afunQ C np kq ac ds rows λd' aa=>d'=d/\aa=rows++new):HZ C.aX P f (MX q):=by
 intro ds rows K hK ρ w T args hrows mF y7 hargs Pp
 obtain⟨⟨d,new⟩,hqd,hK⟩:=au hK
 obtain⟨hlen,h⟩:=h ds rows d new hqd
 obtain⟨c,hbody,hcomp⟩:=aH hb
 unfold bodyQ at hq
 rw[hbody]at hq
 refine calls_of_wp hf hbody ?_
 refine Q8 hC hN c ac hcomp hq _ _ _ rows ρ T _ w h (PI hnp hlen hrows mF y7 hargs) Pp ⟨Step.refl _ _ _ _,λ_ _=> .inl rfl,λ_ h=> .inl h,λr row L h1 _ h3=>absurd (bb h1) (by omega)⟩ ?_
 intro e env' aa ρ' T' a' w' ⟨he,hk⟩ gy RS hI
 obtain⟨l,hl,e1,rfl⟩:=au hk
 obtain⟨v,hv1,hv2⟩:=fn_end hr gy hl
 rw[e1]at hv2
 have PK:BackQ K ρ T rows w (.returned v) w':=⟨v,d,_,ρ',T',rfl,hK,gy.bE,gy.wD,gy.wC,hI.step,hv2,hI.qh,hI.tg⟩
 rcases he with rfl|rfl
 ·exact⟨gy.defers,v,hv1,PK⟩
 ·exact⟨gy.defers,v,hv1,PK⟩
end Go.Am
namespace Go.Am
attribute [local congr] dq bW dt bX bY cB bI bZ b5 cC bu cD b6 dj
namespace jU
open Go.Am.F
def MI(K:FV)(s:JS)(n:Nat):Rows:=[some ⟨SJ,[jD (oC K s)]⟩,some ⟨SJ,[jD (fU K).1]⟩]++
 bif wy K s then[some ⟨L8,bs (gq (oC K s))⟩,some ⟨E3,(tz K s (n+2)).map JO.D⟩]else[]
def MJ(K:FV)(s:JS)(n:Nat):D:=bif wy K s then .sl E3 (n+3) [] 0 2 true else .raw (.slice none 0 0)
theorem kReadF{rows:Rows}{r m:Nat}{x:List (BitVec 8)}(h:gE rows r m x)(h1:8704<=x.length)(h2:x.length<=1048576)(k:D->Rows->Prop):aI yj rows k [.ptr SF r [0]]=k (.cA [jD (fU (some (x,false))).1,.raw (it (fU (some (x,false))).2)]) rows:=by
 obtain⟨e,hf⟩:=h.to
 rw[kReadJ hf h2,JW x e h1,JW x false h1]
theorem gE.uni{rows:Rows}{f m m':Nat}{x x':List (BitVec 8)}(h:gE rows f m x)(h':gE rows f m' x'):x=x':=by
 obtain⟨⟨e,a⟩,b⟩:=h
 obtain⟨⟨e',a'⟩,b'⟩:=h'
 rw[a]at a'
 simp only[abY,Row.mk.injEq,abC,D.agg.injEq,D.sl.injEq,aa2,acg]at a'
 obtain⟨rfl,_⟩:=a'
 rw[b]at b'
 injection b' with b'
 injection b' with _ b'
 exact rO b'
def Uj(rows:Rows)(ds:List D)(z:List (BitVec 8)×JS):Prop:=∃f m,ds=[.ptr SF f [0],jD z.2]/\gE rows f m z.1/\8704<=z.1.length/\z.1.length<=1048576
open Classical in
noncomputable def Gd:Gh:=λds rows=>if h:∃z,Uj rows ds z then some (MJ (some (h.choose.1,false)) h.choose.2 rows.length,MI (some (h.choose.1,false)) h.choose.2 rows.length)else none
theorem Wv{rows:Rows}{f m:Nat}{x:List (BitVec 8)}{s:JS}(hF:gE rows f m x)(h1:8704<=x.length)(h2:x.length<=1048576):
  Gd [.ptr SF f [0],jD s] rows=some (MJ (some (x,false)) s rows.length,MI (some (x,false)) s rows.length):=by
 have h:∃z,Uj rows [.ptr SF f [0],jD s] z:=⟨(x,s),f,m,rfl,hF,h1,h2⟩
 have e:h.choose=(x,s):=by
  obtain⟨f',m',e,Zz,_⟩:=h.choose_spec
  simp only[abC,D.ptr.injEq,aa2,acg]at e
  obtain⟨rfl,e⟩:=e
  exact Prod.ext (Zz.uni hF) (Bm _ _ e.symm)
 unfold Gd
 rw[dif_pos h,e]
theorem next2_ok(C:bf)(hC:aJ C P)(hN:∀f,C.fy f=none)(hr:C.fn 58=some yj)(hri:C.fn 59=some qv)(hb:C.fn 60=some tj):HZ C.aX P 13 (MX Gd):=by
 refine MH hC hN Go.Proofs.Tryz.func13 (by kernel_rfl) (by kernel_rfl) (abx (by kernel_rfl)) (by kernel_rfl) (ac:=xC) (kq:=xD) (np:=2) ?_
 intro ds rows d new h
 by_cases hz:∃z,Uj rows ds z
 ·obtain⟨⟨x,s⟩,f,m,rfl,hF,sn,BQ⟩:=hz
  simp only at hF sn BQ h
  rw[Wv hF sn BQ]at h
  have h:=Prod.mk.inj (abg h)
  rw[<-h.1,<-h.2]
  clear h
  refine⟨rfl,?_⟩
  unfold xC xD
  have hz:D.agg SJ [.raw (u32 0#32),.raw (it 0),.raw (it 0),.raw (it 0)]=jD JV:=rfl
  have kr:=λL k=>kReadF (hF.push L) sn BQ k
  unfold MJ MI
  generalize some (x,false)=K at*
  have Fx:oC K s=⟨(fU K).1.q+1#32,s.a,s.t,s.n⟩:=rfl
  have hri2:∀q,eV ⟨q,s.a,s.t,s.n⟩=eV s:=λq=>rfl
  have kR:=λrows k=>VD rows k (oC K s)
  rw[Fx,hri2]at kR
  by_cases c:(fU K).1.q+1#32=0#32
  ·have hB:wy K s=false:=by rw[wy,aaY c];rfl
   have c1:((fU K).1.q+1#32=0#32)=True:=aas c
   simp only[hB,awQ,uV,Q6,ad8,D.raw.injEq,Value.bool.injEq,ack,reduceCtorEq,aer,aa2,acg,aew,aep,aeA,aa8,aba,aeB,↓ah,aj,simprocAttr,aM,hz,cN,hr,kr,Jo,Wn,Ov,c1,aav]
   exact⟨⟨_,_,rfl,by omega⟩,⟨_,_,rfl,by omega⟩,rfl⟩
  ·have c1:((fU K).1.q+1#32=0#32)=False:=aax c
   cases hk:eV s
   ·have hB:wy K s=false:=by rw[wy,hk,acK]
    rw[hk]at kR
    simp only[hB,awQ,uV,Q6,ad8,D.raw.injEq,Value.bool.injEq,ack,reduceCtorEq,aer,aa2,acg,aew,aep,aeA,aa8,aba,aeB,↓ah,aj,simprocAttr,aM,hz,cN,hr,kr,Jo,Wn,Ov,c1,aaw,hri,kR]
    exact⟨⟨_,_,rfl,by omega⟩,⟨_,_,rfl,by omega⟩,rfl⟩
   ·have hB:wy K s=true:=by rw[wy,hk,aaJ c];rfl
    rw[hk]at kR
    have kb:=λrows k=>VF rows k (oC K s) (by rw[Fx,hri2];exact hk)
    rw[Fx]at kb
    by_cases c2:(fU K).2=32
    ·have c3:((fU K).2=32)=True:=aas c2
     have hP:jq K=33:=aaI c2
     simp only[hB,awQ,uV,Q6,ad8,D.raw.injEq,Value.bool.injEq,ack,reduceCtorEq,aer,aa2,acg,aew,aep,aeA,aa8,aba,aeB,↓ah,aj,simprocAttr,aM,hz,cN,hr,kr,Jo,Wn,Ov,c1,c3,aaw,aav,hri,kR,hb,kb]
     rw[tz,hP]
     exact⟨⟨_,_,rfl,by omega⟩,⟨_,_,rfl,by omega⟩,rfl⟩
    ·have c3:((fU K).2=32)=False:=aax c2
     have hP:jq K=32:=aaA c2
     simp only[hB,awQ,uV,Q6,ad8,D.raw.injEq,Value.bool.injEq,ack,reduceCtorEq,aer,aa2,acg,aew,aep,aeA,aa8,aba,aeB,↓ah,aj,simprocAttr,aM,hz,cN,hr,kr,Jo,Wn,Ov,c1,c3,aaw,aav,hri,kR,hb,kb]
     rw[tz,hP]
     exact⟨⟨_,_,rfl,by omega⟩,⟨_,_,rfl,by omega⟩,rfl⟩
 ·unfold Gd at h
  rw[dif_neg hz]at h
  cases h
def Ww(x bD:List (BitVec 8))(least:Int)(i:Nat):AB:=if gT x bD least i=0 then(fD x i).1 else dP
def lookP(x bD:List (BitVec 8))(least:Int)(i n:Nat):D:=if gT x bD least i=0 then .sl L8 n [] 0 (fD x i).2.2.1.length false else .raw (.slice none 0 0)
def ZA(x bD:List (BitVec 8))(least:Int)(i n:Nat):D:=Bs (gT x bD least i) (Ww x bD least i) (lookP x bD least i n)
theorem vwN_fits(x bD:List (BitVec 8))(least:Int)(i n:Nat):(ZA x bD least i n).fits SVw=true:=by
 simp only[ZA,lookP]
 split<;>rfl
theorem kLook2{rows:Rows}{f m:Nat}{x bD:List (BitVec 8)}{dp:D}(hF:gE rows f m x)(hx:x.length=10240)(hp:aU rows dp bD)(sq:bD.length<=1000)(least:Int)(i:Nat)(hi:i<=1)(k:D->Rows->Prop):
  aI MD rows k [.ptr SF f [0],dp,.raw (it least),.raw (it (i:Int))]=k (ZA x bD least i rows.length) (rows++vwR x bD least i):=by
 refine(kLook hF hx hp sq least i hi k).trans ?_
 simp only[ZA,vwAt,Ww,lookP]
 by_cases c:gT x bD least i=0<;>simp only[c,abX,abW]
def Bt.J2(B:Bt)(i:Nat)(v:D):Bt:=if i=0 then{B with v0:=v}else{B with v1:=v}
structure LkC (C:bf):Prop where
 to:ToC C
 lo:C.fn 68=some MD
theorem Uk(C:bf)(H:LkC C){rows:Rows}{L:Ly}{S:zq}{b:Nat}{B:Bt}{bD:List (BitVec 8)}(i:Nat)(hi:i<=1)(hM:gF rows L S)(hb:cP rows b B)(vM:B.ph=i+1)(hp:aU rows B.bD bD)(sq:bD.length<=1000){K:D->Rows->Prop}
  (hk:K (.cA []) (rows.set b (some ⟨l7,[mc {B.J2 i (ZA S.x bD B.least i rows.length)with ph:=i+2,left:=if i=0 then 17 else 1}]⟩)++vwR S.x bD B.least i)):
  aQ C 2 cW cV [.ptr l7 b [0],.ptr ko L.M [0]] rows K:=by
 refine ag rfl ?_
 unfold cV cW
 obtain⟨⟨co,p,qG⟩,⟨pt,hsp⟩,DZ,my,zA,Ay⟩:=hM
 have FB:=bb hb
 have kL:=λk=>kLook2 my zA hp sq B.least i hi k
 simp only[RX]at qG
 simp only[wQ]at hsp
 have pS:=λL'=>ae hb L'
 simp only[cP,mc]at hb pS
 have hq:=yY hb
 obtain⟨C1,r1⟩:=H.to.r
 have hf:=vwN_fits S.x bD B.least i rows.length
 generalize ZA S.x bD B.least i rows.length=V at*
 generalize vwR S.x bD B.least i=R at*
 have J1:∀X l,live (rows.set b (some X)++l) b=some X:=hq.2.2.1
 have e:i=0\/i=1:=by omega
 rcases e with rfl|rfl
 ·have vM:B.ph=1:=vM
  simp only[Int.ofNat_zero,adw]at kL
  simp only[↓ah,aj,simprocAttr,aM,vM,qG,hsp,hb,pS,hq,H.lo,kL,hf,H.to.n,r1]
  refine tS C1 (B:={B with v0:=V}) (vM▸J1 _ _) 2 17 ?_
  simp only[↓ah,aj,simprocAttr,aM,hq]
  exact hk
 ·have vM:B.ph=2:=vM
  simp only[Int.ofNat_one,ad6]at kL
  simp only[↓ah,aj,simprocAttr,aM,vM,qG,hsp,hb,pS,hq,H.lo,kL,hf,H.to.n,r1]
  refine tS C1 (B:={B with v1:=V}) (vM▸J1 _ _) 3 1 ?_
  simp only[↓ah,aj,simprocAttr,aM,hq]
  exact hk
def l9(x:List (BitVec 8))(j:Nat):Nat:=4096*j+50+dz (sub x (4096*j) 4096)
theorem sub2_get{x:List (BitVec 8)}{j:Nat}(hx:x.length=10240)(hj:j<=1):∃p0 p1,sub x (4096*j+48) 2=[p0,p1]/\p0.toNat*256+p1.toNat=dz (sub x (4096*j) 4096):=by
 refine⟨x.getD (4096*j+48) 0#8,x.getD (4096*j+49) 0#8,?_,?_⟩
 ·apply aco
  intro i
  simp only[sub,abt,abk]
  rcases i with _| _|i
  ·simp[aap (show 4096*j+48<x.length by omega)]
  ·have e:4096*j+48+1=4096*j+49:=rfl
   simp[e,aap (show 4096*j+49<x.length by omega)]
  ·have:¬(i+1+1<2):=by omega
   simp[this]
 ·simp only[dz,sub,aaH,abt,abk]
  simp
structure CpC (C:bf):Prop where
 to:ToC C
 rd:C.fn 23=some tx
theorem J3(C:bf)(H:CpC C){rows:Rows}{L:Ly}{S:zq}{b:Nat}{B:Bt}(j z:Nat)(hj:j<=1)(hz:z<=2048)(hM:gF rows L S)(hb:cP rows b B)(kf:B.sl=j)(qR:B.iR.s=z){K:D->Rows->Prop}
  (hk:∀R,K (.cA []) (rows.set b (some ⟨l7,[mc {B with Gc:=(l9 S.x j:Int),at_:=0,ph:=5,left:=((z+63)/64:Nat)}]⟩)++R)):
  aQ C 2 gL gK [.ptr l7 b [0],.ptr ko L.M [0]] rows K:=by
 refine ag rfl ?_
 unfold gK gL
 obtain⟨⟨co,p,qG⟩,⟨pt,hsp⟩,DZ,my,zA,Ay⟩:=hM
 have FB:=bb hb
 obtain⟨p0,p1,sy,Vh⟩:=sub2_get zA hj
 have kR:=λk=>JJ my (by omega) (4096*j+48) 2 (by omega) k
 rw[sy]at kR
 simp only[RX]at qG
 simp only[wQ]at hsp
 have pS:=λL'=>ae hb L'
 simp only[cP,mc]at hb pS
 have hq:=yY hb
 obtain⟨C1,r1⟩:=H.to.r
 have J1:∀X l,live (rows.set b (some X)++l) b=some X:=hq.2.2.1
 have t0:=p0.isLt
 have t1:=p1.isLt
 have sh8:=λk=>b_shlI _ t0 k
 have or8:=λk=>b_orI _ _ t0 t1 k
 have Yr:dz (sub S.x (4096*j) 4096)<65536:=by omega
 have gm:(cw B.iR).get [1]=some (.raw (it (z:Int))):=by rw[<-qR];rfl
 have w0:wz ((wz (wz ((z:Int)+64)-1)).tdiv 64)=((z+63)/64:Nat):=by
  rw[aZ (n:=(z:Int)+64) (by omega),aZ (n:=(z:Int)+64-1) (by omega),show(z:Int)+64-1=((z+63:Nat):Int) by omega,show(64:Int)=((64:Nat):Int)from rfl,<-aeF,aZ (by omega)]
 have e:j=0\/j=1:=by omega
 rcases e with rfl|rfl
 ·have kf:B.sl=0:=kf
  replace kR:∀k,aI tx rows k [.ptr SF L.f [0],.raw (it 48),.raw (it 2)]=k (.cA [.sl L8 rows.length [] 0 2 false,.raw (it 0)]) (rows++[some ⟨L8,bs [p0,p1]⟩]):=kR
  have w1:wz (50+((dz (sub S.x 0 4096):Nat):Int))=(l9 S.x 0:Int):=by
   rw[aZ (by have:dz (sub S.x 0 4096)<65536:=Yr;omega)];simp only[l9];rfl
  simp only[↓ah,aj,simprocAttr,aM,kf,qG,hsp,hb,pS,hq,H.rd,kR,bs,List.map,sh8,or8,Vh,gm,H.to.n,r1,w0,w1]
  refine tS C1 (B:={B with Gc:=(l9 S.x 0:Int),at_:=0}) (kf▸J1 _ _) 5 _ ?_
  simp only[↓ah,aj,simprocAttr,aM,hq]
  exact hk _
 ·have kf:B.sl=1:=kf
  replace kR:∀k,aI tx rows k [.ptr SF L.f [0],.raw (it 4144),.raw (it 2)]=k (.cA [.sl L8 rows.length [] 0 2 false,.raw (it 0)]) (rows++[some ⟨L8,bs [p0,p1]⟩]):=kR
  have w1:wz (4146+((dz (sub S.x 4096 4096):Nat):Int))=(l9 S.x 1:Int):=by
   rw[aZ (by have:dz (sub S.x 4096 4096)<65536:=Yr;omega)];simp only[l9];rfl
  simp only[↓ah,aj,simprocAttr,aM,kf,qG,hsp,hb,pS,hq,H.rd,kR,bs,List.map,sh8,or8,Vh,gm,H.to.n,r1,w0,w1]
  refine tS C1 (B:={B with Gc:=(l9 S.x 1:Int),at_:=0}) (kf▸J1 _ _) 5 _ ?_
  simp only[↓ah,aj,simprocAttr,aM,hq]
  exact hk _
theorem Q9(p:List (BitVec 8))(h:(dh p).2=true):eV (dh p).1=true:=by
 unfold dh at h⊢
 cases c:decide (p.length=32)&&(eV (Zy p)&&decide (gq (Zy p)=p))<;>rw[c]at h
 ·cases h
 ·simp only[aan]at c
  exact c.2.1
theorem J4(K:FV)(i:Nat)(s:JS×Int)(h:eV s.1=true):eV (DF K i s).1=true:=by
 unfold DF
 split
 ·cases c:(dh (sub (oB K) (256*i) 32)).2&&(decide (s.2=-1)||decide (s.1.q<(dh (sub (oB K) (256*i) 32)).1.q))
  ·exact h
  ·exact Q9 _ (acY.1 c).1
 ·exact h
theorem Ul(K:FV):eV (fU K).1=true:=J4 _ _ _ (J4 _ _ _ rfl)
theorem sel_i(l:Int)(s:JS)(e0 e1:Int):(sE l s e0 e1).i=-1\/(sE l s e0 e1).i=0/\e0=0\/(sE l s e0 e1).i=1/\e1=0:=by
 have hk:∀i,K7 e0 e1 i=true->i=0/\e0=0\/i=1/\e1=0:=λi h=>by
  simpa only[K7,abI,aan,aat]using h
 unfold sE
 split
 ·exact .inl rfl
 ·split
  ·exact .inl rfl
  ·cases c1:K7 e0 e1 s.t&&decide (s.n<3)
   ·cases c2:K7 e0 e1 s.a
    ·cases c3:K7 e0 e1 (1-s.a)
     ·exact .inl rfl
     ·exact .inr (hk _ c3)
    ·exact .inr (hk _ c2)
   ·exact .inr (hk _ (acY.1 c1).1)
structure ChoC (C:bf):Prop where
 rd:C.fn 58=some yj
 se:C.fn 70=some Ug
 nx0:C.fn 13=none
 nx1:C.fy 13=none
 nx2:C.UQ 13=some Gd
 ha:HaC C
 to:ToC C
 cp0:C.fn 169=none
 cp1:∃C1,C.fy 169=some (aQ C1 2 gL gK)/\CpC C1
theorem Um(C:bf)(H:ChoC C){rows:Rows}{L:Ly}{S:zq}{b:Nat}{B:Bt}{e0 e1:Int}{m0 m1:AB}{d0 d1:D}(hM:gF rows L S)(hb:cP rows b B)(hv0:B.v0=Bs e0 m0 d0)(hv1:B.v1=Bs e1 m1 d1)(ho:B.ops= .raw (.slice none 0 0))
  (hz:(e0=0->∃z:Nat,m0.s=z/\z<=2048)/\(e1=0->∃z:Nat,m1.s=z/\z<=2048)){c:Cho}(hc:c=sE B.jy (fU (some (S.x,false))).1 e0 e1){K:D->Rows->Prop}
  (h0:c.i=-1->∀aa,Fr [b] rows aa->cP aa b {B with ph:=9,left:=0,e:=c.e}->K (.raw (.bool true)) aa)
  (h1:∀(j:Nat) (z:Nat) (m:AB) (o:D),j<=1->c.i=j->(if j=0 then e0 else e1)=0->m=(if j=0 then m0 else m1)->m.s=z->(c.c&&wy (some (S.x,false)) c.s)=false->∀aa,Fr [b] rows aa->cP aa b {B with sl:=j,tr:=c.t,iR:=m,ops:=o,Gc:=(l9 S.x j:Int),at_:=0,ph:=5,left:=((z+63)/64:Nat)}->K (.raw (.bool false)) aa)
  (h2:∀(j:Nat) (m:AB) (ro q:Nat),j<=1->c.i=j->(if j=0 then e0 else e1)=0->m=(if j=0 then m0 else m1)->(c.c&&wy (some (S.x,false)) c.s)=true->∀aa,Fr [b] rows aa->rows.length<=ro->rows.length<=q->live aa ro=some ⟨E3,(tz (some (S.x,false)) c.s q).map JO.D⟩->live aa q=some ⟨L8,bs (gq (oC (some (S.x,false)) c.s))⟩->
   cP aa b {B with sl:=j,tr:=c.t,iR:=m,ops:= .sl E3 ro [] 0 2 true,ph:=4,left:=2}->K (.raw (.bool false)) aa):
  aQ C 2 eT eS [.ptr l7 b [0],.ptr ko L.M [0]] rows K:=by
 refine ag rfl ?_
 unfold eS eT
 obtain⟨ph,sl,mn,tr,er,lf,jy,least,bD,v0,v1,ops,at_,Gc⟩:=B
 simp only at hv0 hv1 ho hc
 subst hv0 hv1 ho
 have RY:=hM
 have hb0:=hb
 obtain⟨⟨co,p,qG⟩,⟨pt,hsp⟩,DZ,my,zA,Ay⟩:=hM
 have FB:=bb hb
 have kR:=λk=>kReadF my (by omega) (by omega) k
 have hrj:=Ul (some (S.x,false))
 have kS:=λrows k=>kSel rows k jy _ hrj e0 e1
 rw[<-hc]at kS
 have hi:=sel_i jy (fU (some (S.x,false))).1 e0 e1
 rw[<-hc]at hi
 generalize fU (some (S.x,false))=J at*
 obtain⟨J,jp⟩:=J
 simp only at hc kS hrj
 have hz0:D.agg SJ [.raw (u32 0#32),.raw (it 0),.raw (it 0),.raw (it 0)]=jD ⟨0#32,0,0,0⟩:=rfl
 have hzc:D.agg SCo [.raw (it 0),jD ⟨0#32,0,0,0⟩,.raw (.bool false),.raw (.bool false),.raw (it 0)]=Ow ⟨0,⟨0#32,0,0,0⟩,false,false,0⟩:=rfl
 have cf:∀c,(Ow c).fits SCo=true:=λ_=>rfl
 have cg0:∀c,(Ow c).get [0]=some (.raw (it c.i)):=λ_=>rfl
 have cg1:∀c,(Ow c).get [1]=some (jD c.s):=λ_=>rfl
 have cg2:∀c,(Ow c).get [2]=some (.raw (.bool c.c)):=λ_=>rfl
 have cg3:∀c,(Ow c).get [3]=some (.raw (.bool c.t)):=λ_=>rfl
 have cg4:∀c,(Ow c).get [4]=some (.raw (it c.e)):=λ_=>rfl
 have vg0:∀e m d,(Bs e m d).get [0]=some (.raw (it e)):=λ_ _ _=>rfl
 have vg1:∀e m d,(Bs e m d).get [1]=some (cw m):=λ_ _ _=>rfl
 simp only[RX]at qG
 simp only[wQ]at hsp
 have pS:=λL'=>ae hb L'
 have hma1:=λL'=>ae qG L'
 have YN:=λL'=>ae hsp L'
 simp only[cP,mc]at hb pS
 have kM:=Wt qG (gU qG hb (by intro h;cases h))
 have kP:=Wt hsp (gU hsp hb (by intro h;cases h))
 obtain⟨C2,rc,hC2⟩:=H.cp1
 obtain⟨C3,r3⟩:=H.to.r
 have hq:=yY hb
 have J1:∀X l,live (rows.set b (some X)++l) b=some X:=hq.2.2.1
 have hF:∀X l,Fr [b] rows (rows.set b X++l):=λX l=>((Fr.refl _ _).set (by simp) _).trans (Fr.app _ _ _)
 by_cases pE:c.i=-1
 ·obtain⟨C1,r1,hT⟩:=H.ha.r
  simp only[↓ah,aj,simprocAttr,aM,hz0,hzc,qG,hsp,hb,pS,hma1,YN,vg0,vg1,hq,cN,cf,cg0,cg1,cg2,cg3,cg4,H.rd,kR,H.se,kS,pE,H.ha.n,r1]
  refine E5 C1 hT (ae hb0 _) _ ?_
  simp only[↓ah,aj,simprocAttr,aM,hq]
  exact h0 pE _ (hF _ _) (J1 _ _)
 have W0:∃(j z:Nat) (e:Int) (m:AB) (d:D),j<=1/\c.i=j/\e=0/\m.s=z/\z<=2048/\(if j=0 then e0 else e1)=e/\m=(if j=0 then m0 else m1)/\∀i:Nat,i=j->(if i=0 then Bs e0 m0 d0 else Bs e1 m1 d1)=Bs e m d:=by
  rcases hi with h|⟨h,h'⟩|⟨h,h'⟩
  ·exact absurd h pE
  ·obtain⟨z,Sz,RT⟩:=hz.1 h'
   exact⟨0,z,e0,m0,d0,by omega,h,h',Sz,RT,rfl,rfl,λi hi=>by rw[hi,aaI rfl]⟩
  ·obtain⟨z,Sz,RT⟩:=hz.2 h'
   exact⟨1,z,e1,m1,d1,by omega,h,h',Sz,RT,rfl,rfl,λi hi=>by rw[hi,aaA (by decide)]⟩
 obtain⟨j,z,e,m,d,hj,hcj,he,hmz,RT,hej,hmj,hvj⟩:=W0
 have hmf:=dK m
 have hm1':(c.i=-1)=False:=aax pE
 have hx:[Bs e0 m0 d0,Bs e1 m1 d1][c.i.toNat]?=some (Bs e m d):=by
  have:=hvj j rfl
  rw[hcj]
  rcases(by omega:j=0\/j=1)with rfl|rfl
  ·exact abB some this
  ·exact abB some this
 have i0:(0<=c.i)=True:=aas (by omega)
 have i1:(c.i<2)=True:=aas (by omega)
 have hN:∀X l,Gd [.ptr SF L.f [0],jD c.s] (rows.set b X++l)=some (MJ (some (S.x,false)) c.s (rows.length+l.length),MI (some (S.x,false)) c.s (rows.length+l.length)):=λX l=>by
  have:=(RY.fr hb0 (hF X l)).fl
  have hl:(rows.set b X++l).length=rows.length+l.length:=by rw[aao,aa6]
  rw[<-hl]
  exact Wv this (by omega) (by omega)
 have eok:(if j=0 then e0 else e1)=0:=hej.trans he
 cases Zm:c.c with
 |false=>
  simp only[↓ah,aj,simprocAttr,aM,hz0,hzc,qG,hsp,hb,pS,hma1,YN,vg0,vg1,hq,cN,cf,cg0,cg1,cg2,cg3,cg4,H.rd,kR,H.se,kS,hm1',H.ha.n,hx,i0,i1,hmf,Zm,H.cp0,rc]
  refine J3 C2 hC2 (S:=S) (L:=L) (B:=⟨ph,c.i,m,c.t,er,lf,jy,least,bD,Bs e0 m0 d0,Bs e1 m1 d1,.raw (.slice none 0 0),at_,Gc⟩) j z hj RT (RY.fr hb0 (hF _ _)) (J1 _ _) hcj hmz λR=>?_
  simp only[↓ah,aj,simprocAttr,aM,hq]
  rw[hcj]
  exact h1 j z m _ hj hcj eok hmj hmz (by rw[Zm];rfl) _ (hF _ _) (J1 _ _)
 | true =>
  cases hnb:wy (some (S.x,false)) c.s with
  |false=>
   simp only[↓ah,aj,simprocAttr,aM,hz0,hzc,qG,hsp,hb,pS,hma1,YN,vg0,vg1,hq,cN,cf,cg0,cg1,cg2,cg3,cg4,H.rd,kR,H.se,kS,hm1',H.ha.n,hx,i0,i1,hmf,Zm,H.nx0,H.nx1,H.nx2,hN,kM,kP,MJ,MI,hnb,H.cp0,rc]
   refine J3 C2 hC2 (S:=S) (L:=L) (B:=⟨ph,c.i,m,c.t,er,lf,jy,least,bD,Bs e0 m0 d0,Bs e1 m1 d1,.raw (.slice none 0 0),at_,Gc⟩) j z hj RT (RY.fr hb0 (hF _ _)) (J1 _ _) hcj hmz λR=>?_
   simp only[↓ah,aj,simprocAttr,aM,hq]
   rw[hcj]
   exact h1 j z m _ hj hcj eok hmj hmz (by rw[Zm,hnb];rfl) _ (hF _ _) (J1 _ _)
  |true=>
   simp only[↓ah,aj,simprocAttr,aM,hz0,hzc,qG,hsp,hb,pS,hma1,YN,vg0,vg1,hq,cN,cf,cg0,cg1,cg2,cg3,cg4,H.rd,kR,H.se,kS,hm1',H.ha.n,hx,i0,i1,hmf,Zm,H.nx0,H.nx1,H.nx2,hN,kM,kP,MJ,MI,hnb,H.to.n,r3]
   refine tS C3 (B:=⟨ph,c.i,m,c.t,er,lf,jy,least,bD,Bs e0 m0 d0,Bs e1 m1 d1,.sl E3 (rows.length+5) [] 0 2 true,at_,Gc⟩) (J1 _ _) 4 2 ?_
   simp only[↓ah,aj,simprocAttr,aM,hq]
   rw[hcj]
   exact h2 j m (rows.length+5) (rows.length+4) hj hcj eok hmj (by rw[Zm,hnb];rfl) _ (hF _ _) (by omega) (by omega) (by rw[hq.2.2.2.2.1];rfl) (by rw[hq.2.2.2.2.1];rfl) (J1 _ _)
structure TeC (C:bf):Prop where
 af:C.fn 116=some EZ
 t0:C.fn 117=none
 t1:C.fy 117=some (aQ CF 4 dE dD)
structure DoC (C:bf):Prop where
 al:C.fn 57=some ME
 t0:C.fn 56=none
 t1:∃C0,C.fy 56=some (aQ C0 4 ja iZ)/\TeC C0
structure WrC (C:bf):Prop where
 d0:C.fn 12=none
 d1:∃C1,C.fy 12=some (aQ C1 3 lN lM)/\DoC C1
 cp0:C.fn 169=none
 cp1:∃C1,C.fy 169=some (aQ C1 2 gL gK)/\CpC C1
theorem gF.wr{rows aa:Rows}{L:Ly}{S:zq}{x:List (BitVec 8)}(h:gF rows L S)(U:V7 rows aa L.f L.m x)(hx:x.length=10240):gF aa L {S with x:=x}:=by
 obtain⟨⟨co,p,h1⟩,⟨pt,h2⟩,h3,h4,h5,h6⟩:=h
 have hd:=h4.dat
 have k:∀{q row},live rows q=some row->row.sh≠L8->live aa q=some row:=λ{q row} hq hn=>U.frame q row hq λe=>hn (by rw[e,hd]at hq;injection hq with hq;rw[<-hq])
 have hc:=h6.ch
 have ha:=h6.ar
 have hw:=h6.dat
 exact⟨⟨co,p,k h1 (by intro h;cases h)⟩,⟨pt,k h2 (by intro h;cases h)⟩,h3,U.fl,hx,h6.keep λp row hp hq=>k hp (by rcases hq with rfl|rfl|rfl<;>(intro h;simp_all))⟩
theorem Ge(C:bf)(H:WrC C){rows:Rows}{L:Ly}{S:zq}{b ro k n:Nat}{ex:Bool}{B:Bt}{o0 o1 o:JO}(j z:Nat)(hj:j<=1)(hz:z<=2048)(hM:gF rows L S)(hb:cP rows b B)(kf:B.sl=j)(qR:B.iR.s=z)(ho:B.ops= .sl E3 ro [] k n ex)(hro:live rows ro=some ⟨E3,[o0.D,o1.D]⟩)
  (hkn:k=0/\n=2/\o=o0\/k=1/\n=1/\o=o1)(h1:Q3 rows L.m o.k o.d o.p)(h2:256*o.i+256<=10240)(h3:tQ (some (S.x,false)) (o.i:Int) 0 o.p=0){K:D->Rows->Prop}
  (UY:k=0->∀aa og,Fr [b,L.m] rows aa->gF aa L {S with x:=pQ S.x o.i o.p fV}->cP aa b {B with ops:= .sl E3 ro [] 1 1 og}->K (.raw (.bool false)) aa)
  (Zk:k=1->∀aa d,Fr [b,L.m] rows aa->gF aa L {S with x:=pQ S.x o.i o.p fV}->cP aa b {B with ops:=d,Gc:=(l9 (pQ S.x o.i o.p fV) j:Int),at_:=0,ph:=5,left:=((z+63)/64:Nat)}->K (.raw (.bool false)) aa):
  aQ C 2 eD eC [.ptr l7 b [0],.ptr ko L.M [0]] rows K:=by
 refine ag rfl ?_
 unfold eC eD
 obtain⟨ph,sl,mn,tr,er,lf,jy,least,bD,v0,v1,ops,at_,Gc⟩:=B
 simp only at kf qR ho
 subst ho
 have RY:=hM
 have hb0:=hb
 obtain⟨⟨co,p,qG⟩,⟨pt,hsp⟩,DZ,my,zA,Ay⟩:=hM
 simp only[RX]at qG
 simp only[wQ]at hsp
 simp only[cP,mc]at hb
 obtain⟨C1,r1,hD⟩:=H.d1
 obtain⟨C0,r0,hT⟩:=hD.t1
 obtain⟨C2,rc,hC2⟩:=H.cp1
 have of:o.D.fits E3=true:=h1.fits o.i
 have nro:ro≠L.m:=gU hro my.dat (by intro h;cases h)
 have nb:b≠L.m:=gU hb my.dat (by intro h;cases h)
 have hop:∀(R:Rows) (i:Nat) (o':JO),[o][i]?=some o'->Q3 (rows++R) L.m o'.k o'.d o'.p/\256*o'.i+256<=S.x.length/\tQ (some (Uf S.x ([o].take i),false)) (o'.i:Int) 0 o'.p=0:=by
  intro R i o' h
  match i with
  |0=>cases h;exact⟨h1.keep λq row hq _=>ae hq _,by omega,h3⟩
  |i+1=>cases h
 have Sr:=bw rows [some ⟨E3,[o.D]⟩]
 rcases hkn with⟨rfl,rfl,rfl⟩|⟨rfl,rfl,rfl⟩
 ·simp only[↓ah,aj,simprocAttr,aM,qG,hsp,hb,hro,of,H.d0,r1]
  refine do_run C1 C0 (dc:= .ptr TQ L.q [0]) (ops:=[o]) (my.push _) (by omega) Sr (by have:=my.lt;omega) rfl (abx rfl) (hop _) hT.af hT.t0 hT.t1 hD.al hD.t0 r0 λR U=>?_
  have hM1:=(RY.fr hb0 (Fr.app [b] rows [some ⟨E3,[o.D]⟩])).wr U (by rw[DH];exact zA)
  have pS:live R b=_:=U.frame b _ (ae hb _) nb
  have hbR:cP R b ⟨ph,sl,mn,tr,er,lf,jy,least,bD,v0,v1,.sl E3 ro [] 0 2 ex,at_,Gc⟩:=pS
  have LC:∀X,Fr [b] R (R.set b X):=λX=>(Fr.refl [b] R).set (adM b) X
  have MK:Fr [b,L.m] rows R:=λq row hq hn=>U.frame q row (ae hq _) λe=>hn (by simp[e])
  simp only[↓ah,aj,simprocAttr,aM,pS,aD pS]
  exact UY rfl _ _ (MK.set (adH ..) _) (hM1.fr hbR (LC _)) (aD pS)
 ·simp only[↓ah,aj,simprocAttr,aM,qG,hsp,hb,hro,of,H.d0,r1]
  refine do_run C1 C0 (dc:= .ptr TQ L.q [0]) (ops:=[o]) (my.push _) (by omega) Sr (by have:=my.lt;omega) rfl (abx rfl) (hop _) hT.af hT.t0 hT.t1 hD.al hD.t0 r0 λR U=>?_
  have hM1:=(RY.fr hb0 (Fr.app [b] rows [some ⟨E3,[o.D]⟩])).wr U (by rw[DH];exact zA)
  have pS:live R b=_:=U.frame b _ (ae hb _) nb
  have hbR:cP R b ⟨ph,sl,mn,tr,er,lf,jy,least,bD,v0,v1,.sl E3 ro [] 1 1 ex,at_,Gc⟩:=pS
  have LC:∀X,Fr [b] R (R.set b X):=λX=>(Fr.refl [b] R).set (adM b) X
  have MK:Fr [b,L.m] rows R:=λq row hq hn=>U.frame q row (ae hq _) λe=>hn (by simp[e])
  simp only[↓ah,aj,simprocAttr,aM,pS,aD pS,H.cp0,rc]
  refine J3 C2 hC2 (S:={S with x:=pQ S.x o.i o.p fV}) (L:=L) (B:=⟨ph,sl,mn,tr,er,lf,jy,least,bD,v0,v1,.sl E3 ro [] 2 0 _,at_,Gc⟩) j z hj hz (hM1.fr hbR (LC _)) (aD pS) kf qR λR2=>?_
  simp only[↓ah,aj,simprocAttr,aM,ac4]
  exact Zk rfl _ _ ((MK.set (adH ..) _).trans (Fr.app _ _ _)) (hM1.fr hbR ((LC _).trans (Fr.app _ _ _))) (ae (aD pS) _)
def oV:aC->aC
 | .seq a _=>a
 |c=>c
def lG:aC->aC
 | .seq _ b=>b
 |c=>c
noncomputable def OB:aC:=lG (lG cr)
theorem YO:cr= .seq (oV cr) (.seq (oV (lG cr)) OB):=rfl
def K9(gZ:List (BitVec 8)):List (BitVec 8):=bh gZ 0 (List.replicate 4096 0#8)
def vN(gZ x:List (BitVec 8))(p a:Nat):List (BitVec 8):=bh (K9 gZ) 0 (sub x p a)
theorem ramZ_len{gZ:List (BitVec 8)}(h:gZ.length=8192):(K9 gZ).length=8192:=by
 rw[K9,jL _ _ _ (by rw[aaS];omega),h]
theorem ramC_0(gZ x:List (BitVec 8))(p:Nat):vN gZ x p 0=K9 gZ:=by simp[vN,sub,bh]
theorem YP(gZ x:List (BitVec 8))(p a n:Nat)(hp:p+a<=x.length):bh (vN gZ x p a) a (sub x (p+a) n)=vN gZ x p (a+n):=by
 have h1:(sub x p a).length=a:=lS (by omega)
 have h2:sub x p (a+n)=sub x p a++sub x (p+a) n:=by
  simp only[sub]
  rw[adC,abv]
 unfold vN
 rw[h2]
 generalize sub x p a=u at*
 generalize sub x (p+a) n=v at*
 subst h1
 simp only[bh,abL,abp,abE,acO,aao,aaC]
 simp[aex,abv]
structure CdC (C:bf):Prop where
 to:ToC C
 rd:C.fn 23=some tx
 ba:C.fn 170=some yh
 s0:C.fn 171=none
 s1:∃C1 C2,C.fy 171=some (aQ C1 4 fS fR)/\StC C2 C1
theorem gF.gZ{rows:Rows}{L:Ly}{S:zq}{pt:D}(h:gF rows L S){r2:List (BitVec 8)}(h2:r2.length=8192){X:Row}(hX:X=⟨nj,[wQ S.st r2 pt L.f L.q]⟩):gF (rows.set L.s (some X)) L {S with gZ:=r2}:=by
 subst hX
 obtain⟨⟨co,p,h1⟩,⟨pt0,Zj⟩,h3,⟨⟨ex,h4⟩,h5⟩,h6,h7⟩:=h
 have h8:=h7.ch
 have h9:=h7.ar
 have h10:=h7.dat
 have k:∀{q row},live rows q=some row->row.sh≠nj->live (rows.set L.s (some ⟨nj,[wQ S.st r2 pt L.f L.q]⟩)) q=some row:=λ{q row} hq hn=>by
  rw[az λe=>hn (by rw[<-e,Zj]at hq;injection hq with hq;rw[<-hq])];exact hq
 exact⟨⟨co,p,k h1 (by intro h;cases h)⟩,⟨pt,aD Zj⟩,h2,⟨⟨ex,k h4 (by intro h;cases h)⟩,k h5 (by intro h;cases h)⟩,h6,h7.keep λp row hp hq=>k hp (by rcases hq with rfl|rfl|rfl<;>(intro h;simp_all))⟩
theorem spc_clr{rows:Rows}{s f c:Nat}{ex:Bool}{st:Int}{gZ:List (BitVec 8)}{pt:D}(hs:live rows s=some ⟨nj,[wQ st gZ pt f c]⟩)(hr:gZ.length=8192){k:D->Rows->Prop}
  (hk:k (.raw (it 4096)) (rows.set s (some ⟨nj,[wQ st (K9 gZ) pt f c]⟩))):o5 rows L8 (.sl L8 s [0,1] 0 4096 ex) (List.replicate 4096 (.raw (u8 0#8))) k:=by
 have e:List.replicate 4096 (D.raw (u8 0#8))=bs (List.replicate 4096 0#8):=by rw[bs,List.map_replicate]
 rw[e]
 refine QP hs hr (by omega) (by rw[aaS];omega) ?_
 rw[aaS]
 exact hk
theorem clr_go{C:bf}{env:Env}{x:X}{rows:Rows}{s f c:Nat}{ex:Bool}{st:Int}{gZ:List (BitVec 8)}{pt:D}(h:ev C env x=some (.sl L8 s [0,1] 0 4096 ex))(hs:live rows s=some ⟨nj,[wQ st gZ pt f c]⟩)(hr:gZ.length=8192){k:D->Rows->Prop}
  (hk:k (.cA []) (rows.set s (some ⟨nj,[wQ st (K9 gZ) pt f c]⟩))):dW C env rows (.clr L8 (.raw (u8 0#8)) x) k:=by
 rw[o_clr,h]
 exact E0 (a:= .sl L8 s [0,1] 0 4096 ex) rfl (E0 (a:=4096) rfl (spc_clr hs hr hk))
theorem Un(C:bf)(H:CdC C){rows:Rows}{L:Ly}{S:zq}{b:Nat}{B:Bt}(z p i l:Nat)(hz:z<=2048)(hp:p+z<=10240)(hi:64*i<z)(hst:S.st=0)(hM:gF rows L S)(hb:cP rows b B)(La:B.Gc=(p:Int))(qR:B.iR.s=z)(Ko:B.at_=((64*i:Nat):Int))(hl:B.left=((l+1:Nat):Int))(xf:l<=100){K:D->Rows->Prop}
  (hk:∀aa,Fr [b,L.s] rows aa->gF aa L {S with gZ:=bh (if i=0 then K9 S.gZ else S.gZ) (64*i) (sub S.x (p+64*i) (min 64 (z-64*i)))}->
   cP aa b {B with at_:=((64*i+min 64 (z-64*i):Nat):Int),left:=if l=0 then 1 else(l:Int),ph:=if l=0 then 6 else B.ph}->K (.raw (.bool false)) aa):
  aQ C 2 eR cr [.ptr l7 b [0],.ptr ko L.M [0]] rows K:=by
 have main:∀env R (S0:zq),has env [(0,.ptr l7 b [0]),(1,.ptr ko L.M [0]),(4,.raw (.bool false))]->gF R L S0->S0.x=S.x->S0.st=0->cP R b B->Fr [b,L.s] rows R->(∀aa,Fr [b,L.s] R aa->gF aa L {S0 with gZ:=bh S0.gZ (64*i) (sub S.x (p+64*i) (min 64 (z-64*i)))}->
   cP aa b {B with at_:=((64*i+min 64 (z-64*i):Nat):Int),left:=if l=0 then 1 else(l:Int),ph:=if l=0 then 6 else B.ph}->K (.raw (.bool false)) aa)->aw C OB (KC [.tmp 4] K) env R:=by
  intro env R S0 hh hM hx hst hb hF hk
  simp only[has]at hh
  obtain⟨Fp,GL,hh4,-⟩:=hh
  obtain⟨Bx,zt,x0,c0⟩:=S0
  simp only at hx hst hk
  subst hx hst
  have RY:=hM
  have hb0:=hb
  obtain⟨⟨co,pp,qG⟩,⟨pt,hsp⟩,DZ,my,zA,Ay⟩:=hM
  obtain⟨m,pE,KA,hm3,hm4⟩:∃m:Nat,min 64 (z-64*i)=m/\0<m/\m<=64/\64*i+m<=z:=⟨_,rfl,by omega,by omega,by omega⟩
  rw[pE]at hk
  replace DZ:zt.length=8192:=DZ
  replace zA:S.x.length=10240:=zA
  replace my:gE R L.f L.m S.x:=my
  have kR:=λk=>JJ my (by omega) (p+64*i) m (by omega) k
  simp only[RX]at qG
  have Uo:=hsp
  simp only[wQ]at hsp
  simp only[cP,mc]at hb
  have gm:(cw B.iR).get [1]=some (.raw (it (z:Int))):=by rw[<-qR];rfl
  have w1:wz ((z:Int)-((64*i:Nat):Int))=((z-64*i:Nat):Int):=by rw[aZ (by omega)];omega
  have w2:wz ((p:Int)+((64*i:Nat):Int))=((p+64*i:Nat):Int):=by rw[aZ (by omega)];omega
  have mm:min (64:Int) ((z-64*i:Nat):Int)=(m:Int):=by omega
  have kB:=λrows k=>kAt [.raw (it 1)] (.cA [.raw (u32 536870912#32),.raw (it 4096)]) rfl rfl rows k rfl
  obtain⟨C1,C2,r1,hS⟩:=H.s1
  have hbA:=λL'=>ae hb L'
  have Ra:=λL'=>ae qG L'
  have YQ:=λL'=>ae hsp L'
  unfold OB
  simp only[cr,lG,↓ah,aj,simprocAttr,aM,Fp,GL,hh4,qG,hsp,hb,hbA,Ra,YQ,gm,Ko,La,w1,w2,mm,H.rd,kR,H.ba,yh,kB,H.s0,r1]
  have kf:(sub S.x (p+64*i) m).length=m:=lS (by omega)
  have ne:b≠L.s:=gU hb hsp (by intro h;cases h)
  generalize sub S.x (p+64*i) m=u at*
  subst kf
  have Rb:=RY.keep (aa:=R++[some ⟨L8,bs u⟩]) λq row hq _=>ae hq _
  have YN:live (R++[some ⟨L8,bs u⟩]) L.s=some ⟨nj,[wQ 0 zt pt L.f L.q]⟩:=ae Uo _
  have hbR:=hbA [some ⟨L8,bs u⟩]
  have hlv:=bw R [some ⟨L8,bs u⟩]
  have MK:=hF.trans (Fr.app [b,L.s] R [some ⟨L8,bs u⟩])
  have hFR:=Fr.app [b,L.s] R [some ⟨L8,bs u⟩]
  generalize R++[some ⟨L8,bs u⟩]=R1 at*
  have hm8:(bh zt (64*i) u).length=8192:=by rw[jL _ _ _ (by omega),DZ]
  refine Yw C1 C2 hS (gZ:=zt) (pt:=pt) (o:=64*i) (p:=u) YN DZ (by omega) KA (by show elems R1 (.sl L8 R.length [] 0 u.length false)=some (bs u);simp only[elems,hlv];simp[live,fT,aB]) rfl ?_
  have hM2:=Rb.gZ (pt:=pt) hm8 rfl
  have Ln:live (R1.set L.s (some ⟨nj,[wQ 0 (bh zt (64*i) u) pt L.f L.q]⟩)) b=_:=(az (abT ne)).trans hbR
  have GP:Fr [b,L.s] R (R1.set L.s (some ⟨nj,[wQ 0 (bh zt (64*i) u) pt L.f L.q]⟩)):=hFR.set (by simp) _
  generalize R1.set L.s (some ⟨nj,[wQ 0 (bh zt (64*i) u) pt L.f L.q]⟩)=R2 at*
  have w3:wz (((64*i:Nat):Int)+(u.length:Int))=((64*i+u.length:Nat):Int):=by rw[aZ (by omega)];omega
  have w4:wz (((l+1:Nat):Int)-1)=(l:Int):=by rw[aZ (by omega)];omega
  have sy:=λx=>aD (y:=x) Ln
  obtain⟨C3,r3⟩:=H.to.r
  by_cases c:l=0
  ·subst c
   simp only[Fp,GL,hh4,↓ah,aj,simprocAttr,aM,Ln,sy,hl,Ko,w3,w4,ac4,H.to.n,r3]
   refine tS C3 (B:={B with at_:=((64*i+u.length:Nat):Int),left:=0}) (aD Ln) 6 1 ?_
   simp only[↓ah,aj,simprocAttr,aM,ac4]
   exact hk _ (GP.set (by simp) _) (hM2.fr (B:=B) Ln ((Fr.refl _ _).set (by simp) _)) (aD Ln)
  ·have c1:((l:Int)=0)=False:=aax (by omega)
   simp only[Fp,GL,hh4,↓ah,aj,simprocAttr,aM,Ln,sy,hl,Ko,w3,w4,ac4,c1]
   rw[aaA c,aaA c]at hk
   exact hk _ (GP.set (by simp) _) (hM2.fr (B:=B) Ln ((Fr.refl _ _).set (by simp) _)) (aD Ln)
 refine ag rfl ?_
 rw[YO]
 simp only[cr,oV,lG,eR]
 have RY:=hM
 have hb0:=hb
 obtain⟨⟨co,pp,qG⟩,⟨pt,hsp⟩,DZ,my,zA,Ay⟩:=hM
 simp only[RX]at qG
 have Uo:=hsp
 simp only[wQ]at hsp
 simp only[cP,mc]at hb
 by_cases c:i=0
 ·subst c
  have Ko:B.at_=0:=Ko
  generalize jZ:nY.clr L8 (.raw (u8 0#8)) (.tmp 21)=CL
  simp only[-List.reduceReplicate,↓ah,aj,simprocAttr,aM,qG,hsp,hb,Ko]
  subst jZ
  refine clr_go rfl Uo DZ ?_
  simp only[↓ah,aj,simprocAttr]
  have h8:=ramZ_len DZ
  have ne:b≠L.s:=gU hb hsp (by intro h;cases h)
  have hFr:Fr [b,L.s] rows (rows.set L.s (some ⟨nj,[wQ S.st (K9 S.gZ) pt L.f L.q]⟩)):=(Fr.refl _ _).set (by simp) _
  exact main _ _ {S with gZ:=K9 S.gZ} (by simp only[has,↓ah,aj,simprocAttr]) (RY.gZ h8 rfl) rfl hst (by rw[cP,az (abT ne)];exact hb0) hFr λaa h1 h2 h3=>hk aa (hFr.trans h1) h2 h3
 ·have c1:(((64*i:Nat):Int)=0)=False:=aax (by omega)
  simp only[-List.reduceReplicate,↓ah,aj,simprocAttr,aM,qG,hsp,hb,Ko,c1]
  rw[aaA c]at hk
  exact main _ _ S (by simp only[has,↓ah,aj,simprocAttr]) RY rfl hst hb0 (Fr.refl _ _) hk
structure CkC (C:bf):Prop where
 to:ToC C
 ha:HaC C
 su:C.fn 95=some Di
theorem Rc(C:bf)(H:CkC C){rows:Rows}{L:Ly}{S:zq}{b:Nat}{B:Bt}(z:Nat)(hz:z<=2048)(hM:gF rows L S)(hb:cP rows b B)(qR:B.iR.s=z)(ww:B.iR.dg.length=32){K:D->Rows->Prop}
  (h0:cM (S.gZ.take z)≠B.iR.dg->∀aa,Fr [b] rows aa->cP aa b {B with ph:=9,left:=0,e:=16}->K (.raw (.bool true)) aa)
  (h1:cM (S.gZ.take z)=B.iR.dg->∀aa,Fr [b] rows aa->cP aa b {B with ph:=7,left:=1}->K (.raw (.bool false)) aa):
  aQ C 2 eF eE [.ptr l7 b [0],.ptr ko L.M [0]] rows K:=by
 refine ag rfl ?_
 unfold eE eF
 have hb0:=hb
 obtain⟨⟨co,pp,qG⟩,⟨pt,hsp⟩,DZ,my,zA,Ay⟩:=hM
 simp only[RX]at qG
 have Uo:=hsp
 simp only[wQ]at hsp
 simp only[cP,mc]at hb
 have hq:=yY hb
 have hbA:=λL'=>ae hb L'
 have J1:∀X l,live (rows.set b (some X)++l) b=some X:=hq.2.2.1
 have hF:∀X l,Fr [b] rows (rows.set b X++l):=λX l=>((Fr.refl _ _).set (by simp) _).trans (Fr.app _ _ _)
 have gm:(cw B.iR).get [1]=some (.raw (it (z:Int))):=by rw[<-qR];rfl
 have g3:(cw B.iR).get [3]=some (.agg (.ar 32 L8) (bs B.iR.dg)):=rfl
 have hBs:∀R e,aU (rows++R) (.sl L8 L.s [0,1] 0 z e) (S.gZ.take z):=λR e=>by
  have:=aU.at (off:=0) (len:=z) (e:=e) (ae Uo R) (n:=8192) (i:=0) (q:=[1]) (l:=S.gZ) rfl (by omega)
  rwa [abi]at this
 have kS:∀e k,aI Di (rows++[some ⟨.ref,[.sl L8 L.s [0,1] 0 z e]⟩]) k [.sl .ref rows.length [] 0 1 true]=k (.agg (.ar 32 L8) (bs (cM (S.gZ.take z)))) (rows++[some ⟨.ref,[.sl L8 L.s [0,1] 0 z e]⟩]):=λe k=>by
  have:=N0 (rows++[some ⟨.ref,[.sl L8 L.s [0,1] 0 z e]⟩]) k rows.length 1 true [.sl L8 L.s [0,1] 0 z e] [S.gZ.take z] (bw rows _) rfl (.cons (hBs _ e) .nil) (by simp) (by simp;omega)
  simpa using this
 have z0:(0:Int)<=(z:Int):=by omega
 have z1:(z:Int)<=8192:=by omega
 have eq:=vF (cM (S.gZ.take z)) B.iR.dg (cm _) ww
 by_cases c:cM (S.gZ.take z)=B.iR.dg
 ·rw[aaY c]at eq
  obtain⟨C1,r1⟩:=H.to.r
  simp only[↓ah,aj,simprocAttr,aM,qG,hsp,hb,hbA,hq,gm,g3,H.su,kS,z0,z1,acB,eq,H.to.n,r1]
  refine tS C1 (B:=B) (ae hb0 _) 7 1 ?_
  simp only[↓ah,aj,simprocAttr,aM,hq]
  exact h1 c _ (hF _ _) (J1 _ _)
 ·rw[aaJ c]at eq
  obtain⟨C1,r1,hT⟩:=H.ha.r
  simp only[↓ah,aj,simprocAttr,aM,qG,hsp,hb,hbA,hq,gm,g3,H.su,kS,z0,z1,acB,eq,H.ha.n,r1]
  refine E5 C1 hT (B:=B) (ae hb0 _) 16 ?_
  simp only[↓ah,aj,simprocAttr,aM,hq]
  exact h0 c _ (hF _ _) (J1 _ _)
end jU
end Go.Am

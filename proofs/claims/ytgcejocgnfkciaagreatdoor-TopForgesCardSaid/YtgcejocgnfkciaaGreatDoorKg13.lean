import Derived.Test.YtgcejocgnfkciaaGreatDoorKg12
set_option linter.unusedSimpArgs false
set_option linter.unusedVariables false
set_option maxRecDepth 10000
set_option maxHeartbeats 4000000
namespace Go.Am
namespace jU
open Go.Am.F
def chpP(c:rU)(f:Nat)(l:List (BitVec 32)):rU:=⟨lX c.ws (jV c.w f l) (jV c.w f l).length,c.e,c.s⟩
def GR(bD:List (BitVec 8)):List (BitVec 32):=words 14 bD++words 4 idL
theorem yp(bD:List (BitVec 8)):(GR bD).length=18:=by simp[GR,ei]
def OH(bD:List (BitVec 8)):rU:=chpP GM 9 (GR bD)
def Uw(bD:List (BitVec 8))(n:Nat):rU:=chpP (OH bD) 1 (sD n)
def Ke(bD:List (BitVec 8))(n m:Nat):rU:=chpP (Uw bD n) 0 [255#32<<<(8*m)]
theorem Ri{c:rU}{f:Nat}{l:List (BitVec 32)}(h:f+l.length<=c.ws.length)(hz:∀k,f<=k->k<f+l.length->c.w.getD k 0#32=0#32):(chpP c f l).ws.length=c.ws.length:=(Kd c f l h hz).2.1
theorem Ux{c:rU}{f:Nat}{l:List (BitVec 32)}(h:f+l.length<=c.ws.length)(hz:∀k,f<=k->k<f+l.length->c.w.getD k 0#32=0#32):(chpP c f l).w=c.w.take f++l++c.w.drop (f+l.length):=(Kd c f l h hz).2.2
theorem Uy:GM.w=List.replicate 64 0#32:=by simp[GM,rU.w]
theorem Uz(k:Nat):GM.w.getD k 0#32=0#32:=by
 rw[Uy,aaH,adN]
 split<;>rfl
theorem yq:GM.ws.length=64:=by simp[GM]
theorem yt(bD:List (BitVec 8)):(OH bD).ws.length=64:=(Ri (by rw[yp,yq];decide) λk _ _=>Uz k).trans yq
theorem UA(bD:List (BitVec 8)):(OH bD).w=List.replicate 9 0#32++GR bD++List.replicate 37 0#32:=by
 rw[OH,Ux (by rw[yp,yq];decide) λk _ _=>Uz k,yp,Uy]
 rfl
theorem UB(bD:List (BitVec 8))(k:Nat)(h:k<9):(OH bD).w.getD k 0#32=0#32:=by
 rw[UA,aaH,aaC,aaN (by simpa using h),adN,aaI h]
 rfl
theorem Kf(bD:List (BitVec 8))(n:Nat):(Uw bD n).ws.length=64:=(Ri (by rw[jm,yt];decide) λk _ h=>UB bD k (by rw[jm]at h;omega)).trans (yt bD)
theorem OI(bD:List (BitVec 8))(n:Nat):(Uw bD n).w=0#32::(sD n++(GR bD++List.replicate 37 0#32)):=by
 rw[Uw,Ux (by rw[jm,yt];decide) λk _ h=>UB bD k (by rw[jm]at h;omega),jm,UA]
 have e:(List.replicate 9 0#32++GR bD++List.replicate 37 0#32).drop (1+8)=GR bD++List.replicate 37 0#32:=by
  rw[aaC];exact adl (by simp)
 rw[e,aaC,aaC]
 rfl
theorem UC(bD:List (BitVec 8))(n m:Nat):(Ke bD n m).w=255#32<<<(8*m)::(sD n++(GR bD++List.replicate 37 0#32)):=by
 rw[Ke,Ux (by rw[Kf];exact abx rfl) λk _ h=>by
  have:k=0:=by simpa using h
  subst this
  rw[OI];rfl,OI]
 rfl
theorem MP(bD:List (BitVec 8))(n m:Nat)(h:m<4):ey (Ke bD n m)=m+1:=by
 unfold ey
 rw[UC]
 exact lifeW m h
theorem Rj(bD:List (BitVec 8))(n m:Nat)(h:n<256):js (Ke bD n m)=n:=by
 unfold js
 rw[UC]
 have e:((255#32<<<(8*m)::(sD n++(GR bD++List.replicate 37 0#32))).drop 1).take 8=sD n:=acO (jm n)
 rw[e,cntW_ctr n h]
 omega
theorem Rk(bD:List (BitVec 8))(n m:Nat)(h:bD.length=56):jK (Ke bD n m)=bD:=by
 unfold jK
 rw[UC]
 have e:((255#32<<<(8*m)::(sD n++(GR bD++List.replicate 37 0#32))).drop 9).take 14=words 14 bD:=by
  rw[show(9:Nat)=8+1 from rfl,List.drop_succ_cons,adl (jm n),GR,aaC]
  exact acO (ei 14 bD)
 rw[e,Uv 14 bD (by omega)]
end jU
end Go.Am
namespace Go.Am
attribute [local congr] dq bW dt bX bY cB bI bZ b5 cC bu cD b6 dj
namespace jU
open Go.Am.F
def E9:List (BitVec 8):=List.replicate 10240 255#8
noncomputable def sF(p0 p1:List (BitVec 8)):List (BitVec 8):=RV (RV E9 0 (p0.take 4096)) 4096 (p1.take 4096)
def z16L:List (BitVec 8):=List.replicate 16 0#8
theorem UD:List.replicate 16 (D.raw (u8 0#8))=bs z16L:=rfl
theorem z16_set:(bs z16L).set 0 (.raw (u8 2#8))=bs idL:=rfl
structure DS (n:Nat) (rows R:Rows) (x:List (BitVec 8)) (c:rU):Prop where
 k:bG rows R
 f:gE R (n+3) (n+2) x
 c:uR R (n+6) (n+5) (n+4) c
theorem DS.push{n:Nat}{rows R:Rows}{x:List (BitVec 8)}{c:rU}(h:DS n rows R x c)(l:Rows):DS n rows (R++l) x c:=⟨h.k.trans (bG.app _ _),h.f.push l,h.c.push l⟩
theorem DS.wr{rows R R':Rows}{x y:List (BitVec 8)}{c:rU}(h:DS rows.length rows R x c)(U:V7 R R' (rows.length+3) (rows.length+2) y):DS rows.length rows R' y c:=
 ⟨λq row hq=>U.frame q row (h.k q row hq) (by have:=bb hq;omega),U.fl,h.c.keep λp row hp hq=>U.frame p row hp (by omega)⟩
theorem DS.pr{rows R R':Rows}{x:List (BitVec 8)}{c c':rU}(h:DS rows.length rows R x c)(hc:uR R' (rows.length+6) (rows.length+5) (rows.length+4) c')(f:∀p row,live R p=some row->p≠rows.length+4->live R' p=some row):DS rows.length rows R' x c':=by
 obtain⟨⟨e,g1⟩,g2⟩:=h.f
 exact⟨λq row hq=>f q row (h.k q row hq) (by have:=bb hq;omega),⟨⟨e,f _ _ g1 (by omega)⟩,f _ _ g2 (by omega)⟩,hc⟩
structure LayC (C:bf):Prop where
 f0:C.fn 43=none
 f1:C.fy 43=some (aQ CF 1 m8 mZ)
 o0:C.fn 44=none
 o1:∃C1 C2,C.fy 44=some (aQ C1 0 uv uu)/\C1.fn 104=none/\C1.fy 104=some (aQ C2 1 oM oL)
 cu:C.fn 17=some GJ
 w0:C.fn 45=none
 w1:C.fy 45=some (aQ CF 3 eB eA)
 ke:C.fn 46=some N7
 ct:C.fn 48=some N6
 li:C.fn 49=some G8
 d0:C.fn 47=none
 d1:∃C1 C2 C3,C.fy 47=some (aQ C1 2 mj mi)/\PrgC C3 C2 C1
 n0:C.fn 20=none
 n1:∃C1,C.fy 20=some (aQ C1 2 iu ir)/\NmC C1
theorem Rl(C:bf)(H:LayC C){rows:Rows}{d s0 s1:D}{bD p0 p1:List (BitVec 8)}(n m:Nat)(hn:n<=255)(hm:m<4)(hd:∀R,bG rows R->aU R d bD)(hpub:bD.length=56)(h0:∀R,bG rows R->aU R s0 p0)(h1:∀R,bG rows R->aU R s1 p1)(l0:p0.length<=9223372036854775807)(l1:p1.length<=9223372036854775807)
  (hf0:s0.fits .ref=true)(hf1:s1.fits .ref=true){K:D->Rows->Prop}
  (hk:∀aa L,bG rows aa->(∀x∈[L.M,L.s,L.m,L.e,L.sl,L.q,L.w],rows.length<=x)->gF aa L ⟨0,zt,sF p0 p1,Ke bD n m⟩->J7 aa L zR sl8->K (.ptr ko L.M [0]) aa):
  aQ C 4 ur uo [d,.agg (.ar 2 .ref) [s0,s1],.raw (it (n:Int)),.raw (it ((m+1:Nat):Int))] rows K:=by
 refine ag rfl ?_
 unfold uo ur
 obtain⟨C1,C2,o1,o2,o3⟩:=H.o1
 obtain⟨D1,D2,D3,dd,hP⟩:=H.d1
 obtain⟨N1,nn,hN⟩:=H.n1
 simp only[-List.reduceReplicate,UD]
 simp only[↓ah,aj,simprocAttr,aM,H.f0,H.f1]
 have e40:(40:Int)=((40:Nat):Int):=rfl
 rw[e40]
 refine fnew_run 40 (by decide) ?_
 have hx0:E9.length=10240:=aaS ..
 rw[show List.replicate (256*40) 255#8=E9 from rfl]
 have hF0:gE (rows++[some ⟨.ar 2 .ref,[.agg (.ar 2 .ref) [s0,s1]]⟩,some ⟨L8,[.raw (u8 255#8)]⟩,some ⟨L8,bs E9⟩,some ⟨SF,[.agg SF [.sl L8 (rows.length+2) [] 0 10240 false]]⟩]) (rows.length+3) (rows.length+2) E9:=⟨⟨false,by rw[hx0];exact aK rows _ 3⟩,aK rows _ 2⟩
 have Ue:=bG.app rows [some ⟨.ar 2 .ref,[.agg (.ar 2 .ref) [s0,s1]]⟩,some ⟨L8,[.raw (u8 255#8)]⟩,some ⟨L8,bs E9⟩,some ⟨SF,[.agg SF [.sl L8 (rows.length+2) [] 0 10240 false]]⟩]
 have hsl1:=bw rows [some ⟨.ar 2 .ref,[.agg (.ar 2 .ref) [s0,s1]]⟩,some ⟨L8,[.raw (u8 255#8)]⟩,some ⟨L8,bs E9⟩,some ⟨SF,[.agg SF [.sl L8 (rows.length+2) [] 0 10240 false]]⟩]
 simp only[↓ah,aj,simprocAttr,aM,H.o0,o1]
 refine onew_run C1 C2 o2 o3 λR2 ML hC2=>?_
 have hsl2:=ML _ _ hsl1
 have hI2:DS rows.length rows R2 E9 GM:=by
  obtain⟨⟨e,g1⟩,g2⟩:=hF0
  exact⟨Ue.trans ML,⟨⟨e,ML _ _ g1⟩,ML _ _ g2⟩,by simpa using hC2⟩
 clear hC2 hF0 Ue hsl1
 have kC0:=λk=>WG (h0 R2 hI2.k) 4096 l0 (by decide) k
 simp only[↓ah,aj,simprocAttr,aM,hsl2]
 refine gh 3 ?_
 simp only[↓ah,aj,simprocAttr,aM,H.cu,kC0,H.w0,H.w1]
 refine writeA (hI2.f.push _) (bw R2 _) (by rw[hx0];decide) (by rw[aau];omega) 0 λR3 U3=>?_
 have hI3:=(hI2.push _).wr U3
 have kC1:=λk=>WG (h1 R3 hI3.k) 4096 l1 (by decide) k
 simp only[↓ah,aj,simprocAttr,aM,H.cu,kC1,H.w0,H.w1]
 have sn:(RV E9 0 (p0.take 4096)).length=10240:=by rw[DA];exact hx0
 refine writeA (hI3.f.push _) (bw R3 _) (by rw[sn];decide) (by rw[aau];omega) 4096 λR4 U4=>?_
 have hI4:DS rows.length rows R4 (sF p0 p1) GM:=(hI3.push _).wr U4
 have kK:=λk=>kToKey (hI4.c.rd) yq (hd R4 hI4.k) hpub (by decide) (λw hw=>by rw[Uy]at hw;exact abG (aca hw)) k
 simp only[-List.reduceReplicate,↓ah,aj,simprocAttr,aM,z16_set,H.ke,kK,H.d0,dd]
 have Mc:=Kd GM 9 (GR bD) (by rw[yp,yq];decide) λk _ _=>Uz k
 refine Oe D1 D2 D3 hP (hI4.push _).c (bw R4 _) rfl (abd (uM _ _ _ _) (by rw[yp];decide)) Mc.1 λR5 hC5 hF5=>?_
 have hI5:DS rows.length rows R5 (sF p0 p1) (OH bD):=(hI4.push _).pr hC5 hF5
 have lf0:ey (Uw bD n)=0:=by unfold ey;rw[OI];show F8 0#32 4=0;decide
 have ct0:js (OH bD)<=n:=by
  unfold js
  have e:((OH bD).w.drop 1).take 8=List.replicate 8 0#32:=by
   rw[UA,aaC,adf (by simp),ab0 (by simp)]
   rfl
  rw[e]
  exact abd (by decide) (acp n)
 have kN:=λk=>kToCtr (hI5.c.rd) (yt bD) n hn ct0 k
 simp only[↓ah,aj,simprocAttr,aM,H.ct,kN,H.d0,dd]
 have sq:=Kd (OH bD) 1 (sD n) (by rw[jm,yt];decide) λk _ h=>UB bD k (by rw[jm]at h;omega)
 refine Oe D1 D2 D3 hP (hI5.push _).c (bw R5 _) rfl (abd (uM _ _ _ _) (by rw[jm];decide)) sq.1 λR6 hC6 hF6=>?_
 have hI6:DS rows.length rows R6 (sF p0 p1) (Uw bD n):=(hI5.push _).pr hC6 hF6
 have kL:=λk=>kToLife (hI6.c.rd) (Kf bD n) m hm (by rw[lf0];omega) k
 simp only[↓ah,aj,simprocAttr,aM,H.li,kL,H.d0,dd]
 have hp3:=Kd (Uw bD n) 0 [255#32<<<(8*m)] (by rw[Kf];exact abx rfl) λk _ h=>by
  have:k=0:=by simpa using h
  subst this
  rw[OI];rfl
 refine Oe D1 D2 D3 hP (hI6.push _).c (bw R6 _) rfl (abd (uM _ _ _ _) (abx rfl)) hp3.1 λR7 hC7 hF7=>?_
 have hI7:DS rows.length rows R7 (sF p0 p1) (Ke bD n m):=(hI6.push _).pr hC7 hF7
 simp only[↓ah,aj,simprocAttr,aM,H.n0,nn]
 have BQ:(sF p0 p1).length=10240:=by rw[sF,DA];exact sn
 refine nm_run N1 hN hI7.f BQ hI7.c λR8 L hK8 e1 e2 e3 e4 e5 e6 hM hE=>?_
 simp only[↓ah,aj,simprocAttr,aM]
 have hgr:rows.length<=R7.length:=by
  have:=hI7.f.lt.2
  omega
 simp only[aaW,acm,adU,ad2,forall_eq]at e6
 exact hk R8 L (hI7.k.trans hK8) (by simp only[aaW,acm,adU,ad2,forall_eq];omega) hM hE
end jU
end Go.Am
namespace Go.Am
namespace jU
open Go.Am.F
theorem YX{q r:List (BitVec 8)}(h:(cE q).2.2.2=0):cE (q++r)=cE q:=by
 have h50:=Wl h
 obtain⟨-,s,hs,-,-,-,hn⟩:=E1 h
 have t48:(q++r).take 48=q.take 48:=ab0 (by omega)
 have g:∀i,i<q.length->(q++r).getD i 0#8=q.getD i 0#8:=λi hi=>by
  rw[aaH,aaH,aaN hi]
 have hsg:dz (q++r)=dz q:=by unfold dz;rw[g 48 (by omega),g 49 (by omega)]
 revert h hs
 unfold cE
 rw[t48,hsg,aao]
 cases d1:decide (q.length<50)
 ·have e1:decide (q.length+r.length<50)=false:=aaJ (by omega)
  rw[e1]
  cases d2:decide ((cg (q.take 48)).2≠0)
  ·cases d3:decide ((q.length:Int)<50+dz q+(cg (q.take 48)).1.s)
   ·intro _ hs
    simp only[aaM]at hs⊢
    have d3:=aei d3
    have e3:decide (((q.length+r.length:Nat):Int)<50+dz q+(cg (q.take 48)).1.s)=false:=aaJ (by omega)
    rw[e3,hs,aaB]
    simp only[aaM]
    have f1:((q++r).drop 50).take (dz q)=(q.drop 50).take (dz q):=by
     rw[adf (by omega),ab0 (by rw[aar];omega)]
    have f2:((q++r).drop (50+dz q)).take s=(q.drop (50+dz q)).take s:=by
     rw[adf (by omega),ab0 (by rw[aar];omega)]
    rw[f1,f2]
   ·intro h;simp at h
  ·intro h
   simp only[aaM,aaU]at h
   exact absurd h (ac1 d2)
 ·intro h;simp at h
def sv(n:Nat):List (BitVec 8):=List.replicate n 255#8
theorem Kg(n:Nat)(p:List (BitVec 8))(h:p.length<=n):clears (sv n) p:=by
 rw[T5]
 simp only[Oi,aa7,adq,aat]
 intro i hi
 have:(sv n).getD i 0#8=255#8:=by
  rw[sv,aaH,adN,aaI (by omega)];rfl
 rw[this]
 have e: ~~~(255#8)=0#8:=rfl
 rw[e,BitVec.and_zero]
theorem OJ(p0 p1:List (BitVec 8)):sF p0 p1=p0.take 4096++sv (4096-(p0.take 4096).length)++(p1.take 4096++sv (6144-(p1.take 4096).length)):=by
 have h0:(p0.take 4096).length<=4096:=acn ..
 have h1:(p1.take 4096).length<=4096:=acn ..
 unfold sF
 generalize p0.take 4096=q0 at*
 generalize p1.take 4096=q1 at*
 have hf:E9=sv 10240:=rfl
 have l1:∀n,(sv n).length=n:=λn=>aaS ..
 have w0:=wr_ok (x:=E9) (p:=q0) (a:=0) (by rw[hf,l1];omega) (by rw[abi,hf];exact Kg _ _ (by omega))
 have s0:bh E9 0 q0=q0++sv (4096-q0.length)++sv 6144:=by
  rw[bh,hf,abL,abp,abE,sv,aeb,aaC,sv,sv,ab9]
  congr 2
  omega
 have e0:RV E9 0 q0=q0++sv (4096-q0.length)++sv 6144:=w0.2.trans s0
 rw[e0]
 have l2:(q0++sv (4096-q0.length)).length=4096:=by rw[aao,l1];omega
 have w1:=wr_ok (x:=q0++sv (4096-q0.length)++sv 6144) (p:=q1) (a:=4096) (by rw[aao,l2,l1];omega) (by rw[adl l2];exact Kg _ _ (by omega))
 refine w1.2.trans ?_
 have dr:(sv 6144).drop q1.length=sv (6144-q1.length):=aeb ..
 rw[bh,acO l2,<-abv,adl l2,dr,aaC]
theorem lay_sub0(p0 p1:List (BitVec 8)):sub (sF p0 p1) 0 4096=p0.take 4096++sv (4096-(p0.take 4096).length):=by
 have h0:(p0.take 4096).length<=4096:=acn ..
 rw[OJ,sub,abi]
 exact acO (by rw[aao,sv,aaS];omega)
theorem lay_sub1(p0 p1:List (BitVec 8)):sub (sF p0 p1) 4096 4096=p1.take 4096++sv (4096-(p1.take 4096).length):=by
 have h0:(p0.take 4096).length<=4096:=acn ..
 have h1:(p1.take 4096).length<=4096:=acn ..
 rw[OJ,sub,adl (by rw[aao,sv,aaS];omega)]
 have:sv (6144-(p1.take 4096).length)=sv (4096-(p1.take 4096).length)++sv 2048:=by
  rw[sv,sv,sv,ab9];congr 1;omega
 rw[this,<-aaC]
 exact acO (by rw[aao,sv,aaS];omega)
theorem lay_hi(p0 p1:List (BitVec 8))(a n:Nat)(h:8192<=a)(hn:a+n<=10240):sub (sF p0 p1) a n=sv n:=by
 have h0:(p0.take 4096).length<=4096:=acn ..
 have h1:(p1.take 4096).length<=4096:=acn ..
 rw[OJ,sub]
 have e:sv (6144-(p1.take 4096).length)=sv (a-4096-(p1.take 4096).length)++sv (10240-a):=by
  rw[sv,sv,sv,ab9];congr 1;omega
 rw[e,<-aaC,<-aaC,adl (by simp only[aao,sv,aaS];omega),sv,aed,sv]
 congr 1
 omega
theorem WH(p0 p1:List (BitVec 8)):(sF p0 p1).length=10240:=by rw[sF,DA,DA];exact aaS ..
theorem Rn(p0 p1:List (BitVec 8))(e:Bool):fU (some (sF p0 p1,e))=(fu,-1):=by
 rw[JW _ e (by rw[WH];decide)]
 unfold refJ
 rw[aaA (by rw[WH];decide),lay_hi _ _ _ _ (by decide) (by decide),lay_hi _ _ _ _ (by decide) (by decide)]
 have:(dh (sv 32)).2=false:=by decide+kernel
 rw[this]
 rfl
theorem imgOk_T(v:Nat)(p sig:List (BitVec 8))(hv:v<=255)(hs:sig.length<=65535):qi (dN v p) sig (jz p)=true:=by
 simp only[qi,Bu v p hv,abA,aan,aat]
 exact⟨rfl,hs⟩
theorem Ro{x bD sig p:List (BitVec 8)}{least:Int}{j v n:Nat}(hv:v<=255)(hs:sig.length<=65535)(hx:sub x (4096*j) 4096=kj (dN v p) sig (jz p)++sv n)(Fa:nU bD (bC (dN v p)) sig=0):
  gT x bD least j=(if(v:Int)<least then 15 else 0)/\fD x j=(dN v p,sig,jz p,0):=by
 have ww:(dN v p).dg.length=32:=cm _
 have hr:=read_img (dN v p) sig (jz p) ww (imgOk_T v p sig hv hs)
 have Hi:cE (kj (dN v p) sig (jz p)++sv n)=(dN v p,sig,jz p,0):=by rw[YX (by rw[hr]),hr]
 have FB:=jX (dN v p) ww
 have ht:(kj (dN v p) sig (jz p)++sv n).take 48=bC (dN v p):=by
  rw[kj,aaC]
  exact acO FB
 unfold gT fD JU
 rw[hx,Hi,ht]
 refine⟨?_,rfl⟩
 have hd:cM (jz p)=(dN v p).dg:=rfl
 have hvv:(dN v p).v=(v:Int):=rfl
 simp only[Fa,hd,hvv,ne_eq,ac3,abW]
theorem lay_at0(q0 q1:List (BitVec 8))(h:q0.length<=4096):sub (sF q0 q1) (4096*0) 4096=q0++sv (4096-q0.length):=by
 have:=lay_sub0 q0 q1
 rwa [aaq h]at this
theorem lay_at1(q0 q1:List (BitVec 8))(h:q1.length<=4096):sub (sF q0 q1) (4096*1) 4096=q1++sv (4096-q1.length):=by
 have:=lay_sub1 q0 q1
 rwa [aaq h]at this
end jU
end Go.Am
namespace Go.Am
attribute [local congr] dq bW dt bX bY cB bI bZ b5 cC bu cD b6 dj
namespace jU
open Go.Am.F
def id1:List (BitVec 8):=z16L.set 0 1#8
theorem WI:(bs z16L).set 0 (.raw (u8 1#8))=bs id1:=rfl
def sc:List (BitVec 8):=qg.set 0 1#8
theorem YY:(bs qg).set 0 (.raw (u8 1#8))=bs sc:=rfl
def Kh(aF:List (BitVec 8)):Sg:=wA 3758096385#32 3#32 id1 aF (mI 3#32 id1 aF (hH 3758096385#32))
theorem Hm{s:gu}(hW:Whole s)(ho:s.o=3#32)(ht:s.t=3758096385#32){q:BitVec 32}(hq:q.toNat<hH s.t)(v:Nat)(p c m:List (BitVec 8))(hc:c.length=32):(iP s q c m).length=2220/\(kj (dN v p) (iP s q c m) (jz p)).length<=2400:=by
 have h1:=Dv hW.ok (by rw[hW.lv];exact hq) c m hc
 rw[hW.pn hq,ho,ht]at h1
 have h2:(iP s q c m).length=2220:=h1
 have h3:=jX (dN v p) (cm _)
 have h4:=DP p
 refine⟨h2,?_⟩
 rw[kj,aao,aao,aao,h2,h3,h4]
 show 48+(2+_)<=2400
 omega
theorem Rp{s:gu}(h:Whole s){q:BitVec 32}(hq:q.toNat<hH s.t)(c m:List (BitVec 8))(hc:c.length=32):nU (cy s) m (iP s q c m)=0:=by
 rw[ver_own h h rfl rfl rfl hq c m hc,aaI rfl]
theorem work_cho{S:zq}{bD sig img:List (BitVec 8)}(hx:S.x=sF img [])(hc:S.c=Ke bD 0 1)(hp:bD.length=56)(hs:sig.length<=65535)(himg:kj (dN 1 []) sig (jz [])=img)(hl:img.length<=4096)(Fa:nU bD (bC (dN 1 [])) sig=0):
  uW S=⟨0,fu,false,false,0⟩/\nxB S=false/\(fD S.x 0).1.s=4:=by
 have hf:ey S.c=2:=(abB ey hc).trans (MP bD 0 1 (by decide))
 have hc0:js S.c=0:=(abB js hc).trans (Rj bD 0 1 (by decide))
 have hk:jK S.c=bD:=(abB jK hc).trans (Rk bD 0 1 hp)
 have BW:=Ro (x:=sF img []) (bD:=bD) (sig:=sig) (p:=[]) (least:=((0:Nat):Int)) (j:=0) (v:=1) (n:=4096-img.length) (by decide) hs (by rw[himg];exact lay_at0 img [] hl) Fa
 rw[<-hx]at BW
 have e0:gT S.x bD ((0:Nat):Int) 0=0:=BW.1
 have hr:fU (some (S.x,false))=(fu,-1):=by rw[hx];exact Rn _ _ _
 have UE:uW S=⟨0,fu,false,false,0⟩:=by
  unfold uW
  rw[hf,hc0,hk,hr,e0]
  generalize gT S.x bD ((0:Nat):Int) 1=y
  simp[sE,K7,fu]
 refine⟨UE,by unfold nxB;rw[UE];rfl,?_⟩
 rw[BW.2]
 rfl
structure WkC (C:bf):Prop where
 nw0:C.fn 8=none
 nw1:∃C1,C.fy 8=some (aQ C1 4 um uk)/\LmC C1
 pu:C.fn 10=some uP
 im0:C.fn 11=none
 im1:∃C1,C.fy 11=some (aQ C1 4 jB jA)/\ImC C1
 la0:C.fn 9=none
 la1:∃C1,C.fy 9=some (aQ C1 4 ur uo)/\LayC C1
 bn0:C.fn 14=none
 bn1:∃C1,C.fy 14=some (aQ C1 0 oK oJ)
 rn0:C.fn 15=none
 rn1:∃C1 C2,C.fy 15=some (aQ C1 3 ie cn)/\RnC C1 C2
theorem YZ(C:bf)(H:WkC C){rows:Rows}{K:D->Rows->Prop}(hk:∀aa,bG rows aa->K (.raw (.bool true)) aa):aQ C 0 mY mX [] rows K:=by
 refine ag rfl ?_
 unfold mX mY
 obtain⟨C1,n1,hL⟩:=H.nw1
 obtain⟨C2,i1,hI⟩:=H.im1
 obtain⟨C3,l1,hY⟩:=H.la1
 obtain⟨C4,b1⟩:=H.bn1
 obtain⟨C5,C6,r1,hR⟩:=H.rn1
 simp only[-List.reduceReplicate,UD,dw]
 simp only[-List.reduceReplicate,↓ah,aj,simprocAttr,aM,WI,YY,H.nw0,n1]
 refine Re C1 hL (t:=3758096385#32) (o:=3#32) (id:=id1) (aF:=sc) (by decide) (by decide) (by decide) (by decide) (by decide) λR1 A hS Ue e1 e2 e3 e4 e5=>?_
 have hW:=E6 hS (by decide) (by decide) (by decide) (by decide) (by decide)
 change ob R1 A (Kh sc)at hS
 change Whole ((Kh sc).v A)at hW
 have kP:=λk=>JB R1 k _ _ hS.rd hW.ok
 simp only[-List.reduceReplicate,↓ah,aj,simprocAttr,aM,H.pu,kP,H.im0,i1]
 have hS2:=hS.push [some ⟨L8,bs (cy ((Kh sc).v A))⟩]
 refine E7 C2 hI (d:= .raw (.slice none 0 0)) (p:=[]) 1 (by decide) hS2 hW (by decide) (by decide) (λmore=>ez.to (.inl ⟨rfl,rfl⟩)) rfl (by decide) λR2 dl r n WD hn hr DZ hel pU=>?_
 simp only[-List.reduceReplicate,↓ah,aj,simprocAttr,aM,H.la0,l1]
 have tV:(cy ((Kh sc).v A)).length=56:=jn hW.ok
 have hpu:=hel _ _ (bw R1 [some ⟨L8,bs (cy ((Kh sc).v A))⟩]) (OG hS (aaz _))
 have hq0:(Kh sc).nx.toNat<hH ((Kh sc).v A).t:=(by decide:(0#32).toNat<hH 3758096385#32)
 have hlen:=Hm hW rfl rfl hq0 1 [] (yZ 1) (bC (dN 1 [])) (by decide)
 have Fa:=Rp hW hq0 (yZ 1) (bC (dN 1 [])) (by decide)
 change nU (cy ((Kh sc).v A)) (bC (dN 1 [])) (iP ((Kh sc).v A) (Kh sc).nx (yZ 1) (bC (dN 1 [])))=0 at Fa
 generalize hsig:iP ((Kh sc).v A) (Kh sc).nx (yZ 1) (bC (dN 1 []))=sig at*
 generalize hpub:cy ((Kh sc).v A)=bD at*
 generalize himg:kj (dN 1 []) sig (jz [])=img at*
 refine Rl C3 hY (bD:=bD) (p0:=img) (p1:=[]) 0 1 (by decide) (by decide) (λR hK=>aU.own (hK _ _ hpu) _ tV.symm) tV (λR hK=>aU.own (hK _ _ hr) _ hn) (λR hK=>ez.to (.inl ⟨rfl,rfl⟩)) (by omega) (by decide) rfl rfl λR3 L hK3 hMx hM hE=>?_
 simp only[↓ah,aj,simprocAttr,aM,H.bn0,b1]
 refine Rh C4 ?_
 simp only[↓ah,aj,simprocAttr,aM,H.rn0,r1]
 generalize hx:sF img []=X at hM
 generalize hc:Ke bD 0 1=ch at hM
 generalize zt=rm at hM
 obtain⟨UE,Kt,hs4⟩:=work_cho (S:=⟨0,rm,X,ch⟩) hx.symm hc.symm tV (by omega) himg (by omega) Fa
 have hRd:Ka (R3++[some ⟨l7,[mc WB]⟩]) L ⟨0,rm,X,ch⟩ R3.length WB zR sl8:=⟨hM.keep λq row hq _=>ae hq _,hE.keep λq row hq _=>ae hq _,bw R3 [some ⟨l7,[mc WB]⟩]⟩
 refine Rd hR (most:=100) (by decide) (by decide) hRd rfl rfl rfl (λh=>by rw[UE]at h;exact absurd h (by decide)) λj z hj hi he hz R4 c' B' hw hF hM4 hB4 p1 p2 p3=>?_
 rw[UE]at hi
 have hj0:j=0:=by have:(0:Int)=(j:Int):=hi;omega
 subst hj0
 have hz4:z=4:=by rw[hs4]at hz;omega
 subst hz4
 rw[Kt]
 simp only[cP,mc,p1]at hB4
 simp only[↓ah,aj,simprocAttr,aM,hB4]
 refine hk _ λq row hq=>?_
 have hl:=bb hq
 have sO:=bb (Ue _ _ hq)
 have g1:=hel _ _ (ae (Ue _ _ hq) [some ⟨L8,bs bD⟩]) ⟨by omega,by omega,by omega,by omega,λex n e=>by rw[e5]at e;cases e⟩
 have g2:=hK3 _ _ g1
 simp only[aaW,acm,adU,ad2,forall_eq]at hMx
 have hg:=bb g2
 have xf:=bb hpu
 refine hF _ _ (ae g2 _) ?_
 simp only[Ly.all,aaW,acm,adU,not_or]
 omega
theorem Bv(s:Sg)(L L':vI)(c m:List (BitVec 8)):cy ((s.next c m).v L')=cy (s.v L):=rfl
structure RlC (C:bf):Prop where
 k:WkC C
 wk0:C.fn 7=none
 wk1:∃C1,C.fy 7=some (aQ C1 0 mY mX)/\WkC C1
 nx0:C.fn 13=none
 nx1:C.fy 13=none
 nx2:C.UQ 13=some Gd
 j0:C.fn 12=none
 j1:∃C1,C.fy 12=some (aQ C1 3 lN lM)/\DoC C1
 ri:C.fn 16=some qv
def choK(x:List (BitVec 8))(c:rU):Cho:=sE (ey c) (fU (some (x,false))).1 (gT x (jK c) (js c) 0) (gT x (jK c) (js c) 1)
noncomputable def fAllS:Fn:=tW (bx AA) (bx tN) (λK c=>decide (nf K=10240)&&decide (c.ws.length=64)) λK c=>(Ow (choK (oB K) c),[])
structure AlC (C:bf):Prop where
 rd:C.fn 58=some yj
 ke:C.fn 69=some Qu
 ct:C.fn 26=some TS
 li:C.fn 71=some Jp
 lo:C.fn 68=some MD
 se:C.fn 70=some Ug
noncomputable def fBound:Fn
 |[],[]=>some (.raw (it 72),[])
 | _,_=>none
structure BoC (C:bf):Prop where
 al:C.fn 21=some fAllS
 bo:C.fn 22=some fBound
 rd:C.fn 23=some tx
 sa:C.fn 25=some fSame
 ct:C.fn 26=some TS
 r0:C.fn 24=none
 r1:∃C1,C.fy 24=some (aQ C1 1 lP lO)/\C1.fn 74=some rY/\C1.fn 75=some vB/\C1.fn 17=some GJ
 bn0:C.fn 14=none
 bn1:∃C1,C.fy 14=some (aQ C1 0 oK oJ)
 rn0:C.fn 15=none
 rn1:∃C1 C2,C.fy 15=some (aQ C1 3 ie cn)/\RnC C1 C2
end jU
end Go.Am
namespace Go.Am
namespace jU
open Go.Am.F
def oc(id:List (BitVec 8))(r:BitVec 32)(kind:List (BitVec 8))(l:List (List (BitVec 8))):List (BitVec 8):=id++bi r++kind++l.flatten
theorem OK{id kind:List (BitVec 8)}{r:BitVec 32}{l l':List (List (BitVec 8))}(h:oc id r kind l=oc id r kind l'):l.flatten=l'.flatten:=aes h
theorem tx_one{id kind:List (BitVec 8)}{r:BitVec 32}{a a':List (BitVec 8)}(h:oc id r kind [a]=oc id r kind [a']):a=a':=by
 have:=OK h
 simpa using this
theorem tx_two{id kind:List (BitVec 8)}{r:BitVec 32}{a b a' b':List (BitVec 8)}(h:oc id r kind [a,b]=oc id r kind [a',b'])(hl:a.length=a'.length):a=a'/\b=b':=by
 have:=OK h
 simp only[abl,abn,aaL]at this
 exact ad5 this hl
def lvP(r:BitVec 32)(x d:List (BitVec 8)):List (List (BitVec 8)):=if r&&&1#32=1#32 then[x,d]else[d,x]
def Gf(id:List (BitVec 8))(r:BitVec 32)(k:List (BitVec 8))(path:List (List (BitVec 8))):Nat->List (BitVec 8)
 |0=>oc id r (eN 33410) [k]
 |i+1=>oc id (r>>>(i+1)) (eN 33667) (lvP (r>>>i) (path.getD i []) (dI id r (dZ id r k) path i))
theorem lv_sum(id:List (BitVec 8))(r:BitVec 32)(k:List (BitVec 8))(path:List (List (BitVec 8))):∀i,cM (Gf id r k path i)=dI id r (dZ id r k) path i
 |0=>rfl
 |i+1=>by
  rw[Gf,dI,Ds,lvP,VS]
  split<;>rfl
theorem lv_down{id:List (BitVec 8)}{r:BitVec 32}{k k':List (BitVec 8)}{p p':List (List (BitVec 8))}{i:Nat}(hp:(p.getD i []).length=32)(hp':(p'.getD i []).length=32)
  (h:Gf id r k p (i+1)=Gf id r k' p' (i+1)):dI id r (dZ id r k) p i=dI id r (dZ id r k') p' i:=by
 have l1:=Ob id r (dZ id r k) p (oR _ _ _) i
 have l2:=Ob id r (dZ id r k') p' (oR _ _ _) i
 rw[Gf,Gf,lvP,lvP]at h
 by_cases c:r>>>i&&&1#32=1#32
 ·rw[aaI c,aaI c]at h
  exact(tx_two h (by omega)).2
 ·rw[aaA c,aaA c]at h
  exact(tx_two h (by omega)).1
theorem lv_find{id:List (BitVec 8)}{r:BitVec 32}{k k':List (BitVec 8)}{p p':List (List (BitVec 8))}{n j:Nat}(hp:∀i,i<n->(p.getD i []).length=32)(hp':∀i,i<n->(p'.getD i []).length=32)
  (hr:dI id r (dZ id r k) p n=dI id r (dZ id r k') p' n)(hj:j<=n)(ha:∀i,j<i->i<=n->Gf id r k p i=Gf id r k' p' i):cM (Gf id r k p j)=cM (Gf id r k' p' j):=by
 rw[lv_sum,lv_sum]
 by_cases c:j=n
 ·rw[c];exact hr
 ·exact lv_down (hp j (by omega)) (hp' j (by omega)) (ha (j+1) (by omega) (by omega))
theorem WJ(id:List (BitVec 8))(q:BitVec 32)(i j:Nat)(x:List (BitVec 8)):lz id q i j x=cM (oc id q (eN i++[BitVec.ofNat 8 j]) [x]):=by
 unfold lz oc
 simp
theorem WK(id:List (BitVec 8))(q:BitVec 32)(l:List (List (BitVec 8))):Dl id q l=cM (oc id q (eN 32896) l):=rfl
theorem WL(id:List (BitVec 8))(q:BitVec 32)(c m:List (BitVec 8)):dY id q c m=cM (oc id q (eN 33153) [c]++m):=by
 unfold dY oc
 simp
theorem Rq:∀{a b:List (List (BitVec 8))},a.length=b.length->(∀x∈a,x.length=32)->(∀x∈b,x.length=32)->a.flatten=b.flatten->a=b
 |[],[],_,_,_,_=>rfl
 |[],_::_,h,_,_,_=>by cases h
 | _::_,[],h,_,_,_=>by cases h
 |x::a,y::b,h,ha,hb,e=>by
  simp only[abl]at e
  obtain⟨e1,e2⟩:=ad5 e (by rw[ha x (.head _),hb y (.head _)])
  rw[e1,Rq (by simpa using h) (λz hz=>ha z (.tail _ hz)) (λz hz=>hb z (.tail _ hz)) e2]
theorem gV(p:List (BitVec 8))(i w:Nat)(hw:w4 w=true):dL p i w=(p.getD (i/(8/w)) 0#8).toNat/2^(8-w*(i %(8/w))-w) %2^w:=by
 unfold dL
 generalize p.getD (i/(8/w)) 0#8=x
 generalize 8-w*(i %(8/w))-w=s
 rw[ad1,abH,abb]
 have h:(BitVec.ofNat 8 (2^w-1)).toNat=2^w-1:=by rcases Ax.1 hw with rfl|rfl|rfl|rfl<;>rfl
 rw[h,ade]
theorem tB(a:List (BitVec 8))(c j w e:Nat)(ha:a.length=32)(he:8/w=e)(hw:w4 w=true):dL (a++eN c) (32*e+j) w=((eN c).getD (j/e) 0#8).toNat/2^(8-w*(j %e)-w) %2^w:=by
 have he0:0<e:=by rw[<-he];rcases Ax.1 hw with rfl|rfl|rfl|rfl<;>decide
 rw[gV _ _ _ hw,he]
 have h1:(32*e+j)/e=32+j/e:=by rw[ads,Nat.add_mul_div_right _ _ he0,ads]
 have h2:(32*e+j) %e=j %e:=by rw[ads,Nat.add_mul_mod_self_right]
 rw[h1,h2]
 congr 3
 rw[List.getD,aaO (by rw[ha];exact Nat.le_add_right _ _),ha,adL]
 rfl
theorem Hn(x:Par)(a:List (BitVec 8))(ha:a.length=32)(i w:Nat)(hw:w4 w=true)(hi:i/(8/w)<32):dL (oz x a) i w=dL a i w:=by
 rw[gV _ _ _ hw,gV _ _ _ hw]
 congr 3
 rw[oz,List.getD,aaN (by omega)]
 rfl
set_option maxHeartbeats 1000000
theorem csum2(s:Nat)(a:List (BitVec 8))(ha:a.length=32)(hs:s*2^6<65536):
  dL (a++eN (s*2^6)) (128+0) 2*256+dL (a++eN (s*2^6)) (128+1) 2*64+dL (a++eN (s*2^6)) (128+2) 2*16+dL (a++eN (s*2^6)) (128+3) 2*4+dL (a++eN (s*2^6)) (128+4) 2*1=s:=by
 have g0:=tB a (s*2^6) 0 2 4 ha rfl (by decide)
 have g1:=tB a (s*2^6) 1 2 4 ha rfl (by decide)
 have g2:=tB a (s*2^6) 2 2 4 ha rfl (by decide)
 have g3:=tB a (s*2^6) 3 2 4 ha rfl (by decide)
 have g4:=tB a (s*2^6) 4 2 4 ha rfl (by decide)
 simp only[Nat.reduceMul,Nat.reduceDiv,Nat.reduceMod,Nat.reduceAdd,Nat.reduceSub,Nat.reducePow]at g0 g1 g2 g3 g4
 have hb0:((eN (s*64)).getD 0 0#8).toNat=s*64/256:=by
  show(BitVec.ofNat 8 (s*64/256)).toNat=_
  rw[aaK];omega
 have pS:((eN (s*64)).getD 1 0#8).toNat=s*64 %256:=by
  show(BitVec.ofNat 8 (s*64)).toNat=_
  rw[aaK]
 simp only[hb0,pS]at g0 g1 g2 g3 g4
 simp only[Nat.reducePow,Nat.reduceAdd]at hs⊢
 rw[g0,g1,g2,g3,g4]
 omega
theorem csum3(s:Nat)(a:List (BitVec 8))(ha:a.length=32)(hs:s*2^4<65536):
  dL (a++eN (s*2^4)) (64+0) 4*256+dL (a++eN (s*2^4)) (64+1) 4*16+dL (a++eN (s*2^4)) (64+2) 4*1=s:=by
 have g0:=tB a (s*2^4) 0 4 2 ha rfl (by decide)
 have g1:=tB a (s*2^4) 1 4 2 ha rfl (by decide)
 have g2:=tB a (s*2^4) 2 4 2 ha rfl (by decide)
 simp only[Nat.reduceMul,Nat.reduceDiv,Nat.reduceMod,Nat.reduceAdd,Nat.reduceSub,Nat.reducePow]at g0 g1 g2
 have hb0:((eN (s*16)).getD 0 0#8).toNat=s*16/256:=by
  show(BitVec.ofNat 8 (s*16/256)).toNat=_
  rw[aaK];omega
 have pS:((eN (s*16)).getD 1 0#8).toNat=s*16 %256:=by
  show(BitVec.ofNat 8 (s*16)).toNat=_
  rw[aaK]
 simp only[hb0,pS]at g0 g1 g2
 simp only[Nat.reducePow,Nat.reduceAdd]at hs⊢
 rw[g0,g1,g2]
 omega
theorem UF(a b:List (BitVec 8))(w:Nat)(hw:w4 w=true):∀n,(∀i,i<n->dL b i w<=dL a i w)->ni a w n<=ni b w n/\(ni b w n<=ni a w n->∀i,i<n->dL b i w=dL a i w)
 |0,_=>⟨aaz _,λ_ i hi=>by omega⟩
 |n+1,h=>by
  obtain⟨h1,h2⟩:=UF a b w hw n (λi hi=>h i (by omega))
  have ha:=Dn a n w hw
  have hb:=Dn b n w hw
  have hn:=h n (by omega)
  rw[ni,ni]
  refine⟨by omega,λh3 i hi=>?_⟩
  by_cases c:i=n
  ·subst c;omega
  ·exact h2 (by omega) i (by omega)
theorem Rr(a b:List (BitVec 8))(w:Nat)(ha:a.length=32)(hb:b.length=32)(hw:w=2\/w=4)(h0:∀i,i<256/w->dL b i w=dL a i w):b=a:=by
 have h:∀i,i<256/w->dL a i w=dL b i w:=λi hi=>(h0 i hi).symm
 have key:∀q,q<32->(a.getD q 0#8).toNat=(b.getD q 0#8).toNat:=by
  intro q hq
  have xa:=(a.getD q 0#8).isLt
  have xb:=(b.getD q 0#8).isLt
  rcases hw with rfl|rfl
  ·have h:∀r,r<4->dL a (4*q+r) 2=dL b (4*q+r) 2:=λr hr=>h (4*q+r) (by omega)
   have f0:=h 0 (by decide)
   rw[gV a _ 2 (by decide),gV b _ 2 (by decide),show(4*q+0)/(8/2)=q by omega,show(4*q+0) %(8/2)=0 by omega]at f0
   have f1:=h 1 (by decide)
   rw[gV a _ 2 (by decide),gV b _ 2 (by decide),show(4*q+1)/(8/2)=q by omega,show(4*q+1) %(8/2)=1 by omega]at f1
   have f2:=h 2 (by decide)
   rw[gV a _ 2 (by decide),gV b _ 2 (by decide),show(4*q+2)/(8/2)=q by omega,show(4*q+2) %(8/2)=2 by omega]at f2
   have f3:=h 3 (by decide)
   rw[gV a _ 2 (by decide),gV b _ 2 (by decide),show(4*q+3)/(8/2)=q by omega,show(4*q+3) %(8/2)=3 by omega]at f3
   simp only[Nat.reduceMul,Nat.reduceDiv,Nat.reduceMod,Nat.reduceAdd,Nat.reduceSub,Nat.reducePow]at f0 f1 f2 f3
   omega
  ·have h:∀r,r<2->dL a (2*q+r) 4=dL b (2*q+r) 4:=λr hr=>h (2*q+r) (by omega)
   have f0:=h 0 (by decide)
   rw[gV a _ 4 (by decide),gV b _ 4 (by decide),show(2*q+0)/(8/4)=q by omega,show(2*q+0) %(8/4)=0 by omega]at f0
   have f1:=h 1 (by decide)
   rw[gV a _ 4 (by decide),gV b _ 4 (by decide),show(2*q+1)/(8/4)=q by omega,show(2*q+1) %(8/4)=1 by omega]at f1
   simp only[Nat.reduceMul,Nat.reduceDiv,Nat.reduceMod,Nat.reduceAdd,Nat.reduceSub,Nat.reducePow]at f0 f1
   omega
 apply acH (by omega)
 intro i h1 h2
 have:=aaG (key i (by omega))
 simpa[List.getD,h1,h2]using this.symm
theorem Rs(t:Nat)(a:List (BitVec 8))(i:Nat)(hi:i<pT t):(bV t a).getD i 0=dL (oz (lC t) a) i (wT t):=by
 simp[bV,uL,List.getD,hi];rfl
theorem dom_eq(t:Nat)(ht:t=2\/t=3)(a b:List (BitVec 8))(ha:a.length=32)(hb:b.length=32)(h:∀i,i<pT t->(bV t b).getD i 0<=(bV t a).getD i 0):a=b:=by
 have hle:∀i,i<pT t->dL (oz (lC t) b) i (wT t)<=dL (oz (lC t) a) i (wT t):=λi hi=>by
  rw[<-Rs t b i hi,<-Rs t a i hi];exact h i hi
 clear h
 rcases ht with rfl|rfl
 ·have hsa:=csum2 (ni a 2 128) a ha (by have:=yR a 2 128;simp only[Nat.reducePow]at this⊢;omega)
  have Yr:=csum2 (ni b 2 128) b hb (by have:=yR b 2 128;simp only[Nat.reducePow]at this⊢;omega)
  have hF:∀y,oz (lC 2) y=y++eN (ni y 2 128*2^6):=λy=>rfl
  have hle:∀i,i<133->dL (oz (lC 2) b) i 2<=dL (oz (lC 2) a) i 2:=hle
  have hm:∀i,i<128->dL b i 2<=dL a i 2:=λi hi=>by
   have:=hle i (by omega)
   rwa [Hn (lC 2) b hb i 2 (by decide) (by omega),Hn (lC 2) a ha i 2 (by decide) (by omega)]at this
  have c0:=hle (128+0) (by decide)
  have c1:=hle (128+1) (by decide)
  have c2:=hle (128+2) (by decide)
  have c3:=hle (128+3) (by decide)
  have c4:=hle (128+4) (by decide)
  rw[hF,hF]at c0 c1 c2 c3 c4
  have Kx:ni b 2 128<=ni a 2 128:=by
   rw[<-hsa,<-Yr]
   omega
  exact(Rr a b 2 ha hb (.inl rfl) ((UF a b 2 (by decide) 128 hm).2 Kx)).symm
 ·have hsa:=csum3 (ni a 4 64) a ha (by have:=yR a 4 64;simp only[Nat.reducePow]at this⊢;omega)
  have Yr:=csum3 (ni b 4 64) b hb (by have:=yR b 4 64;simp only[Nat.reducePow]at this⊢;omega)
  have hF:∀y,oz (lC 3) y=y++eN (ni y 4 64*2^4):=λy=>rfl
  have hle:∀i,i<67->dL (oz (lC 3) b) i 4<=dL (oz (lC 3) a) i 4:=hle
  have hm:∀i,i<64->dL b i 4<=dL a i 4:=λi hi=>by
   have:=hle i (by omega)
   rwa [Hn (lC 3) b hb i 4 (by decide) (by omega),Hn (lC 3) a ha i 4 (by decide) (by omega)]at this
  have c0:=hle (64+0) (by decide)
  have c1:=hle (64+1) (by decide)
  have c2:=hle (64+2) (by decide)
  rw[hF,hF]at c0 c1 c2
  have Kx:ni b 4 64<=ni a 4 64:=by
   rw[<-hsa,<-Yr]
   omega
  exact(Rr a b 4 ha hb (.inr rfl) ((UF a b 4 (by decide) 64 hm).2 Kx)).symm
theorem eq_spotP(q q':BitVec 32)(i j:Int):y6 (uQ q i) (uQ q' j)=some (decide (q=q'/\i=j)):=by
 simp[uQ,yz,y6,jF,it,u32]
 congr 1
 exact aeu.2 ⟨λh=>aaG (by omega),λh=>by rw[h]⟩
theorem WM(q:BitVec 32)(ds:List Nat)(tm:List D)(q':BitVec 32)(i:Int):∀k,tu (yn q ds tm k) q' i=if q'=q/\0<=i/\i<(k:Int)then some (some ((ds.getD i.toNat 0:Nat):Int))else tu tm q' i
 |0=>by rw[aaA (by omega)];rfl
 | k + 1 => by
  have ih:=WM q ds tm q' i k
  have he:=eq_spotP q' q i (k:Int)
  have hen:∀v,Fj (.agg (qK F9 LI) [uQ q (k:Int),.raw v])=some (uQ q (k:Int),v):=λv=>rfl
  unfold tu at ih⊢
  rw[yn,wX,hen]
  simp only[he]
  by_cases c:q'=q/\i=(k:Int)
  ·rw[aaY c,aaI ⟨c.1,by omega,by omega⟩,c.2]
   rfl
  ·rw[aaJ c]
   simp only
   rw[ih]
   by_cases c2:q'=q/\0<=i/\i<(k:Int)
   ·rw[aaI c2,aaI ⟨c2.1,c2.2.1,by omega⟩]
   ·rw[aaA c2,aaA]
    rintro⟨d1,d2,d3⟩
    by_cases c3:i=(k:Int)
    ·exact c ⟨d1,c3⟩
    ·exact c2 ⟨d1,d2,by omega⟩
theorem sgnO_c(m m':List (BitVec 8))(sm:List D):EX (sgnE m::sm) m'=if m'=m then some true else EX sm m':=by
 have hen:Fj (sgnE m)=some (.raw (.string (jx m)),.bool true):=rfl
 have he:y6 (.raw (.string (jx m'))) (.raw (.string (jx m)))=some (decide (m'=m)):=by
  simp only[y6,jF,jx,ByteArray.toList_eq,aec,TA]
 unfold EX
 rw[wX,hen]
 simp only[he]
 by_cases c:m'=m
 ·rw[aaY c,aaI c]
 ·rw[aaJ c,aaA c]
abbrev mK:=List (List (BitVec 8)×List (BitVec 8))
structure PS (s:gu) (ml:mK):Prop where
 w:Whole s
 h1:hT s.t.toNat=1
 o:s.o.toNat=2\/s.o.toNat=3
 nx:s.nx=BitVec.ofNat 32 ml.length
 len:ml.length<=2
 cl:∀x∈ml,x.2.length=32/\x.1.length<=60
 ld:(s.ld= .raw (.slice none 0 0)/\ml=[])\/∃ex,s.ld= .cI kg (ml.map wM) ex
 sm:∀m,EX s.sm m=some (decide (m∈ml.map (·.1)))
 tm:∀(q:BitVec 32) (i:Int),tu s.tm q i=some (if q.toNat<ml.length/\0<=i/\i<(pT s.o.toNat:Int)then some (((zp s.o.toNat ⟨s.id,q⟩ (ml.getD q.toNat ([],[])).2 (ml.getD q.toNat ([],[])).1).getD i.toNat 0:Nat):Int)else none)
theorem PS.two{s:gu}{ml:mK}(h:PS s ml):hH s.t=2:=by rw[hH,h.h1]
theorem PS.lv{s:gu}{ml:mK}(h:PS s ml):iO s=2:=h.w.lv.trans h.two
def Ki(s:gu)(ml:mK)(p:Bp):Bool:=decide (p.q.toNat<ml.length/\0<=p.i/\p.i<(pT s.o.toNat:Int))&&(decide ((((zp s.o.toNat ⟨s.id,p.q⟩ (ml.getD p.q.toNat ([],[])).2 (ml.getD p.q.toNat ([],[])).1).getD p.i.toNat 0:Nat):Int)<=p.j)&&decide (p.j<(2^wT s.o.toNat:Nat)))
theorem PS.kn{s:gu}{ml:mK}(h:PS s ml)(p:Bp):knB s p=Ki s ml p:=by
 unfold knB Ki
 rw[h.tm]
 by_cases c:p.q.toNat<ml.length/\0<=p.i/\p.i<(pT s.o.toNat:Int)
 ·rw[aaI c,aaY c];rfl
 ·rw[aaA c,aaJ c];rfl
theorem PS.tmS{s:gu}{ml:mK}(h:PS s ml)(p:Bp):(tu s.tm p.q p.i).isSome=true:=by rw[h.tm];rfl
theorem PS.smS{s:gu}{ml:mK}(h:PS s ml)(m:List (BitVec 8)):(EX s.sm m).isSome=true/\(EX s.sm m).getD false=decide (m∈ml.map (·.1)):=by rw[h.sm];exact⟨rfl,rfl⟩
theorem getD_app{α:Type}(l:List α)(x d:α)(k:Nat):(l++[x]).getD k d=if k=l.length then x else l.getD k d:=by
 simp only[List.getD]
 by_cases c:k<l.length
 ·rw[aaN c,aaA (by omega)]
 ·by_cases e:k=l.length
  ·rw[aaI e,e];simp
  ·rw[aaA e,abh (by simp;omega),abh (by omega)]
theorem PS.next{S:Sg}{L:vI}{d:D}{R R':Rows}{ml:mK}{c m:List (BitVec 8)}(h:PS (S.v L) ml)(hl:S.last=ml)(hlen:ml.length<2)(hc:c.length=32)(hm:m.length<=60)(h':ob R' (L.next d) (S.next c m)):
  PS ((S.next c m).v (L.next d)) (ml++[(m,c)]):=by
 have hx:S.nx=BitVec.ofNat 32 ml.length:=h.nx
 have hxn:S.nx.toNat=ml.length:=by rw[hx,aaK];omega
 refine⟨Kc h.w h',h.h1,h.o,?_,by simp;omega,?_,?_,?_,?_⟩
 ·show S.nx+1#32=_
  rw[hx,aao]
  apply aaG
  simp
 ·intro x hx
  rcases aaQ.1 hx with hx|hx
  ·exact h.cl x hx
  ·rw[abf.1 hx];exact⟨hc,hm⟩
 ·right
  have hd:=h'.l
  have hln:(S.next c m).last=ml++[(m,c)]:=by show S.last++[(m,c)]=_;rw[hl]
  rw[hln]at hd
  rcases hd with⟨e,-⟩|⟨r,ex,e,-⟩
  ·simp at e
  ·refine⟨ex,?_⟩
   show TX (L.next d) (S.next c m)=_
   rw[TX,e,hln]
 ·intro m'
  show EX (sgnE m::S.sm) m'=_
  rw[sgnO_c]
  have:=h.sm m'
  by_cases e:m'=m
  ·rw[aaI e,e];simp
  ·rw[aaA e]
   show EX (S.v L).sm m'=_
   rw[this];simp[e]
 ·intro q i
  show tu (yn S.nx (zp S.o.toNat ⟨S.id,S.nx⟩ c m) S.tm (pT S.o.toNat)) q i=some (if q.toNat<(ml++[(m,c)]).length/\0<=i/\i<(pT S.o.toNat:Int)then some (((zp S.o.toNat ⟨S.id,q⟩ ((ml++[(m,c)]).getD q.toNat ([],[])).2 ((ml++[(m,c)]).getD q.toNat ([],[])).1).getD i.toNat 0:Nat):Int)else none)
  rw[WM,getD_app,aao,List.length_singleton]
  have ht:=h.tm q i
  change tu S.tm q i=some (if q.toNat<ml.length/\0<=i/\i<(pT S.o.toNat:Int)then some (((zp S.o.toNat ⟨S.id,q⟩ (ml.getD q.toNat ([],[])).2 (ml.getD q.toNat ([],[])).1).getD i.toNat 0:Nat):Int)else none)at ht
  by_cases e:q=S.nx
  ·subst e
   rw[aaI hxn]
   by_cases ci:0<=i/\i<(pT S.o.toNat:Int)
   ·rw[aaI ⟨rfl,ci⟩,aaI ⟨by omega,ci⟩]
   ·rw[aaA (λh=>ci h.2),ht,aaA (λh=>ci h.2),aaA (λh=>ci h.2)]
  ·have ne:q.toNat≠ml.length:=λh=>e (aaG (by rw[h,hxn]))
   rw[aaA (λh=>e h.1),ht,aaA ne]
   by_cases ci:q.toNat<ml.length/\0<=i/\i<(pT S.o.toNat:Int)
   ·rw[aaI ci,aaI ⟨by omega,ci.2⟩]
   ·rw[aaA ci,aaA (λh=>ci ⟨by omega,h.2⟩)]
def vaS(s:gu)(p:Bp):List (BitVec 8):=zn s.id p.q p.i.toNat p.j.toNat 0 (uJ s.id p.q p.i.toNat s.aF)
theorem vaS_len(s:gu)(p:Bp):(vaS s p).length=32:=qu _ _ _ _ _ _ (ij _ _ _ _ _)
def UG(s:gu)(p:Bp):Bool:=decide (p.q.toNat<2)&&Bk p.i (pT s.o.toNat:Int)&&Bk p.j ((2^wT s.o.toNat:Nat):Int)
inductive Good (s:gu) (ml:mK):Int->List (BitVec 8)->List (BitVec 8)->Bp->List (BitVec 8)->Prop
 |col {a b p v}:a≠b->cM a=cM b->Good s ml 1 a b p v
 |unt {a b p v}:UG s p=true->v=vaS s p->Ki s ml p=false->Good s ml 2 a b p v
theorem PS.okO{s:gu}{ml:mK}(h:PS s ml):sr s.o.toNat=true:=h.w.o
theorem pT_pos{t:Nat}(h:sr t=true):1<=pT t:=by
 simp only[sr,aan,aat]at h
 have:t=1\/t=2\/t=3\/t=4:=by omega
 rcases this with rfl|rfl|rfl|rfl<;>decide
theorem Y0{s:gu}{ml:mK}(h:PS s ml){q:BitVec 32}{c msg:List (BitVec 8)}(hc:c.length=32)(hn:msg∉ml.map (·.1))(hk:∀i:Nat,i<pT s.o.toNat->Ki s ml ⟨q,(i:Int),(((zp s.o.toNat ⟨s.id,q⟩ c msg).getD i 0:Nat):Int)⟩=true):
  q.toNat<ml.length/\oc s.id q (eN 33153) [(ml.getD q.toNat ([],[])).2]++(ml.getD q.toNat ([],[])).1≠oc s.id q (eN 33153) [c]++msg/\cM (oc s.id q (eN 33153) [(ml.getD q.toNat ([],[])).2]++(ml.getD q.toNat ([],[])).1)=cM (oc s.id q (eN 33153) [c]++msg):=by
 have hq:q.toNat<ml.length:=by
  have:=hk 0 (pT_pos h.okO)
  simp only[Ki,aan,aat]at this
  exact this.1.1
 have hd:dY s.id q c msg=dY s.id q (ml.getD q.toNat ([],[])).2 (ml.getD q.toNat ([],[])).1:=by
  refine dom_eq s.o.toNat h.o _ _ (cm _) (cm _) λi hi=>?_
  have:=hk i hi
  simp only[Ki,aan,aat,aaB]at this
  exact Int.ofNat_le.1 this.2.1
 refine⟨hq,λe=>hn ?_,?_⟩
 ·have hm:ml.getD q.toNat ([],[])∈ml:=by
   simp only[List.getD,aap hq,acI]
   exact abz hq
  have hl:=(h.cl _ hm).1
  have e2:=(ad5 e (by simp only[oc,aao,abl,abn,aaL,hl,hc])).2
  rw[<-e2]
  exact List.mem_map_of_mem hm
 ·rw[<-WL,<-WL,hd]
theorem step_col{id:List (BitVec 8)}{q:BitVec 32}{i j:Nat}{x y:List (BitVec 8)}(h:x≠y)(he:lz id q i j x=lz id q i j y):oc id q (eN i++[BitVec.ofNat 8 j]) [x]≠oc id q (eN i++[BitVec.ofNat 8 j]) [y]/\cM (oc id q (eN i++[BitVec.ofNat 8 j]) [x])=cM (oc id q (eN i++[BitVec.ofNat 8 j]) [y]):=
 ⟨λe=>h (tx_one e),by rw[<-WJ,<-WJ,he]⟩
end jU
end Go.Am
namespace Go.Am
attribute [local congr] dq bW dt bX bY cB bI bZ b5 cC bu cD b6 dj
namespace jU
open Go.Am.F
abbrev SPs:Sh:=S21
abbrev OZ:Sh:=S14
structure PsV where
 s:D
 bD:D
 id:List (BitVec 8)
 o:BitVec 32
 aF:List (BitVec 8)
def Kj(x:PsV):D:= .agg SPs [x.s,x.bD,.agg (.ar 16 L8) (bs x.id),.raw (u32 x.o),.agg (.ar 32 L8) (bs x.aF)]
theorem OL(x y:PsV)(h:Kj x=Kj y):x=y:=by
 obtain⟨a,b,c,d,e⟩:=x
 obtain⟨a',b',c',d',e'⟩:=y
 simp only[Kj,D.agg.injEq,abC,acg,aa2,D.raw.injEq]at h
 obtain⟨rfl,rfl,h3,h4,h5⟩:=h
 rw[rO h3,qD h4,rO h5]
def Fb(x:PsV):Bool:=decide (x.id.length=16)&&decide (x.aF.length=32)&&(Kj x).fits SPs&&!aR x.s&&!aR x.bD
def Rt(r rp:Nat)(e:Bool)(V:gu):D:= .agg SPs [.ptr eW r [0],.sl L8 rp [] 0 56 e,.agg (.ar 16 L8) (bs V.id),.raw (u32 V.o),.agg (.ar 32 L8) (bs V.aF)]
structure vO (rows:Rows) (r rp:Nat) (V:gu) (ml:mK):Prop where
 g:∃L S,ob rows L S/\L.r=r/\S.v L=V
 p:live rows rp=some ⟨L8,bs (cy V)⟩
 s:PS V ml
theorem vO.keep{rows aa:Rows}{r rp:Nat}{V:gu}{ml:mK}(h:vO rows r rp V ml)(hk:bG rows aa):vO aa r rp V ml:=by
 obtain⟨L,S,h1,h2,h3⟩:=h.g
 exact⟨⟨L,S,h1.keep hk,h2,h3⟩,hk _ _ h.p,h.s⟩
theorem vO.push{rows:Rows}{r rp:Nat}{V:gu}{ml:mK}(h:vO rows r rp V ml)(more:Rows):vO (rows++more) r rp V ml:=h.keep (bG.app _ _)
theorem vO.rd{rows:Rows}{r rp:Nat}{V:gu}{ml:mK}(h:vO rows r rp V ml):bk rows (bx jM) (.ptr eW r [0]) V:=by
 obtain⟨L,S,h1,rfl,rfl⟩:=h.g
 exact h1.rd
theorem vO.ps{rows:Rows}{r rp:Nat}{V:gu}{ml:mK}(h:vO rows r rp V ml)(e:Bool):bk rows (bx Kj) (Rt r rp e V) ⟨jM V,.cI L8 (bs (cy V)) e,V.id,V.o,V.aF⟩:=by
 obtain⟨L,S,h1,rfl,rfl⟩:=h.g
 have hl:=jn h.s.w.ok
 have el:elems rows (.sl L8 rp [] 0 56 e)=some (bs (cy (S.v L))):=by
  simp only[elems,h.p]
  rw[abi,aaq (by rw[aB,hl];exact aaz _)]
 have hb:(bs (cy (S.v L))).length=56:=by rw[aB,hl]
 have hv:view rows 9 (Rt L.r rp e (S.v L))=some (Kj ⟨jM (S.v L),.cI L8 (bs (cy (S.v L))) e,(S.v L).id,(S.v L).o,(S.v L).aF⟩):=by
  unfold Rt Kj
  rw[qU]
  have e1:view rows 8 (.ptr eW L.r [0])=some (jM (S.v L)):=h1.vw 4
  have e2:view rows 8 (.sl L8 rp [] 0 56 e)=some (.cI L8 (bs (cy (S.v L))) e):=by
   rw[Vl,el]
   simp[hb,Sh.pure]
  have e3:view rows 8 (.agg (.ar 16 L8) (bs (S.v L).id))=some (.agg (.ar 16 L8) (bs (S.v L).id)):=by rw[qU];rfl
  have e4:view rows 8 (.raw (u32 (S.v L).o))=some (.raw (u32 (S.v L).o)):=rfl
  have e5:view rows 8 (.agg (.ar 32 L8) (bs (S.v L).aF))=some (.agg (.ar 32 L8) (bs (S.v L).aF)):=by rw[qU];rfl
  simp only[dU,e1,e2,e3,e4,e5]
  rfl
 exact⟨⟨_,hv,br OL _⟩,λh=>Bool.noConfusion ((rfl:aR (Rt L.r rp e (S.v L))=true).symm.trans h)⟩
theorem vO.ok{rows:Rows}{r rp:Nat}{V:gu}{ml:mK}(h:vO rows r rp V ml)(e:Bool):Fb ⟨jM V,.cI L8 (bs (cy V)) e,V.id,V.o,V.aF⟩=true:=by
 have h1:=h.s.w.id
 have h2:=h.s.w.sd
 have h3:aR (jM V)=false:=lR h.s.w.ld
 simp only[Fb,h1,h2,h3,aav,abA]
 rfl
theorem DT{x:PsV}(h:Fb x=true):x.id.length=16/\x.aF.length=32/\(Kj x).fits SPs=true/\aR (Kj x)=false:=by
 simp only[Fb,aan,aat,acL]at h
 refine⟨h.1.1.1.1,h.1.1.1.2,h.1.1.2,?_⟩
 simp[Kj,aR,aW,h.1.2,h.2,Sh.pure]
theorem pnum_ok(C:bf)(hC:aJ C P):aN C.aX P 141 (Fn.run Az):=by
 refine aG (P3 C hC) λds rows r h=>?_
 obtain⟨d,a,rfl,rfl,hd,hp,rfl⟩:=a8 h
 have ha:=dR hd
 simp only[abo]at hp
 refine⟨rfl,ag rfl ?_⟩
 unfold FO FP
 have e:∀n:Nat,n<4->∀(k:D->Rows->Prop) rows,oH (.leaf (.int .u8)) (n:Int) rows k d=k (.cd (.raw (u8 (a.getD n 0#8)))) rows:=λn hn k rows=>fX (k:=k) (rows:=rows) (n:=n) ha (by omega)
 have e0:=e 0 (by decide)
 have e1:=e 1 (by decide)
 have e2:=e 2 (by decide)
 have e3:=e 3 (by decide)
 simp only[adw,ab1,ad6]at e0 e1 e2 e3
 simp only[↓ah,aj,simprocAttr,e0,e1,e2,e3]
 exact .val _ rfl
def Ru(x:List (BitVec 8)):Fn
 |[],[]=>some (dF x false)
 | _,_=>none
theorem kKd(x:List (BitVec 8))(rows:Rows)(k:D->Rows->Prop):aI (Ru x) rows k []=k (.sl L8 (0+rows.length) [] 0 x.length false) (rows++[some ⟨L8,bs x⟩]):=by
 refine(a9 rfl (r:=dF x false) rfl).trans ?_
 simp[dF,shift,ab,Sh.pure]
theorem UH(C:bf)(hC:aJ C P):aN C.aX P 153 (Fn.run (Ru (eN 32896))):=by
 refine aG (IQ C hC) λds rows r h=>?_
 unfold Ru at h
 split at h
 ·cases h
  refine⟨rfl,ag rfl ?_⟩
  unfold xV xW
  simp only[↓ah,aj,simprocAttr]
  exact .own _ 0 0 2 true false _ rfl rfl (λh=>by cases h)
 ·cases h
theorem leaf2_ok(C:bf)(hC:aJ C P):aN C.aX P 150 (Fn.run (Ru (eN 33410))):=by
 refine aG (NI C hC) λds rows r h=>?_
 unfold Ru at h
 split at h
 ·cases h
  refine⟨rfl,ag rfl ?_⟩
  unfold Cx Cy
  simp only[↓ah,aj,simprocAttr]
  exact .own _ 0 0 2 true false _ rfl rfl (λh=>by cases h)
 ·cases h
theorem Y1(C:bf)(hC:aJ C P):aN C.aX P 151 (Fn.run (Ru (eN 33667))):=by
 refine aG (KU C hC) λds rows r h=>?_
 unfold Ru at h
 split at h
 ·cases h
  refine⟨rfl,ag rfl ?_⟩
  unfold Ah Ai
  simp only[↓ah,aj,simprocAttr]
  exact .own _ 0 0 2 true false _ rfl rfl (λh=>by cases h)
 ·cases h
theorem mesg2_ok(C:bf)(hC:aJ C P):aN C.aX P 156 (Fn.run (Ru (eN 33153))):=by
 refine aG (NJ C hC) λds rows r h=>?_
 unfold Ru at h
 split at h
 ·cases h
  refine⟨rfl,ag rfl ?_⟩
  unfold CK CM
  simp only[↓ah,aj,simprocAttr]
  exact .own _ 0 0 2 true false _ rfl rfl (λh=>by cases h)
 ·cases h
noncomputable def yu:Fn:=tW (bx Kj) qs (λx _=>Fb x) λx q=>(dS ⟨x.id,q⟩,[])
theorem sitep_ok(C:bf)(hC:aJ C P):aN C.aX P 91 (Fn.run yu):=by
 refine aG (ze C hC) λds rows r h=>?_
 obtain⟨d,d2,x,q,rfl,rfl,hd,tD,hp,rfl⟩:=cQ h
 cases aE hd
 cases dH tD
 obtain⟨eY,n9,hf,hn⟩:=DT hp
 refine⟨rfl,ag rfl ?_⟩
 clear h hd tD
 unfold p9 qa
 have hz:D.agg nQ [.agg (.ar 16 L8) (List.replicate 16 (.raw (u8 0#8))),.raw (u32 0#32)]=dS ⟨List.replicate 16 0#8,0#32⟩:=rfl
 simp only[hz]
 unfold Kj at hf⊢
 simp only[↓ah,aj,simprocAttr,aM,cS,hf]
 exact .val _ rfl
theorem UI{rows:Rows}{x:PsV}{d:D}(h:bk rows (bx Kj) d x)(hp:Fb x=true)(k:D->Rows->Prop)(q:BitVec 32):aI yu rows k [d,.raw (u32 q)]=k (dS ⟨x.id,q⟩) rows:=by
 refine(gf h (bk.raw (eO q)) hp rfl k).trans ?_
 simp[dS,shift,ab,Sh.pure]
theorem kSitePC{x:PsV}(hp:Fb x=true)(rows:Rows)(k:D->Rows->Prop)(q:BitVec 32):aI yu rows k [Kj x,.raw (u32 q)]=k (dS ⟨x.id,q⟩) rows:=by
 obtain⟨eY,n9,hf,hn⟩:=DT hp
 refine(a9 (by simp[aW,hn,aR]) (gR (br OL x) (eO q) hp)).trans ?_
 simp[dS,shift,ab,Sh.pure]
def UJ(id aF:List (BitVec 8))(p:Bp):List (BitVec 8):=zn id p.q p.i.toNat p.j.toNat 0 (uJ id p.q p.i.toNat aF)
noncomputable def MQ:Fn:=tW (bx Kj) (bx ju) (λx p=>Fb x&&Bk p.i 65536&&Bk p.j 257) λx p=>(aO (UJ x.id x.aF p),[])
theorem valp_ok(C:bf)(hC:aJ C P)(h1:C.fn 91=some yu)(h2:C.fn 100=some yQ)(h3:C.fn 98=some yd):aN C.aX P 152 (Fn.run MQ):=by
 refine aG (xU C hC) λds rows r h=>?_
 obtain⟨d,d2,x,p,rfl,rfl,hd,tD,hp,rfl⟩:=cQ h
 cases aE hd
 cases aE tD
 simp only[aan,rS]at hp
 obtain⟨⟨hx,hi⟩,hj⟩:=hp
 have hx0:=hx
 obtain⟨eY,n9,hf,hn⟩:=DT hx
 refine⟨rfl,ag rfl ?_⟩
 clear h hd tD
 obtain⟨pq,pi,pj⟩:=p
 simp only at hi hj
 obtain⟨i,rfl⟩:=aaD hi.1
 obtain⟨j,rfl⟩:=aaD hj.1
 unfold pg po
 have hz:D.agg nQ [.agg (.ar 16 L8) (List.replicate 16 (.raw (u8 0#8))),.raw (u32 0#32)]=dS ⟨List.replicate 16 0#8,0#32⟩:=rfl
 have kS:=λrows k=>kSitePC hx0 rows k pq
 simp only[hz,dw]
 unfold Kj at hf kS⊢
 unfold ju
 have kE:=λrows k=>N3 rows k ⟨x.id,pq⟩ i x.aF eY (by omega) n9
 have kf:(uJ x.id pq i x.aF).length=32:=ij _ _ _ _ _
 have kC:=λrows k=>Jl rows k ⟨x.id,pq⟩ i 0 j (uJ x.id pq i x.aF) eY (by omega) (by omega) (by omega) kf
 rw[acB,adw]at kC
 simp only[↓ah,aj,simprocAttr,aM,cS,hf,h1,kS,h2,kE,h3,kC]
 exact .val _ rfl
noncomputable def Fc:Fn:=Zw (bx Kj) qs dB (oy (.ar 32 L8) aO) (λx _ k l=>Fb x&&decide (k.length<=1000)&&Jj l&&decide (l.length<=1000)) λx r k l=>dF (oc x.id r k l) false
theorem text_okP(C:bf)(hC:aJ C P)(h1:C.fn 73=some tM):aN C.aX P 149 (Fn.run Fc):=by
 refine bU (zj C hC) λds rows r h=>?_
 obtain⟨d0,d1,d2,d3,x,r,kd,l,rfl,rfl,g0,g1,g2,g3,hp,rfl⟩:=rQ h
 cases aE g0
 cases dH g1
 obtain⟨xk,hxk⟩:=cb g2
 obtain⟨xl,zA⟩:=uF g3
 simp only[aan,aat,py]at hp
 obtain⟨⟨⟨hx,Nc⟩,qE⟩,HD⟩:=hp
 obtain⟨eY,n9,hf,hn⟩:=DT hx
 refine⟨rfl,_,.cons (.refl _) (.cons (.refl _) (.cons hxk (.cons zA .nil))),ag rfl ?_⟩
 clear h g0 g1 g2 g3 hxk zA
 unfold qe qf
 unfold Kj at hf⊢
 have hw:[D.raw (u8 (BitVec.setWidth 8 (r>>>24))),D.raw (u8 (BitVec.setWidth 8 (r>>>16))),D.raw (u8 (BitVec.setWidth 8 (r>>>8))),D.raw (u8 (BitVec.setWidth 8 r))]=bs (bi r):=rfl
 simp only[↓ah,aj,simprocAttr,aM,hf,h1]
 refine Eq.mpr (Ji _ _ _ x.id (aU.tf (n:=16) rfl rfl eY) (by omega)) ?_
 have w4:List.take 4 (bs (bi r))=bs (bi r):=aaq (aaz _)
 have l4:(bs (bi r)).length=4:=rfl
 have ti:List.take 16 (bs x.id)=bs x.id:=aaq (by rw[aB,eY];exact aaz _)
 have la:(bs (x.id++bi r)).length=20:=by rw[aB,aao,eY];rfl
 have ta:List.take 20 (bs (x.id++bi r))=bs (x.id++bi r):=aaq (by rw[la];exact aaz _)
 rw[eY]
 simp only[↓ah,aj,simprocAttr,aM,aB,eY,hw,w4,l4,ti,la,ta,j3]
 refine⟨by omega,by omega,?_⟩
 generalize hT:x.id++(bi r++kd)=T0
 have e:oc x.id r kd l=T0++l.flatten:=by rw[<-hT,oc];simp only[aaC]
 have lT:T0.length=16+(4+kd.length):=by rw[<-hT,aao,aao,eY];rfl
 rw[e]
 have hlt:∀i,i<=l.length->(T0++(l.take i).flatten).length=16+(4+kd.length)+32*i:=λi hi=>by
  rw[aao,lT,px (λx hx=>qE x (aa1 hx)),aau]
  omega
 refine bg l.length (λi env rows=>has env [(33,.raw (it (i:Int))),(32,.raw (it (l.length:Int))),(31,.cI (.ar 32 L8) (l.map aO) xl)]/\∃d,look env 9=some d/\iT L8 d rows (bs (T0++(l.take i).flatten))) ?_ ?_
  ⟨?_,.sl L8 4 [] 0 (16+(4+kd.length)) false,by simp only[↓ah,aj,simprocAttr],.inr ⟨4,false,by rw[abL,abn,aaL,aB,lT],by rw[abL,abn,aaL];rfl⟩⟩
 ·rintro i hi env rows ⟨hh,d,h7,hO⟩ R hR
  simp only[has]at hh
  have e0:((i:Int)<(l.length:Int))=True:=aas (by omega)
  have b0:∀n:Nat,((0:Int)<=(n:Int))=True:=λn=>aas (by omega)
  have e1:=ca i (by omega)
  have hx:=qE _ (abz hi)
  have g:(l.map aO)[i]?=some (.agg (.ar 32 L8) (bs l[i])):=by simp[aO,hi]
  have hs:T0++(l.take i).flatten++l[i]=T0++(l.take (i+1)).flatten:=by
   rw[aaC,aaR hi,abU];simp
  have hlen:=hlt i (by omega)
  generalize l[i]=xi at*
  have ea:∀ex,elems (rows++[some ⟨.ar 32 L8,[.agg (.ar 32 L8) (bs xi)]⟩]) (.sl L8 rows.length [0] 0 32 ex)=some (bs xi):=λex=>oP (n:=32) (by rw[bw];rfl) rfl hx
  simp only[↓ah,aj,simprocAttr,aM,hh,e0,e1,b0,h7,aaE,g,ea,aB,hx]
  refine iq (hO.push) (by rw[aB,aB,hx,hlen];simp[most];omega) (by rw[aB,aB,hx,hlen];simp[most];omega) λd' aa F6 qo wv _=>?_
  rw[j3,hs]at F6
  simp only[↓ah,aj,simprocAttr,aM,hh,e1]
  exact hR _ _ ⟨by simp only[has,↓ah,aj,simprocAttr,hh],d',by simp only[↓ah,aj,simprocAttr],F6⟩
 ·rintro env rows ⟨hh,d,h7,hO⟩ R
  simp only[has]at hh
  have e0:((l.length:Int)<(l.length:Int))=False:=aax (by omega)
  rw[aaV]at hO
  have hlen:=hlt l.length (aaz _)
  rw[aaV]at hlen
  simp only[↓ah,aj,simprocAttr,aM,hh,e0,h7]
  rcases hO with⟨h,_⟩|⟨r,N9,rfl,hlv⟩
  ·have:=abB List.length h
   rw[aB,hlen,aaT]at this
   omega
  ·have ho:dF (T0++l.flatten) false=(.sl L8 0 [] 0 (T0++l.flatten).length false,[some ⟨L8,bs (T0++l.flatten)⟩]):=rfl
   rw[ho,aB]
   exact .own L8 r 0 _ N9 false _ hlv rfl (λh=>by cases h)
 ·simp only[has,↓ah,aj,simprocAttr]
theorem pR{rows:Rows}{x:PsV}{d dk dl:D}{k:List (BitVec 8)}{l:List (List (BitVec 8))}(h:bk rows (bx Kj) d x)(hp:Fb x=true)(hk:aU rows dk k)(hl:bk rows (oy (.ar 32 L8) aO) dl l)(Nc:k.length<=1000)(qE:∀y∈l,y.length=32)(HD:l.length<=1000)(K:D->Rows->Prop)(r:BitVec 32):
  aI Fc rows K [d,.raw (u32 r),dk,dl]=K (.sl L8 (0+rows.length) [] 0 (oc x.id r k l).length false) (rows++[some ⟨L8,bs (oc x.id r k l)⟩]):=by
 refine(uK h (bk.raw (eO r)) (.bs hk) hl (by simp[hp,Nc,py.2 qE,HD]) rfl K).trans ?_
 simp[dF,shift,ab,Sh.pure]
def fdD(d0 d1:D):D:= .agg OZ [.raw (it 1),d0,d1,.agg QB [.raw (u32 0#32),.raw (it 0),.raw (it 0)],.agg (.ar 32 L8) (bs qg)]
def rdB(rows:Rows):D->Option (List (BitVec 8))
 | .sl s r [] 0 n e=>match live rows r with
  |some ⟨sh,els⟩=>if s=L8/\sh=L8/\els.length=n then dB (.cI L8 els false)else none
  |none=>none
 | _=>none
theorem Rv{rows:Rows}{d:D}{A:List (BitVec 8)}(h:rdB rows d=some A):∃r e,d= .sl L8 r [] 0 A.length e/\live rows r=some ⟨L8,bs A⟩:=by
 unfold rdB at h
 split at h
 ·rename_i s r n e
  split at h
  ·rename_i sh els hl
   split at h
   ·rename_i hc
    obtain⟨rfl,rfl,rfl⟩:=hc
    rcases dR h with⟨h1,_⟩|⟨e',h1⟩
    ·cases h1
    ·injection h1 with _ h1
     subst h1
     exact⟨r,e,by rw[aB],hl⟩
   ·cases h
  ·cases h
 ·cases h
theorem rdB_sl{rows:Rows}{r n:Nat}{e:Bool}{A:List (BitVec 8)}(h:live rows r=some ⟨L8,bs A⟩)(hn:n=A.length):rdB rows (.sl L8 r [] 0 n e)=some A:=by
 subst hn
 simp only[rdB,h,aB,aew,abX]
 exact qV A false
noncomputable def Rw:Gh:=λds rows=>match ds with
 |[d0,d1]=>(rdB rows d0).bind λA=>(rdB rows d1).bind λB=>if A.length<=1099511627776/\B.length<=1099511627776 then some (.cA [fdD d0 d1,.raw (.bool (!decide (A=B)))],[some ⟨OZ,[fdD d0 d1]⟩])else none
 | _=>none
theorem two2_ok(C:bf)(hC:aJ C P)(hN:∀f,C.fy f=none)(h1:C.fn 94=some yf):HZ C.aX P 148 (MX Rw):=by
 refine MH hC hN Go.Proofs.Tryz.func148 (by kernel_rfl) (by kernel_rfl) (abx (by kernel_rfl)) (by kernel_rfl) (ac:=FT) (kq:=FU) (np:=2) ?_
 intro ds rows d new h
 unfold Rw at h
 split at h
 ·rename_i d0 d1
  obtain⟨A,hA,h⟩:=acM.1 h
  obtain⟨B,hB,h⟩:=acM.1 h
  split at h
  ·rename_i hl
   cases h
   obtain⟨ra,ea,rfl,lA⟩:=Rv hA
   obtain⟨rb,eb,rfl,lB⟩:=Rv hB
   refine⟨rfl,?_⟩
   unfold FT FU
   have kE:=λmore k=>Bl (rows++more) k (.sl L8 ra [] 0 A.length ea) (.sl L8 rb [] 0 B.length eb) A B (aU.own (ae lA more) _ rfl) (aU.own (ae lB more) _ rfl) hl.1 hl.2
   simp only[dw]
   simp only[awQ,uV,Q6,↓ah,aj,simprocAttr,aM,h1,kE]
   exact⟨⟨_,_,rfl,aaz _⟩,.inr trivial,rfl,rfl⟩
  ·cases h
 ·cases h
theorem Fe{rows:Rows}{ra rb na nb:Nat}{ea eb:Bool}{A B:List (BitVec 8)}(hA:live rows ra=some ⟨L8,bs A⟩)(hB:live rows rb=some ⟨L8,bs B⟩)(ha:na=A.length)(hb:nb=B.length)(la:A.length<=1099511627776)(lb:B.length<=1099511627776):
  Rw [.sl L8 ra [] 0 na ea,.sl L8 rb [] 0 nb eb] rows=some (.cA [fdD (.sl L8 ra [] 0 na ea) (.sl L8 rb [] 0 nb eb),.raw (.bool (!decide (A=B)))],[some ⟨OZ,[fdD (.sl L8 ra [] 0 na ea) (.sl L8 rb [] 0 nb eb)]⟩]):=by
 unfold Rw
 simp only[rdB_sl hA ha,rdB_sl hB hb,abc,la,lb,aew,abX]
def R9(rows:Rows)(d:D)(A:List (BitVec 8)):Prop:=(d= .raw (.slice none 0 0)/\A=[])\/∃r e,d= .sl L8 r [] 0 A.length e/\live rows r=some ⟨L8,bs A⟩
theorem R9.keep{rows aa:Rows}{d:D}{A:List (BitVec 8)}(h:R9 rows d A)(hk:bG rows aa):R9 aa d A:=by
 rcases h with h|⟨r,e,h1,h2⟩
 ·exact .inl h
 ·exact .inr ⟨r,e,h1,hk _ _ h2⟩
theorem R9.fits{rows:Rows}{d:D}{A:List (BitVec 8)}(h:R9 rows d A):d.fits .ref=true:=by
 rcases h with⟨rfl,_⟩|⟨r,e,rfl,h2⟩<;>rfl
theorem R9.bs{rows:Rows}{d:D}{A:List (BitVec 8)}(h:R9 rows d A):aU rows d A:=by
 rcases h with h|⟨r,e,rfl,h2⟩
 ·exact ez.to (.inl h)
 ·exact aU.own h2 _ rfl
structure yx (rows:Rows) (d:D) (k:Int) (A B:List (BitVec 8)) (p:Bp) (x:List (BitVec 8)):Prop where
 ex:∃d0 d1,d= .agg OZ [.raw (it k),d0,d1,ju p,.agg (.ar 32 L8) (Am.bs x)]/\R9 rows d0 A/\R9 rows d1 B
 x:x.length=32
 a:A.length<=1000000
 b:B.length<=1000000
theorem yx.keep{rows aa:Rows}{d:D}{k:Int}{A B:List (BitVec 8)}{p:Bp}{x:List (BitVec 8)}(h:yx rows d k A B p x)(hk:bG rows aa):yx aa d k A B p x:=by
 obtain⟨d0,d1,h1,h2,h3⟩:=h.ex
 exact⟨⟨d0,d1,h1,h2.keep hk,h3.keep hk⟩,h.x,h.a,h.b⟩
theorem yx.fits{rows:Rows}{d:D}{k:Int}{A B:List (BitVec 8)}{p:Bp}{x:List (BitVec 8)}(h:yx rows d k A B p x):d.fits OZ=true:=by
 obtain⟨d0,d1,rfl,h2,h3⟩:=h.ex
 have e2:=h2.fits
 have e3:=h3.fits
 simp only[↓ah,aj,simprocAttr,ju,e2,e3]
theorem kValP{rows:Rows}{x:PsV}{d:D}(h:bk rows (bx Kj) d x)(hp:Fb x=true)(k:D->Rows->Prop)(p:Bp)(hi:0<=p.i/\p.i<65536)(hj:0<=p.j/\p.j<257):aI MQ rows k [d,ju p]=k (.agg (.ar 32 L8) (bs (UJ x.id x.aF p))) rows:=by
 refine(gf h (JD p) (by rw[hp,rS.2 hi,rS.2 hj];rfl) rfl k).trans ?_
 simp[aO,shift,ab,Sh.pure]
structure ChC (C:bf):Prop where
 val:C.fn 152=some MQ
 sit:C.fn 91=some yu
 stp:C.fn 160=some Jk
 WN:C.fn 149=some Fc
 tw0:C.fn 148=none
 tw1:C.fy 148=none
 tw2:C.UQ 148=some Rw
theorem Y2(C:bf)(H:ChC C){rows:Rows}{r rp:Nat}{V:gu}{ml:mK}{e:Bool}(hP:vO rows r rp V ml){q:BitVec 32}{i a m:Nat}{v:List (BitVec 8)}(hq:q.toNat<2)(hi:i<pT V.o.toNat)(hm:a+m=2^wT V.o.toNat-1)(hv:v.length=32)
  (hen:zn V.id q i m a (vaS V ⟨q,i,a⟩)=zn V.id q i m a v)(hkn:Ki V ml ⟨q,i,a⟩=false){O:Prop}(hO:O->vaS V ⟨q,i,a⟩=v){K:D->Rows->Prop}
  (hk:∀aa d k A B p x,bG rows aa->yx aa d k A B p x->Good V ml k A B p x->(k=1->¬O)->K d aa):
  aQ C 4 fQ fP [Rt r rp e V,ju ⟨q,i,a⟩,.agg (.ar 32 L8) (bs v),.raw (it ((a+m:Nat):Int))] rows K:=by
 refine ag rfl ?_
 unfold fP fQ
 have hw:=(gI hP.s.okO).1
 have hpw:2^wT V.o.toNat<=256:=EQ hw
 have hpt:pT V.o.toNat<=265:=(gI hP.s.okO).2.2.1
 have hpw0:0<2^wT V.o.toNat:=adG _
 have kV:=λmore k=>kValP (rows:=rows++more) (hP.push more|>.ps e) (hP.ok e) k ⟨q,i,a⟩ (by simp;omega) (by simp;omega)
 have kS:=λmore k=>UI (rows:=rows++more) (hP.push more|>.ps e) (hP.ok e) k q
 have hvl:=vaS_len V ⟨q,i,a⟩
 have Su:UJ V.id V.aF ⟨q,i,a⟩=vaS V ⟨q,i,a⟩:=rfl
 have hz:D.agg nQ [.agg (.ar 16 L8) (List.replicate 16 (.raw (u8 0#8))),.raw (u32 0#32)]=dS ⟨List.replicate 16 0#8,0#32⟩:=rfl
 rw[Su]at kV
 have hmk:∀own,own=vaS V ⟨q,i,a⟩->own=v->Good V ml 2 [] [] ⟨q,i,a⟩ v:=λown e1 e2=> .unt (by simp only[UG,rS.2 (⟨by omega,by omega⟩:(0:Int)<=(i:Int)/\(i:Int)<(pT V.o.toNat:Int)),rS.2 (⟨by omega,by omega⟩:(0:Int)<=(a:Int)/\(a:Int)<((2^wT V.o.toNat:Nat):Int)),aaY hq,ach]) (by rw[<-e2,e1]) hkn
 have hmk:=hmk _ rfl
 generalize hOW:vaS V ⟨q,i,a⟩=own at*
 have q1:yz (bs own) (bs v)=some (decide (own=v)):=vF own v hvl hv
 simp only[dw,hz]
 simp only[Rt,ju]at kV kS⊢
 simp only[↓ah,aj,simprocAttr,aM,H.val,kV]
 by_cases c:own=v
 ·subst c
  rw[aaY rfl]at q1
  simp only[↓ah,aj,simprocAttr,aM,q1]
  exact hk _ _ 2 [] [] ⟨q,i,a⟩ own (bG.app _ _) ⟨⟨_,_,rfl,.inl ⟨rfl,rfl⟩,.inl ⟨rfl,rfl⟩⟩,hv,by simp,by simp⟩ (hmk rfl) (λh=>absurd h (by decide))
 ·rw [aaJ c] at q1
  simp only[↓ah,aj,simprocAttr,aM,q1,H.sit,kS,cS]
  have eY:V.id.length=16:=hP.s.w.id
  have hmm:zn V.id q i (m-0) (a+0) own=zn V.id q i (m-0) (a+0) v:=hen
  have b0:∀n:Nat,((0:Int)<=(n:Int))=True:=λn=>aas (by omega)
  have kst:∀(j:Nat) (x:List (BitVec 8)) (rows:Rows) (K:D->Rows->Prop),j<256->x.length=32->aI Jk rows K [dS ⟨V.id,q⟩,.raw (it (i:Int)),.raw (it (j:Int)),.agg (.ar 32 L8) (bs x)]=K (.agg (.ar 32 L8) (bs (lz V.id q i j x))) rows:=λj x rows K hj hx=>kStep rows K ⟨V.id,q⟩ i j x eY (by omega) hj hx
  refine bg m (λk env rs=>has env [(11,.raw (it ((a+k:Nat):Int))),(3,.raw (it ((a+m:Nat):Int))),(10,.ptr nQ (rows.length+5) [0]),(9,.ptr (.ar 32 L8) (rows.length+4) [0]),(8,.ptr OZ (rows.length+3) [0]),(6,.ptr (.ar 32 L8) (rows.length+2) [0]),(5,.ptr QB (rows.length+1) [0]),(4,.ptr SPs rows.length [0])]/\
   bG rows rs/\live rs rows.length=some ⟨SPs,[.agg SPs [.ptr eW r [0],.sl L8 rp [] 0 56 e,.agg (.ar 16 L8) (bs V.id),.raw (u32 V.o),.agg (.ar 32 L8) (bs V.aF)]]⟩/\live rs (rows.length+1)=some ⟨QB,[.agg QB [.raw (u32 q),.raw (it (i:Int)),.raw (it (a:Int))]]⟩/\live rs (rows.length+5)=some ⟨nQ,[dS ⟨V.id,q⟩]⟩/\(∃z,live rs (rows.length+3)=some ⟨OZ,[z]⟩)/\
   ∃ok vk,live rs (rows.length+4)=some ⟨.ar 32 L8,[.agg (.ar 32 L8) (bs ok)]⟩/\live rs (rows.length+2)=some ⟨.ar 32 L8,[.agg (.ar 32 L8) (bs vk)]⟩/\ok≠vk/\ok.length=32/\vk.length=32/\zn V.id q i (m-k) (a+k) ok=zn V.id q i (m-k) (a+k) vk) ?_ ?_
   ⟨?_,bG.app _ _,by rw[bw];rfl,by rw[aK];rfl,by rw[aK];rfl,⟨_,by rw[aK];rfl⟩,own,v,by rw[aK];rfl,by rw[aK];rfl,c,hvl,hv,hmm⟩
  ·rintro k Lm env rs ⟨hh,hK,r0,r1,r5,⟨z,r3⟩,ok,vk,r4,r2,hne,Xa,hvk,Ay⟩ R hR
   simp only[has]at hh
   have f0:(((a+k:Nat):Int)<((a+m:Nat):Int))=True:=aas (by omega)
   have f1:=ca (a+k) (by omega)
   have kA:=λrows K=>kst (a+k) ok rows K (by omega) Xa
   have kB:=λrows K=>kst (a+k) vk rows K (by omega) hvk
   have xl:(lz V.id q i (a+k) ok).length=32:=ij _ _ _ _ _
   have yl:(lz V.id q i (a+k) vk).length=32:=ij _ _ _ _ _
   have q2:yz (bs (lz V.id q i (a+k) ok)) (bs (lz V.id q i (a+k) vk))=some (decide (lz V.id q i (a+k) ok=lz V.id q i (a+k) vk)):=vF _ _ xl yl
   have R0:=λL'=>ae r0 L'
   have R1:=λL'=>ae r1 L'
   have R2:=λL'=>ae r2 L'
   have R3:=λL'=>ae r3 L'
   have R4:=λL'=>ae r4 L'
   have R5:=λL'=>ae r5 L'
   by_cases cx:lz V.id q i (a+k) ok=lz V.id q i (a+k) vk
   ·rw[aaY cx]at q2
    have sh8:∀K,cF .shr (it (i:Int)) (u64 8#64) K=K (.raw (it ((i/256:Nat):Int))):=λK=>Vy i 8 .u64 (by decide) K
    have o1:BitVec.ofInt 8 ((i/256:Nat):Int)=BitVec.ofNat 8 (i/256):=aa4 _ _
    have o2:BitVec.ofInt 8 (i:Int)=BitVec.ofNat 8 i:=aa4 _ _
    have o3:BitVec.ofInt 8 ((a+k:Nat):Int)=BitVec.ofNat 8 (a+k):=aa4 _ _
    have Sa:=hP.keep hK
    simp only[↓ah,aj,simprocAttr,aM,hh,f0,r0,r1,r2,r3,r4,r5,R0,R1,R2,R3,R4,R5,H.stp,kA,kB,cS,q2,sh8,o1,o2,o3,H.WN]
    refine Eq.mpr (pR ((Sa.push _).ps e) (hP.ok e) (k:=eN i++[BitVec.ofNat 8 (a+k)]) (l:=[ok]) (aU.own (by rw[aK];rfl) _ rfl) (bk.dl (by rw[aK];rfl) rfl) (by simp[eN]) (by simp[Xa]) (by simp) _ q) ?_
    simp only[↓ah,aj,simprocAttr,aM,hh,r0,r1,r2,r3,r4,r5,R0,R1,R2,R3,R4,R5,H.WN]
    refine Eq.mpr (pR ((Sa.push _).ps e) (hP.ok e) (k:=eN i++[BitVec.ofNat 8 (a+k)]) (l:=[vk]) (aU.own (by rw[aK];rfl) _ rfl) (bk.dl (by rw[aK];rfl) rfl) (by simp[eN]) (by simp[hvk]) (by simp) _ q) ?_
    simp only[↓ah,aj,simprocAttr,aM,hh,r0,r1,r2,r3,r4,r5,R0,R1,R2,R3,R4,R5,H.tw0,H.tw1,H.tw2]
    have tl:∀x:List (BitVec 8),x.length=32->(oc V.id q (eN i++[BitVec.ofNat 8 (a+k)]) [x]).length=55:=λx hx=>by
     simp only[oc,aao,eY,eN,abl,abn,aaL,hx,aaP,aaT];rfl
    have t1:=tl ok Xa
    have t2:=tl vk hvk
    obtain⟨g1,g2⟩:=step_col hne cx
    rw[Fe (by rw[aK];rfl) (by rw[aK];rfl) rfl rfl (by omega) (by omega)]
    have lt3:=bb r3
    have w3:=λL' X=>az (rows:=rs++L') (x:=X) (by omega:rows.length+3≠rs.length+8)
    simp only[fdD,↓ah,aj,simprocAttr,aM,hh,r0,r1,r2,r3,r4,r5,R0,R1,R2,R3,R4,R5,w3,λL' X=>aD (y:=X) (R3 L')]
    refine hk _ _ 1 _ _ ⟨0#32,0,0⟩ qg ((hK.trans (bG.app _ _)).set (by omega) _) ⟨⟨_,_,rfl,.inr ⟨_,_,rfl,?_⟩,.inr ⟨_,_,rfl,?_⟩⟩,rfl,by omega,by omega⟩ (.col g1 g2) (λ_ o=>c (hO o))
    ·rw[az (by omega),aK];rfl
    ·rw[az (by omega),aK];rfl
   ·rw[aaJ cx]at q2
    have lt4:=bb r4
    have lt2:=bb r2
    have w1:=λL' X=>az (rows:=rs++L') (x:=X) (by omega:rows.length+4≠rs.length+1)
    have w2:=λL' X=>az (rows:=rs++L') (x:=X) (by omega:rows.length+4≠rows.length+2)
    simp only[↓ah,aj,simprocAttr,aM,hh,f0,f1,r0,r1,r2,r3,r4,r5,R0,R1,R2,R3,R4,R5,H.stp,kA,kB,cS,q2,w1,w2]
    have qR:m-k=(m-(k+1))+1:=by omega
    rw[qR]at Ay
    refine hR _ _ ⟨by simp only[has,↓ah,aj,simprocAttr,hh,ab2],((hK.trans (bG.app _ _)).set (by omega) _).set (by omega) _,?_,?_,?_,⟨z,?_⟩,_,_,?_,?_,cx,xl,yl,Ay⟩
    ·rw[az (by omega),az (by omega)];exact R0 _
    ·rw[az (by omega),az (by omega)];exact R1 _
    ·rw[az (by omega),az (by omega)];exact R5 _
    ·rw[az (by omega),az (by omega)];exact R3 _
    ·rw[az (by omega)];exact aD (R4 _)
    ·exact aD (by rw[az (by omega)];exact R2 _)
  ·rintro env rs ⟨hh,hK,r0,r1,r5,⟨z,r3⟩,ok,vk,r4,r2,hne,Xa,hvk,Ay⟩ R
   rw[acq]at Ay
   exact absurd Ay hne
  ·simp only[has,↓ah,aj,simprocAttr,acQ]
structure ClC (C:bf):Prop where
 WN:C.fn 149=some Fc
 lea:C.fn 41=some Mr
 nod:C.fn 42=some Mt
 pat:C.fn 113=some Gb
 eql:C.fn 94=some yf
 kl:C.fn 150=some (Ru (eN 33410))
 ki:C.fn 151=some (Ru (eN 33667))
 tw0:C.fn 148=none
 tw1:C.fy 148=none
 tw2:C.UQ 148=some Rw
def fd0:D:= .agg OZ [.raw (it 0),.raw (.slice none 0 0),.raw (.slice none 0 0),.agg QB [.raw (u32 0#32),.raw (it 0),.raw (it 0)],.agg (.ar 32 L8) (bs qg)]
theorem Y3(C:bf)(H:ClC C){rows:Rows}{r rp:Nat}{V:gu}{ml:mK}{e:Bool}(hP:vO rows r rp V ml){q:BitVec 32}(hq:q.toNat<2){own cl p0:List (BitVec 8)}(ho:own.length=32)(hc:cl.length=32)(OU:p0.length=32){rq:Nat}{ee:Bool}
  (hl:live rows rq=some ⟨.ar 32 L8,[.agg (.ar 32 L8) (bs p0)]⟩)(hrt:dI V.id (q+1#32<<<1) (dZ V.id (q+1#32<<<1) own) (jW V q.toNat) 1=dI V.id (q+1#32<<<1) (dZ V.id (q+1#32<<<1) cl) [p0] 1){O:Prop}(hO:O->own=cl/\jW V q.toNat=[p0]){K:D->Rows->Prop}
  (Zk:∀aa d k A B p x,bG rows aa->yx aa d k A B p x->Good V ml k A B p x->(k=1->¬O)->K (.cA [d,.raw (.bool true)]) aa)
  (M3:own=cl->∀aa,bG rows aa->K (.cA [fd0,.raw (.bool false)]) aa):
  aQ C 5 fM fL [Rt r rp e V,.raw (u32 q),.agg (.ar 32 L8) (bs own),.agg (.ar 32 L8) (bs cl),.sl (.ar 32 L8) rq [] 0 1 ee] rows K:=by
 refine ag rfl ?_
 unfold fL fM
 have eY:V.id.length=16:=hP.s.w.id
 have ZB:q.toNat<iO V:=by rw[hP.s.lv];exact hq
 have V4:gD V q.toNat=1:=(hP.s.w.pn (by rw[hP.s.two];exact hq)).trans hP.s.h1
 obtain⟨m0,Fo,H9⟩:∃m0,jW V q.toNat=[m0]/\m0.length=32:=by
  have h1:=oS V q.toNat
  rw[V4]at h1
  obtain⟨m0,h2⟩:=adP.1 h1
  exact⟨m0,h2,Du hP.s.w.ok ZB m0 (by rw[h2];exact .head _)⟩
 have kP:=λmore k=>kPathV (rows++more) k (.ptr eW r [0]) V q (hP.push more).rd hP.s.w.ok ZB
 rw[V4,Fo]at kP
 rw[Fo]at hrt hO
 have e12:(1#32<<<1:BitVec 32)=2#32:=rfl
 rw[e12]at hrt
 have Kr:∀j,O->Gf V.id (q+2#32) own [m0] j=Gf V.id (q+2#32) cl [p0] j:=λj o=>by rw[(hO o).1,(hO o).2]
 have hO0:=Kr 0
 have OW:=Kr 1
 clear hO Kr
 have hf:=@lv_find V.id (q+2#32) own cl [m0] [p0] 1
 have hps:=λmore=>(hP.push more).ps e
 have hpk:=hP.ok e
 have tl:∀(x:BitVec 32) k y,y.length=32->(oc V.id x (eN k) [y]).length=54:=λx k y hy=>by
  simp only[oc,aao,eY,eN,abl,abn,aaL,hy,aaP,aaT];rfl
 have tl2:∀(x:BitVec 32) y z,y.length=32->z.length=32->(oc V.id x (eN 33667) [y,z]).length=86:=λx y z hy hz=>by
  simp only[oc,aao,eY,eN,abl,abn,aaL,hy,hz,aaP,aaT];rfl
 simp only[dw]
 simp only[Rt]at hps⊢
 have Al:=λL'=>ae hl L'
 have hb:((q+2#32)&&&1#32=1#32)=True\/((q+2#32)&&&1#32=1#32)=False:=by
  by_cases c:(q+2#32)&&&1#32=1#32
  ·exact .inl (aas c)
  ·exact .inr (aax c)
 simp only[↓ah,aj,simprocAttr,aM,e12,H.kl,kKd,H.WN]
 clear e12
 generalize q+2#32=r0 at*
 refine Eq.mpr (pR (hps _) hpk (k:=eN 33410) (l:=[own]) (aU.own (by rw[aK];rfl) _ rfl) (bk.dl (by rw[aK];rfl) rfl) (by simp[eN]) (by simp[ho]) (by simp) _ r0) ?_
 simp only[↓ah,aj,simprocAttr,aM,H.kl,kKd,H.WN]
 refine Eq.mpr (pR (hps _) hpk (k:=eN 33410) (l:=[cl]) (aU.own (by rw[aK];rfl) _ rfl) (bk.dl (by rw[aK];rfl) rfl) (by simp[eN]) (by simp[hc]) (by simp) _ r0) ?_
 simp only[↓ah,aj,simprocAttr,aM,H.tw0,H.tw1,H.tw2]
 have t1:=tl r0 33410 own ho
 have t2:=tl r0 33410 cl hc
 rw[Fe (by rw[aK];rfl) (by rw[aK];rfl) rfl rfl (by omega) (by omega)]
 have kL1:=λrows k=>VP rows k V.id r0 own eY ho
 have kL2:=λrows k=>VP rows k V.id r0 cl eY hc
 simp only[fdD,↓ah,aj,simprocAttr,aM,H.lea,kL1,kL2,H.pat,kP]
 have xl:=oR V.id r0 own
 have yl:=oR V.id r0 cl
 have e0A:Gf V.id r0 own [m0] 0=oc V.id r0 (eN 33410) [own]:=rfl
 have e0B:Gf V.id r0 cl [p0] 0=oc V.id r0 (eN 33410) [cl]:=rfl
 have e1A:Gf V.id r0 own [m0] 1=oc V.id (r0>>>1) (eN 33667) (lvP r0 m0 (dZ V.id r0 own)):=rfl
 have e1B:Gf V.id r0 cl [p0] 1=oc V.id (r0>>>1) (eN 33667) (lvP r0 p0 (dZ V.id r0 cl)):=rfl
 have hoc:Gf V.id r0 own [m0] 0=Gf V.id r0 cl [p0] 0->own=cl:=λh=>tx_one h
 rw[e0A,e0B]at hoc
 rw[<-e0A]at t1
 rw[<-e0B]at t2
 rw[<-e0A,<-e0B]at hoc
 simp only[<-e0A,<-e0B]
 generalize BW:Gf V.id r0 own [m0] 0=A0 at*
 generalize hB0:Gf V.id r0 cl [p0] 0=B0 at*
 refine gh 2 ?_
 have g0:[aO m0][0]?=some (.agg (.ar 32 L8) (bs m0)):=rfl
 rcases hb with hb|hb
 have f1:oc V.id (r0>>>1) (eN 33667) [m0,dZ V.id r0 own]=Gf V.id r0 own [m0] 1:=by rw[e1A,lvP,aaI (of_eq_true hb)]
 have f2:oc V.id (r0>>>1) (eN 33667) [p0,dZ V.id r0 cl]=Gf V.id r0 cl [p0] 1:=by rw[e1B,lvP,aaI (of_eq_true hb)]
 have t3:=tl2 (r0>>>1) m0 (dZ V.id r0 own) H9 xl
 have t4:=tl2 (r0>>>1) p0 (dZ V.id r0 cl) OU yl
 have kN1:=λrows k=>Jw rows k V.id (r0>>>1) m0 (dZ V.id r0 own) eY H9 xl
 have kN2:=λrows k=>Jw rows k V.id (r0>>>1) p0 (dZ V.id r0 cl) eY OU yl
 simp only[aO,↓ah,aj,simprocAttr,aM,hb,hl,Al,H.ki,kKd,H.WN]
 refine Eq.mpr (pR (hps _) hpk (k:=eN 33667) (l:=[m0,dZ V.id r0 own]) (aU.own (by rw[aK];rfl) _ rfl) (bk.dl (by rw[aK];rfl) rfl) (by simp[eN]) (by simp[H9,xl]) (by simp) _ (r0>>>1)) ?_
 simp only[↓ah,aj,simprocAttr,aM,hl,Al,H.ki,kKd,H.WN]
 refine Eq.mpr (pR (hps _) hpk (k:=eN 33667) (l:=[p0,dZ V.id r0 cl]) (aU.own (by rw[aK];rfl) _ rfl) (bk.dl (by rw[aK];rfl) rfl) (by simp[eN]) (by simp[OU,yl]) (by simp) _ (r0>>>1)) ?_
 simp only[↓ah,aj,simprocAttr,aM,hl,Al,H.tw0,H.tw1,H.tw2]
 rw[Fe (by rw[aK];rfl) (by rw[aK];rfl) rfl rfl (by omega) (by omega)]
 simp only[fdD,↓ah,aj,simprocAttr,aM,hl,Al,H.nod,kN1,kN2]
 rw[f1]at t3
 rw[f2]at t4
 simp only[f1,f2]
 rotate_left
 have f1:oc V.id (r0>>>1) (eN 33667) [dZ V.id r0 own,m0]=Gf V.id r0 own [m0] 1:=by rw[e1A,lvP,aaA (of_eq_false hb)]
 have f2:oc V.id (r0>>>1) (eN 33667) [dZ V.id r0 cl,p0]=Gf V.id r0 cl [p0] 1:=by rw[e1B,lvP,aaA (of_eq_false hb)]
 have t3:=tl2 (r0>>>1) (dZ V.id r0 own) m0 xl H9
 have t4:=tl2 (r0>>>1) (dZ V.id r0 cl) p0 yl OU
 have kN1:=λrows k=>Jw rows k V.id (r0>>>1) (dZ V.id r0 own) m0 eY xl H9
 have kN2:=λrows k=>Jw rows k V.id (r0>>>1) (dZ V.id r0 cl) p0 eY yl OU
 simp only[aO,↓ah,aj,simprocAttr,aM,hb,hl,Al,H.ki,kKd,H.WN]
 refine Eq.mpr (pR (hps _) hpk (k:=eN 33667) (l:=[dZ V.id r0 own,m0]) (aU.own (by rw[aK];rfl) _ rfl) (bk.dl (by rw[aK];rfl) rfl) (by simp[eN]) (by simp[H9,xl]) (by simp) _ (r0>>>1)) ?_
 simp only[↓ah,aj,simprocAttr,aM,hl,Al,H.ki,kKd,H.WN]
 refine Eq.mpr (pR (hps _) hpk (k:=eN 33667) (l:=[dZ V.id r0 cl,p0]) (aU.own (by rw[aK];rfl) _ rfl) (bk.dl (by rw[aK];rfl) rfl) (by simp[eN]) (by simp[OU,yl]) (by simp) _ (r0>>>1)) ?_
 simp only[↓ah,aj,simprocAttr,aM,hl,Al,H.tw0,H.tw1,H.tw2]
 rw[Fe (by rw[aK];rfl) (by rw[aK];rfl) rfl rfl (by omega) (by omega)]
 simp only[fdD,↓ah,aj,simprocAttr,aM,hl,Al,H.nod,kN1,kN2]
 rw[f1]at t3
 rw[f2]at t4
 simp only[f1,f2]
 all_goals
  generalize hA1:Gf V.id r0 own [m0] 1=A1 at*
  generalize Ut:Gf V.id r0 cl [p0] 1=B1 at*
  refine gh 3 ?_
  simp only[↓ah,aj,simprocAttr,aM,H.eql]
  have hj:=λj hj ha=>hf (j:=j) (λi hi=>by obtain rfl:i=0:=(by omega);exact H9) (λi hi=>by obtain rfl:i=0:=(by omega);exact OU) hrt hj ha
  refine Eq.mpr (Bl _ _ _ _ A1 B1 (aU.own (by rw[aK];rfl) _ rfl) (aU.own (by rw[aK];rfl) _ rfl) (by omega) (by omega)) ?_
  by_cases c1:A1=B1
  ·rw[aaY c1]
   simp only[↓ah,aj,simprocAttr,aM,aa8,H.eql]
   refine Eq.mpr (Bl _ _ _ _ A0 B0 (aU.own (by rw[aK];rfl) _ rfl) (aU.own (by rw[aK];rfl) _ rfl) (by omega) (by omega)) ?_
   by_cases c0:A0=B0
   ·rw[aaY c0]
    simp only[↓ah,aj,simprocAttr,aM,aa8]
    exact M3 (hoc c0) _ (bG.app _ _)
   ·rw[aaJ c0]
    simp only[↓ah,aj,simprocAttr,aM,aba]
    have hs:=hj 0 (by omega) (λi h1 h2=>by obtain rfl:i=1:=(by omega);rw[hA1,Ut];exact c1)
    rw[BW,hB0]at hs
    exact Zk _ _ 1 A0 B0 ⟨0#32,0,0⟩ qg (bG.app _ _) ⟨⟨_,_,rfl,.inr ⟨_,_,rfl,by rw[aK];rfl⟩,.inr ⟨_,_,rfl,by rw[aK];rfl⟩⟩,rfl,by omega,by omega⟩ (.col c0 hs) (λ_ o=>c0 (hO0 o))
  ·rw[aaJ c1]
   simp only[↓ah,aj,simprocAttr,aM,aba]
   have hs:=hj 1 (by omega) (λi h1 h2=>absurd h1 (by omega))
   rw[hA1,Ut]at hs
   exact Zk _ _ 1 A1 B1 ⟨0#32,0,0⟩ qg (bG.app _ _) ⟨⟨_,_,rfl,.inr ⟨_,_,rfl,by rw[aK];rfl⟩,.inr ⟨_,_,rfl,by rw[aK];rfl⟩⟩,rfl,by omega,by omega⟩ (.col c1 hs) (λ_ o=>c1 (OW o))
structure OfC (C:bf):Prop where
 bD:C.fn 10=some uP
 num:C.fn 141=some Az
theorem of_run(C:bf)(H:OfC C){rows:Rows}{L:vI}{S:Sg}{ml:mK}(hS:ob rows L S)(hP:PS (S.v L) ml){K:D->Rows->Prop}
  (hk:∀aa rp e,bG rows aa->vO aa L.r rp (S.v L) ml->K (Rt L.r rp e (S.v L)) aa):
  aQ C 2 lj lh [.ptr eW L.r [0],.agg (.ar 32 L8) (bs S.aF)] rows K:=by
 refine ag rfl ?_
 unfold lh lj
 have kPub:=λmore k'=>JB (rows++more) k' _ _ (hS.push more).rd hP.w.ok
 have hlen:=jn hP.w.ok
 have eY:=Uu hP.w.id
 simp only[↓ah,aj,simprocAttr,aM,H.bD,kPub]
 simp only[eP,dO,eY,aB,H.num]
 refine⟨hP.w.id,?_⟩
 have e4:((cy (S.v L)).drop 4).take 52=(cy (S.v L)).drop 4:=aaq (by rw[aar,hlen];decide)
 refine Eq.mpr (kLNum _ _ _ _ (aU.sub (by rw[aK];rfl) (by rw[hlen];decide)) (by rw[e4,aar,hlen];decide)) ?_
 rw[e4,pub_o]
 simp only[↓ah,aj,simprocAttr,aM]
 exact hk _ (rows.length+2) false (bG.app _ _) ⟨⟨L,S,hS.push _,rfl,rfl⟩,by rw[aK];rfl,hP⟩
theorem Rx(m:List (BitVec 8)):ofBytes (jx m)=bs m:=by
 simp only[ofBytes,jx,bs,aec,ub,List.map_map]
 refine acC λx _=>?_
 simp[u8]
theorem vO.dl{rows:Rows}{r rp:Nat}{V:gu}{ml:mK}(h:vO rows r rp V ml){q:Nat}(hq:q<ml.length):
  ∃l r2 n ex,live rows r=some ⟨eW,[.agg eW l]⟩/\l.length=9/\l[8]?=some (.sl kg r2 [] 0 n ex)/\q<n/\n=ml.length/\live rows r2=some ⟨kg,ml.map wM⟩:=by
 obtain⟨L,S,h1,rfl,rfl⟩:=h.g
 rcases h.s.ld with⟨_,h2⟩|⟨ex,h2⟩
 ·subst h2;simp at hq
 ·have h3:TX L S= .cI kg (ml.map wM) ex:=h2
  rcases h1.l with⟨e1,e2⟩|⟨r2,Kp,e2,hl⟩
  ·rw[TX,e2]at h3;cases h3
  ·rw[TX,e2]at h3
   injection h3 with _ h3
   rw[h3]at hl
   have hn:(S.last.map wM).length=ml.length:=by rw[h3,aaE]
   rw[hn]at e2
   exact⟨_,r2,ml.length,Kp,h1.a,rfl,by rw[<-e2];rfl,hq,rfl,hl⟩
theorem last_run(C:bf){rows:Rows}{r rp:Nat}{V:gu}{ml:mK}(hP:vO rows r rp V ml){q:BitVec 32}(hq:q.toNat<ml.length){K:D->Rows->Prop}
  (hk:K (.cA [.cI L8 (bs (ml.getD q.toNat ([],[])).1) false,.agg (.ar 32 L8) (bs (ml.getD q.toNat ([],[])).2)]) (rows++[some ⟨.ar 32 L8,[.agg (.ar 32 L8) (bs (ml.getD q.toNat ([],[])).2)]⟩])):
  aQ C 2 iD iC [.ptr eW r [0],.raw (u32 q)] rows K:=by
 refine ag rfl ?_
 unfold iC iD
 obtain⟨l,r2,n,ex,hr,h9,h8,hqn,hn,hl⟩:=hP.dl hq
 have hlen:=hP.s.len
 have A1:=λL'=>ae hr L'
 have A2:=λL'=>ae hl L'
 have b0:∀n:Nat,((0:Int)<=(n:Int))=True:=λn=>aas (by omega)
 have c1:(BitVec.ofInt 64 ((n:Nat):Int)<=q.setWidth 64)=False:=aax (by
  rw[show BitVec.ofInt 64 ((n:Nat):Int)=BitVec.ofNat 64 n from aa4 _ _,abS,aaK,aa9]
  omega)
 have c2:((q.toNat:Int)<(n:Int))=True:=aas (by omega)
 have g:(ml.map wM)[q.toNat]?=some (wM (ml.getD q.toNat ([],[]))):=by simp[List.getD,hq]
 have gl:(D.agg eW l).get [8]=some (.sl kg r2 [] 0 n ex):=by simp[D.get,h8]
 generalize ml.getD q.toNat ([],[])=x at*
 simp only[dw]
 simp only[↓ah,aj,simprocAttr,aM,hr,A1,hl,A2,h8,gl,c1,c2,b0,g,wM,Rx]
 exact hk
structure OnC (C CH CL:bf):Prop where
 par:C.fn 37=some j8
 spl:C.fn 147=some ET
 dig:C.fn 110=some vG
 mas:C.fn 111=some Jm
 val:C.fn 152=some MQ
 sit:C.fn 91=some yu
 chn:C.fn 98=some yd
 WN:C.fn 149=some Fc
 kpu:C.fn 153=some (Ru (eN 32896))
 kms:C.fn 156=some (Ru (eN 33153))
 kno:C.fn 97=some JE
 tw0:C.fn 148=none
 tw1:C.fy 148=none
 tw2:C.UQ 148=some Rw
 ch0:C.fn 154=none
 ch1:C.fy 154=some (aQ CH 4 fQ fP)
 chC:ChC CH
 la0:C.fn 155=none
 la1:C.fy 155=some (aQ CL 2 iD iC)
structure OnB (rows rs:Rows) (r rp:Nat) (e:Bool) (V:gu) (q:BitVec 32) (one msg:List (BitVec 8)):Prop where
 k:bG rows rs
 r0:live rs rows.length=some ⟨SPs,[Rt r rp e V]⟩
 r1:live rs (rows.length+1)=some ⟨OZ,[fd0]⟩
 r2:live rs (rows.length+2)=some ⟨nQ,[dS ⟨V.id,q⟩]⟩
 r4:live rs (rows.length+4)=some ⟨.ar 32 L8,(chunks one (pT V.o.toNat)).map aO⟩
 r5:live rs (rows.length+5)=some ⟨.ar 32 L8,[.agg (.ar 32 L8) (bs (fh one))]⟩
 r6:live rs (rows.length+6)=some ⟨LI,(bV V.o.toNat (dY V.id q (fh one) msg)).map sC⟩
 ln:rows.length+7<=rs.length
theorem OnB.mono{rows rs rs':Rows}{r rp:Nat}{e:Bool}{V:gu}{q:BitVec 32}{one msg:List (BitVec 8)}(h:OnB rows rs r rp e V q one msg)(hf:∀p x,p<rows.length+7->live rs p=some x->live rs' p=some x)(hl:rs.length<=rs'.length):OnB rows rs' r rp e V q one msg:=
 ⟨λp x hp=>hf p x (by have:=bb hp;omega) (h.k p x hp),hf _ _ (by omega) h.r0,hf _ _ (by omega) h.r1,hf _ _ (by omega) h.r2,hf _ _ (by omega) h.r4,hf _ _ (by omega) h.r5,hf _ _ (by omega) h.r6,abd h.ln hl⟩
theorem R9.DE{rows:Rows}{d:D}{A:List (BitVec 8)}(h:R9 rows d A){p:Nat}{s':Sh}{l:List D}(hp:live rows p=some ⟨s',l⟩)(hs:s'≠L8)(x:Option Row):R9 (rows.set p x) d A:=by
 rcases h with h|⟨r,e,h1,h2⟩
 ·exact .inl h
 ·exact .inr ⟨r,e,h1,by rw[az (ic hp h2 hs)];exact h2⟩
theorem yx.DE{rows:Rows}{d:D}{k:Int}{A B:List (BitVec 8)}{pl:Bp}{y:List (BitVec 8)}(h:yx rows d k A B pl y){p:Nat}{s':Sh}{l:List D}(hp:live rows p=some ⟨s',l⟩)(hs:s'≠L8)(x:Option Row):yx (rows.set p x) d k A B pl y:=by
 obtain⟨d0,d1,h1,h2,h3⟩:=h.ex
 exact⟨⟨d0,d1,h1,h2.DE hp hs x,h3.DE hp hs x⟩,h.x,h.a,h.b⟩
def HiS(b:Nat)(d:D):Prop:=∀q ex n,d= .sl (.ar 32 L8) q [] 0 n ex->b<=q
theorem ends_get{id:List (BitVec 8)}{q:BitVec 32}{aF:List (BitVec 8)}{E M i:Nat}(h:i<M):(jE id q aF E M).take (i+1)=(jE id q aF E M).take i++[zn id q i E 0 (uJ id q i aF)]:=by
 rw[aaR (by simp[jE,h])]
 simp[jE]
theorem cls_get{s:Site}{p m:List (BitVec 8)}{M i:Nat}(h:i<M):((List.range M).map (Jq s p m)).take (i+1)=((List.range M).map (Jq s p m)).take i++[Jq s p m i]:=by
 rw[aaR (by simp[h])]
 simp
theorem once_run(C CH CL:bf)(H:OnC C CH CL){rows:Rows}{r rp:Nat}{V:gu}{ml:mK}{e:Bool}(hP:vO rows r rp V ml){q:BitVec 32}(hq:q.toNat<2){r1 n1:Nat}{e1:Bool}{dm:D}{one msg:List (BitVec 8)}
  (h1:live rows r1=some ⟨L8,bs one⟩)(hn1:n1=one.length)(hm:mw rows dm msg)(h1l:one.length<=1000000)(H9:msg.length<=1000)(ho:dJ one=V.o)(hE:gS one=0)(jZ:mH ⟨V.id,q⟩ one msg=zo V.o.toNat ⟨V.id,q⟩ V.aF)(hn:msg∉ml.map (·.1)){O:Prop}(hO:O->(∀i:Nat,i<pT V.o.toNat->vaS V ⟨q,i,(((bV V.o.toNat (dY V.id q (fh one) msg)).getD i 0:Nat):Int)⟩=chunk one i)/\ml.length<=q.toNat){K:D->Rows->Prop}
  (hk:∀aa d k A B p x,bG rows aa->yx aa d k A B p x->Good V ml k A B p x->(k=1->¬O)->K d aa):
  aQ C 4 gA gz [Rt r rp e V,.raw (u32 q),.sl L8 r1 [] 0 n1 e1,dm] rows K:=by
 refine ag rfl ?_
 unfold gz gA
 have eY:V.id.length=16:=hP.s.w.id
 have hw:=(gI hP.s.okO).1
 have hpw:2^wT V.o.toNat<=256:=EQ hw
 have hw8:wT V.o.toNat<=8:=by rcases Ax.1 hw with h|h|h|h<;>(have h':wT V.o.toNat=_:=h;omega)
 have hpt:pT V.o.toNat<=265:=(gI hP.s.okO).2.2.1
 have hpw0:0<2^wT V.o.toNat:=adG _
 have hokO:=hP.s.okO
 have kS:=λmore k=>UI (rows:=rows++more) (hP.push more|>.ps e) (hP.ok e) k q
 have hz:D.agg nQ [.agg (.ar 16 L8) (List.replicate 16 (.raw (u8 0#8))),.raw (u32 0#32)]=dS ⟨List.replicate 16 0#8,0#32⟩:=rfl
 have hzp:D.agg pz [.raw (it 0),.raw (it 0),.raw (it 0)]=ib ⟨0,0,0⟩:=rfl
 have gw:(ib (lC V.o.toNat)).get [0]=some (.raw (it (wT V.o.toNat:Int))):=rfl
 have hsh:=Oc 1 (wT V.o.toNat) (by decide) (by omega)
 rw[Nat.one_mul,show((1:Nat):Int)=1 from rfl]at hsh
 have hend:wz (((2^wT V.o.toNat:Nat):Int)-1)=((2^wT V.o.toNat-1:Nat):Int):=by rw[aZ (by omega)];omega
 have kSp:=λmore k=>kSplit (rows++more) k (.sl L8 r1 [] 0 n1 e1) one (aU.own (ae h1 more) _ hn1) (by omega) hE
 rw[ho]at kSp
 have hl36:one.length=36+32*pT V.o.toNat:=by have:=(VN hE).2.2;rw[ho]at this;exact this
 have WO:(fh one).length=32:=by rw[fh,aau,aar];omega
 have kM:=λmore k=>Vz (rows++more) k ⟨V.id,q⟩ (fh one) msg dm (hm.keep λ_ _ hp=>a7 hp).bs eY WO
 have kD:=λrows k=>G6 rows k V.o (dY V.id q (fh one) msg) (cm _) hokO
 simp only[dw,hz,hzp]
 simp only[Rt]at kS⊢
 simp only[↓ah,aj,simprocAttr,aM,H.sit,kS,cS,H.par,jJ,cL,gw,hsh,hend,H.spl,kSp,H.mas,kM,H.dig,kD]
 have hM1:=pT_pos hokO
 have b0:∀n:Nat,((0:Int)<=(n:Int))=True:=λn=>aas (by omega)
 have kC:=λ(i a:Nat) (x:List (BitVec 8)) (rows:Rows) (k:D->Rows->Prop) (hi:i<65536) (ha:a<=256) (hx:x.length=32)=>Jl rows k ⟨V.id,q⟩ i a (2^wT V.o.toNat-1) x eY hi ha (by omega) hx
 have pU:(bV V.o.toNat (dY V.id q (fh one) msg)).length=pT V.o.toNat:=by simp[bV,uL]
 have ww:∀i,(bV V.o.toNat (dY V.id q (fh one) msg)).getD i 0<=2^wT V.o.toNat-1:=G9 hokO _
 have hclE:∀i,Jq ⟨V.id,q⟩ one msg i=zn V.id q i (2^wT V.o.toNat-1-(bV V.o.toNat (dY V.id q (fh one) msg)).getD i 0) ((bV V.o.toNat (dY V.id q (fh one) msg)).getD i 0) (chunk one i):=λi=>by rw[Jq,ho];rfl
 have hck:∀i,i<pT V.o.toNat->(chunk one i).length=32:=λi hi=>by rw[chunk,aau,aar];omega
 refine bg (pT V.o.toNat) (λi env rs=>has env [(60,.raw (it (i:Int))),(59,.raw (it (pT V.o.toNat:Int))),(58,.sl LI (rows.length+6) [] 0 (pT V.o.toNat) false),(17,.sl LI (rows.length+6) [] 0 (pT V.o.toNat) false),(12,.raw (it ((2^wT V.o.toNat-1:Nat):Int))),(15,.sl (.ar 32 L8) (rows.length+4) [] 0 (pT V.o.toNat) false),(14,.ptr (.ar 32 L8) (rows.length+5) [0]),(9,.ptr nQ (rows.length+2) [0]),(8,.ptr OZ (rows.length+1) [0]),(4,.ptr SPs rows.length [0]),(1,.raw (u32 q)),(3,dm)]/\
  OnB rows rs r rp e V q one msg/\∃d18 d19,look env 18=some d18/\look env 19=some d19/\iT (.ar 32 L8) d18 rs (((jE V.id q V.aF (2^wT V.o.toNat-1) (pT V.o.toNat)).take i).map aO)/\iT (.ar 32 L8) d19 rs ((((List.range (pT V.o.toNat)).map (Jq ⟨V.id,q⟩ one msg)).take i).map aO)/\
   HiS (rows.length+7) d18/\HiS (rows.length+7) d19/\∀p ex n og n',d18= .sl (.ar 32 L8) p [] 0 n ex->d19≠ .sl (.ar 32 L8) p [] 0 n' og) ?_ ?_
  ⟨?_,⟨bG.app _ _,by rw[bw];rfl,by rw[aK];rfl,by rw[aK];rfl,by rw[aK];rfl,by rw[aK];rfl,by rw[aK];rfl,by rw[aao];exact aaz _⟩,.raw (.slice none 0 0),.raw (.slice none 0 0),by simp only[↓ah,aj,simprocAttr],by simp only[↓ah,aj,simprocAttr],by rw[abL];exact .nil,by rw[abL];exact .nil,(by intro _ _ _ h;cases h),(by intro _ _ _ h;cases h),(by intro _ _ _ _ _ h;cases h)⟩
 ·rintro i hi env rs ⟨hh,hB,d18,d19,h18,Vv,OW,Kr,hH1,hH2,hne⟩ R hR
  simp only[has]at hh
  have f0:((i:Int)<(pT V.o.toNat:Int))=True:=aas (by omega)
  have f1:=ca i (by omega)
  have R0:=λL'=>ae hB.r0 L'
  have R2:=λL'=>ae hB.r2 L'
  have R4:=λL'=>ae hB.r4 L'
  have R6:=λL'=>ae hB.r6 L'
  have r0:=hB.r0
  have r2:=hB.r2
  have r4:=hB.r4
  have r6:=hB.r6
  have gd:((bV V.o.toNat (dY V.id q (fh one) msg)).map sC)[i]?=some (.raw (it (((bV V.o.toNat (dY V.id q (fh one) msg)).getD i 0:Nat):Int))):=by simp[sC,List.getD,pU,hi]
  have gc:((chunks one (pT V.o.toNat)).map aO)[i]?=some (.agg (.ar 32 L8) (bs (chunk one i))):=by simp[aO,chunks,hi]
  have hdi:=ww i
  have hci:=hck i hi
  have hcE:=hclE i
  have Sa:=hP.keep hB.k
  have kV:=λk=>kValP (rows:=rs) (Sa.ps e) (hP.ok e) k ⟨q,i,((2^wT V.o.toNat-1:Nat):Int)⟩ (by simp;omega) (by simp;omega)
  have Su:UJ V.id V.aF ⟨q,(i:Int),((2^wT V.o.toNat-1:Nat):Int)⟩=zn V.id q i (2^wT V.o.toNat-1) 0 (uJ V.id q i V.aF):=by simp[UJ]
  rw[Su]at kV
  have e1:=ends_get (id:=V.id) (q:=q) (aF:=V.aF) (E:=2^wT V.o.toNat-1) hi
  have e2:=cls_get (s:=⟨V.id,q⟩) (p:=one) (m:=msg) hi
  rw[hcE]at e2
  have kCi:=λrows k=>kC i ((bV V.o.toNat (dY V.id q (fh one) msg)).getD i 0) (chunk one i) rows k (by omega) (by omega) hci
  generalize (bV V.o.toNat (dY V.id q (fh one) msg)).getD i 0=a at*
  have l1:(((jE V.id q V.aF (2^wT V.o.toNat-1) (pT V.o.toNat)).take i).map aO).length=i:=by simp[jE];omega
  have l2:((((List.range (pT V.o.toNat)).map (Jq ⟨V.id,q⟩ one msg)).take i).map aO).length=i:=by simp;omega
  simp only[Rt,ju]at r0 R0 kV
  simp only[↓ah,aj,simprocAttr,aM,hh,f0,b0,r0,r6,R6,gd,H.val,kV,h18]
  refine uH OW.push (by rw[l1];simp[most];omega) (by rw[l1];simp[most];omega) λrs1 g1 g2 g3=>?_
  rw[aao]at g1 g3
  simp only[aaP,aaT]at g1 g3
  have Ut:OnB rows rs1 r rp e V q one msg:=hB.mono (λp x hp hx=>g2 p x (a7 hx) (λex n h=>by have:=hH1 p ex n h;omega)) (by omega)
  have hO2':iT (.ar 32 L8) d19 rs1 ((((List.range (pT V.o.toNat)).map (Jq ⟨V.id,q⟩ one msg)).take i).map aO):=by
   rcases Kr with h|⟨p,ex,h,hl⟩
   ·exact .inl h
   ·exact .inr ⟨p,ex,h,g2 p _ (a7 hl) (λog n' h'=>hne p og n' _ _ h' h)⟩
  have hlt:∀p ex n,d19= .sl (.ar 32 L8) p [] 0 n ex->p<rs.length:=by
   intro p ex n h
   rcases Kr with⟨_,h'⟩|⟨p',og,h',hl⟩
   ·rw[h']at h;cases h
   ·rw[h']at h;cases h;exact bb hl
  have S2:=λL'=>ae Ut.r2 L'
  have S4:=λL'=>ae Ut.r4 L'
  have s2:=Ut.r2
  have s4:=Ut.r4
  simp only[l1]
  simp only[↓ah,aj,simprocAttr,aM,hh,f0,b0,s2,s4,gc,H.chn,kCi,Vv]
  refine uH hO2'.push (by rw[l2];simp[most];omega) (by rw[l2];simp[most];omega) λrs2 u1 u2 u3=>?_
  rw[aao]at u1 u3
  simp only[aaP,aaT]at u1 u3
  simp only[l2]
  simp only[↓ah,aj,simprocAttr,aM,hh,f1]
  refine hR _ _ ⟨by simp only[has,↓ah,aj,simprocAttr,hh],Ut.mono (λp x hp hx=>u2 p x (a7 hx) (λex n h=>by have:=hH2 p ex n h;omega)) (by omega),.sl (.ar 32 L8) (rs.length+1) [] 0 (i+1) false,.sl (.ar 32 L8) (rs1.length+1) [] 0 (i+1) false,by simp only[↓ah,aj,simprocAttr],by simp only[↓ah,aj,simprocAttr],?_,?_,?_,?_,?_⟩
  ·rw[e1,acE]
   refine .inr ⟨rs.length+1,false,?_,?_⟩
   ·rw[aao,l1];rfl
   ·exact u2 _ _ (a7 g1) (λex n h=>by have:=hlt _ ex n h;omega)
  ·rw[e2,acE]
   refine .inr ⟨rs1.length+1,false,?_,u1⟩
   rw[aao,l2];rfl
  ·intro p ex n h
   cases h
   have:=hB.ln
   omega
  ·intro p ex n h
   cases h
   have:=hB.ln
   omega
  ·intro p ex n og n' h h'
   cases h
   injection h' with _ h'
   omega
 ·rintro env rs ⟨hh,hB,d18,d19,h18,Vv,OW,Kr,hH1,hH2,hne⟩ R
  simp only[has]at hh
  have f0:((pT V.o.toNat:Int)<(pT V.o.toNat:Int))=False:=aax (by omega)
  have l1:(jE V.id q V.aF (2^wT V.o.toNat-1) (pT V.o.toNat)).length=pT V.o.toNat:=by simp[jE]
  have l2:((List.range (pT V.o.toNat)).map (Jq ⟨V.id,q⟩ one msg)).length=pT V.o.toNat:=by simp
  have m1:∀x∈jE V.id q V.aF (2^wT V.o.toNat-1) (pT V.o.toNat),x.length=32:=by
   intro x hx
   obtain⟨i,_,rfl⟩:=acS.1 hx
   exact qu _ _ _ _ _ _ (ij _ _ _ _ _)
  have m2:∀x∈(List.range (pT V.o.toNat)).map (Jq ⟨V.id,q⟩ one msg),x.length=32:=by
   intro x hx
   obtain⟨i,hi,rfl⟩:=acS.1 hx
   exact VO (hck i (by simpa using hi))
  rw[aaq (adx l1)]at OW
  rw[aaq (adx l2)]at Kr
  have hsum:cM (oc V.id q (eN 32896) (jE V.id q V.aF (2^wT V.o.toNat-1) (pT V.o.toNat)))=cM (oc V.id q (eN 32896) ((List.range (pT V.o.toNat)).map (Jq ⟨V.id,q⟩ one msg))):=by
   rw[<-WK,<-WK]
   have:=jZ
   rw[mH,ho,zo]at this
   exact this.symm
  have Nq:oc V.id q (eN 32896) (jE V.id q V.aF (2^wT V.o.toNat-1) (pT V.o.toNat))=oc V.id q (eN 32896) ((List.range (pT V.o.toNat)).map (Jq ⟨V.id,q⟩ one msg))->∀i,i<pT V.o.toNat->zn V.id q i (2^wT V.o.toNat-1) 0 (uJ V.id q i V.aF)=Jq ⟨V.id,q⟩ one msg i:=by
   intro h i hi
   have:=Rq (by rw[l1,l2]) m1 m2 (OK h)
   have:=abB (λl=>l[i]?) this
   simpa[jE,hi]using this
  have hOL:O->jE V.id q V.aF (2^wT V.o.toNat-1) (pT V.o.toNat)=(List.range (pT V.o.toNat)).map (Jq ⟨V.id,q⟩ one msg):=λo=>by
   refine acC λi hi=>?_
   have hi':i<pT V.o.toNat:=by simpa using hi
   have h1:=(hO o).1 i hi'
   have h2:=ww i
   rw[hclE i,<-h1,vaS,aaB,aaB]
   have h3:=Dk V.id q i (2^wT V.o.toNat-1-(bV V.o.toNat (dY V.id q (fh one) msg)).getD i 0) ((bV V.o.toNat (dY V.id q (fh one) msg)).getD i 0) 0 (uJ V.id q i V.aF)
   rw[abE,Nat.add_sub_cancel' h2]at h3
   exact h3
  have tl:∀l:List (List (BitVec 8)),l.length=pT V.o.toNat->(∀x∈l,x.length=32)->(oc V.id q (eN 32896) l).length=22+32*pT V.o.toNat:=λl hl qE=>by
   rw[oc,aao,px qE,hl,aao,aao,eY];rfl
  have t1:=tl _ l1 m1
  have t2:=tl _ l2 m2
  clear tl
  generalize jE V.id q V.aF (2^wT V.o.toNat-1) (pT V.o.toNat)=L1 at*
  generalize (List.range (pT V.o.toNat)).map (Jq ⟨V.id,q⟩ one msg)=L2 at*
  have R0:=λL'=>ae hB.r0 L'
  have r0:=hB.r0
  have r1:=hB.r1
  have R1:=λL'=>ae hB.r1 L'
  have Sa:=hP.keep hB.k
  simp only[Rt]at r0 R0
  simp only[↓ah,aj,simprocAttr,aM,hh,f0,r0,R0,H.kpu,kKd,H.WN,h18,Vv]
  refine Eq.mpr (pR ((Sa.push _).ps e) (hP.ok e) (k:=eN 32896) (l:=L1) (aU.own (by rw[bw];rfl) _ rfl) (bk.dlOwn OW.push) (by simp[eN]) m1 (by omega) _ q) ?_
  simp only[↓ah,aj,simprocAttr,aM,hh,r0,R0,H.kpu,kKd,H.WN,Vv]
  refine Eq.mpr (pR ((Sa.push _).ps e) (hP.ok e) (k:=eN 32896) (l:=L2) (aU.own (by rw[aK];rfl) _ rfl) (bk.dlOwn Kr.push) (by simp[eN]) m2 (by omega) _ q) ?_
  simp only[↓ah,aj,simprocAttr,aM,hh,H.tw0,H.tw1,H.tw2]
  rw[Fe (by rw[aK];rfl) (by rw[aK];rfl) rfl rfl (by omega) (by omega)]
  have hlnB:=hB.ln
  by_cases cT:oc V.id q (eN 32896) L1=oc V.id q (eN 32896) L2
  rotate_left
  ·simp only[fdD,aaJ cT,↓ah,aj,simprocAttr,aM,hh,r1,R1,aba,λL' X=>aD (y:=X) (R1 L')]
   refine hk _ _ 1 _ _ ⟨0#32,0,0⟩ qg ((hB.k.trans (bG.app _ _)).set (by omega) _) ⟨⟨_,_,rfl,.inr ⟨_,_,rfl,?_⟩,.inr ⟨_,_,rfl,?_⟩⟩,rfl,by omega,by omega⟩ (.col cT hsum) (λ_ o=>cT (by rw[hOL o]))
   ·rw[az (by omega),aK];rfl
   ·rw[az (by omega),aK];rfl
  have Nq:=Nq cT
  simp only[fdD,aaY cT,↓ah,aj,simprocAttr,aM,hh,aa8]
  generalize hLL:[(some ⟨L8,bs (eN 32896)⟩:Option Row),some ⟨L8,bs (oc V.id q (eN 32896) L1)⟩]=LL
  clear hLL
  have hB2:=λLL:Rows=>hB.mono (rs':=rs++LL) (λp x _ hx=>a7 hx) (by rw[aao];omega)
  refine bg (pT V.o.toNat) (λi env rs=>has env [(105,.raw (it (i:Int))),(104,.raw (it (pT V.o.toNat:Int))),(103,.sl LI (rows.length+6) [] 0 (pT V.o.toNat) false),(12,.raw (it ((2^wT V.o.toNat-1:Nat):Int))),(15,.sl (.ar 32 L8) (rows.length+4) [] 0 (pT V.o.toNat) false),(14,.ptr (.ar 32 L8) (rows.length+5) [0]),(8,.ptr OZ (rows.length+1) [0]),(4,.ptr SPs rows.length [0]),(1,.raw (u32 q)),(3,dm)]/\
   OnB rows rs r rp e V q one msg/\∀j,j<i->Ki V ml ⟨q,(j:Int),(((bV V.o.toNat (dY V.id q (fh one) msg)).getD j 0:Nat):Int)⟩=true) ?_ ?_ ⟨?_,hB2 _,λj hj=>by omega⟩
  ·clear hh r0 r1 R0 R1 Sa hB OW Kr h18 Vv
   rintro i hi env rs ⟨hh,hB,hkn⟩ R hR
   simp only[has]at hh
   have f0:((i:Int)<(pT V.o.toNat:Int))=True:=aas (by omega)
   have f1:=ca i (by omega)
   have r0:=hB.r0
   have r1:=hB.r1
   have r4:=hB.r4
   have r6:=hB.r6
   have R0:=λL'=>ae hB.r0 L'
   have R1:=λL'=>ae hB.r1 L'
   have R4:=λL'=>ae hB.r4 L'
   have gd:((bV V.o.toNat (dY V.id q (fh one) msg)).map sC)[i]?=some (.raw (it (((bV V.o.toNat (dY V.id q (fh one) msg)).getD i 0:Nat):Int))):=by simp[sC,List.getD,pU,hi]
   have gc:((chunks one (pT V.o.toNat)).map aO)[i]?=some (.agg (.ar 32 L8) (bs (chunk one i))):=by simp[aO,chunks,hi]
   have hdi:=ww i
   have hci:=hck i hi
   have hcE:=(Nq i hi).trans (hclE i)
   have Sa:=hP.keep hB.k
   have hks:∀b,Ki V ml ⟨q,(i:Int),(((bV V.o.toNat (dY V.id q (fh one) msg)).getD i 0:Nat):Int)⟩=b->b=true->∀j,j<i+1->Ki V ml ⟨q,(j:Int),(((bV V.o.toNat (dY V.id q (fh one) msg)).getD j 0:Nat):Int)⟩=true:=by
    intro b hb J1 j hj
    by_cases e:j=i
    ·rw[e,hb,J1]
    ·exact hkn j (by omega)
   have kKn:=λa more k=>VX (rs++more) k (.ptr eW r [0]) V ⟨q,i,a⟩ (Sa.push more).rd hP.s.w.ok hokO (hP.s.tmS _)
   simp only[hP.s.kn]at kKn
   simp only[Rt]at r0 R0
   simp only[↓ah,aj,simprocAttr,aM,hh,f0,b0,r0,R0,r6,gd,H.kno,kKn]
   cases hb:Ki V ml ⟨q,(i:Int),(((bV V.o.toNat (dY V.id q (fh one) msg)).getD i 0:Nat):Int)⟩with
   |true=>
    simp only[↓ah,aj,simprocAttr,aM,hh,f1,aa8]
    exact hR _ _ ⟨by simp only[has,↓ah,aj,simprocAttr,hh],hB.mono (λp x _ hx=>a7 hx) (by rw[aao];omega),hks _ hb rfl⟩
   | false =>
    clear hks
    have hOa:=λo=>(hO o).1 i hi
    generalize (bV V.o.toNat (dY V.id q (fh one) msg)).getD i 0=a at*
    obtain⟨m,hm⟩:∃m,a+m=2^wT V.o.toNat-1:=⟨2^wT V.o.toNat-1-a,by omega⟩
    simp only[↓ah,aj,simprocAttr,aM,hh,f0,b0,r0,R0,R4,gc,aba,H.ch0,H.ch1]
    rw[<-hm]
    refine Y2 CH H.chC (Sa.push _) hq hi hm hci ?_ hb hOa ?_
    ·rw[<-hm,Dk,abE,show a+m-a=m by omega]at hcE
     exact hcE
    ·intro aa d k A B p x ML hF hG hN
     have hff:=hF.fits
     have g1:=ML _ _ (R1 _)
     simp only[↓ah,aj,simprocAttr,aM,hh,hff,g1,λX=>aD (y:=X) g1]
     exact hk _ _ k A B p x (((hB.k.trans (bG.app _ _)).trans ML).set (by omega) _) (hF.DE g1 (by decide) _) hG hN
  ·clear hh r0 r1 R0 R1 Sa hB OW Kr h18 Vv
   rintro env rs ⟨hh,hB,hkn⟩ R
   simp only[has]at hh
   have f0:((pT V.o.toNat:Int)<(pT V.o.toNat:Int))=False:=aax (by omega)
   obtain⟨ZB,hne2,sy⟩:=Y0 hP.s WO hn hkn
   have hcx:(ml.getD q.toNat ([],[])).2.length=32/\(ml.getD q.toNat ([],[])).1.length<=60:=by
    refine hP.s.cl _ ?_
    simp only[List.getD,aap ZB,acI]
    exact abz ZB
   have Sa:=hP.keep hB.k
   have r0:=hB.r0
   have R0:=λL'=>ae hB.r0 L'
   simp only[Rt]at r0 R0
   simp only[↓ah,aj,simprocAttr,aM,hh,f0,r0,R0,H.la0,H.la1]
   refine last_run CL Sa ZB ?_
   generalize ml.getD q.toNat ([],[])=x at*
   obtain⟨mx,cx⟩:=x
   simp only at hne2 sy hcx
   have r1:=hB.r1
   have R1:=λL'=>ae hB.r1 L'
   have R5:=λL'=>ae hB.r5 L'
   simp only[↓ah,aj,simprocAttr,aM,hh,r0,R0,R5,H.kms,kKd,H.WN]
   refine Eq.mpr (pR ((Sa.push _).ps e) (hP.ok e) (k:=eN 33153) (l:=[cx]) (aU.own (by rw[aK];rfl) _ rfl) (bk.dl (by rw[aK];rfl) rfl) (by simp[eN]) (by simp[hcx.1]) (by simp) _ q) ?_
   have tl:∀x:List (BitVec 8),x.length=32->(oc V.id q (eN 33153) [x]).length=54:=λx hx=>by
    simp only[oc,aao,eY,eN,abl,abn,aaL,hx,aaP,aaT];rfl
   have t1:=tl cx hcx.1
   have t2:=tl (fh one) WO
   generalize hT1:oc V.id q (eN 33153) [cx]=T1 at*
   have tk1:List.take T1.length (bs T1)=bs T1:=fT T1
   have Vb:(T1++mx).length<=1000000:=by rw[aao];omega
   have hlm2:(oc V.id q (eN 33153) [fh one]++msg).length<=1000000:=by rw[aao];omega
   have sl1:T1.length+mx.length=(T1++mx).length:=by rw[aao]
   have sl2:(oc V.id q (eN 33153) [fh one]).length+msg.length=(oc V.id q (eN 33153) [fh one]++msg).length:=by rw[aao]
   have hm':=hm
   simp only[↓ah,aj,simprocAttr,aM,hh,r0,R0,R5,H.kms,kKd,H.WN,tk1,aB,j3]
   refine⟨by omega,by omega,?_⟩
   refine Eq.mpr (pR ((Sa.push _).ps e) (hP.ok e) (k:=eN 33153) (l:=[fh one]) (aU.own (by rw[aK];rfl) _ rfl) (bk.dl (by rw[aK];rfl) rfl) (by simp[eN]) (by simp[WO]) (by simp) _ q) ?_
   generalize hT2:oc V.id q (eN 33153) [fh one]=T2 at*
   have tk2:List.take T2.length (bs T2)=bs T2:=fT T2
   have tkm:List.take msg.length (bs msg)=bs msg:=fT msg
   rcases hm with⟨e2,rfl⟩|⟨r2,e2,rfl,xf⟩
   rotate_left
   have Rm:=λL'=>ae (hB.k _ _ xf) L'
   simp only[↓ah,aj,simprocAttr,aM,hh,r0,R0,R5,Rm,tk1,tk2,tkm,aB,j3]
   rotate_left
   simp only[↓ah,aj,simprocAttr,aM,hh,r0,R0,R5,tk1,tk2,tkm,aB,j3]
   all_goals
    refine⟨by omega,by omega,?_⟩
    simp only[↓ah,aj,simprocAttr,aM,H.tw0,H.tw1,H.tw2]
    rw[Fe (A:=T1++mx) (B:=T2++msg) (by rw[aK];rfl) (by rw[aK];rfl) sl1 sl2 (by omega) (by omega)]
    have hlnB:=hB.ln
    simp only[fdD,↓ah,aj,simprocAttr,aM,hh,r1,R1,λL' X=>aD (y:=X) (R1 L')]
    refine hk _ _ 1 _ _ ⟨0#32,0,0⟩ qg ((hB.k.trans (bG.app _ _)).set (by omega) _) ⟨⟨_,_,rfl,.inr ⟨rs.length+7,false,by rw[sl1],?_⟩,.inr ⟨rs.length+10,false,by rw[sl2],?_⟩⟩,rfl,Vb,hlm2⟩ (.col hne2 sy) (λ_ o=>by have:=(hO o).2;omega)
    ·rw[az (by omega),aK];rfl
    ·rw[az (by omega),aK];rfl
  ·simp only[has,↓ah,aj,simprocAttr,hh]
 ·simp only[has,↓ah,aj,simprocAttr]
theorem ver_0{V:gu}{ml:mK}(h:PS V ml){msg sg:List (BitVec 8)}(hv:nU (cy V) msg sg=0):
  dM sg=0/\(pA sg).toNat<2/\oa sg=1/\Qy sg=V.o/\(lF sg).length=36+32*pT V.o.toNat/\
   dI V.id (pA sg+1#32<<<1) (dZ V.id (pA sg+1#32<<<1) (zo V.o.toNat ⟨V.id,pA sg⟩ V.aF)) (jW V (pA sg).toNat) 1=dI V.id (pA sg+1#32<<<1) (dZ V.id (pA sg+1#32<<<1) (mH ⟨V.id,pA sg⟩ (lF sg) msg)) (iN sg 1) 1:=by
 have hr:=DO h.w
 have hre:Mu (cy V) sg=0:=by
  unfold nU at hv
  split at hv
  ·assumption
  ·exact hv
 have hrt:Yl (cy V) msg sg=V.ns.getD 1 []:=by
  unfold nU at hv
  rw[aaI hre,hr]at hv
  split at hv
  ·assumption
  ·exact absurd hv (by decide)
 unfold Mu at hre
 rw[hr]at hre
 simp only[ne_eq,not_true,abW]at hre
 have hpe:dM sg=0:=by
  by_cases c:dM sg=0
  ·exact c
  ·rw[aaI c]at hre;exact absurd hre c
 rw[aaA (not_not_intro hpe)]at hre
 have hto:K3 sg=V.t/\Qy sg=V.o:=by
  by_cases c:K3 sg=V.t/\Qy sg=V.o
  ·exact c
  ·rw[aaA c]at hre;exact absurd hre (by decide)
 have sO:oa sg=1:=by rw[oa,hto.1];exact h.h1
 obtain⟨_,_,_,hqs⟩:=yg hpe
 rw[sO,abb]at hqs
 have hq:(pA sg).toNat<2:=by omega
 have hon:=Jx hpe
 rw[oA,hto.2]at hon
 refine⟨hpe,hq,sO,hto.2,hon,?_⟩
 have hcr:=Kb h.w (q:=pA sg) (by rw[h.two];exact hq)
 rw[<-hrt,Yl,hr,sO,vH,vH,oS,h.w.pn (by rw[h.two];exact hq),h.h1,EW]at hcr
 exact hcr
def OwnS(V:gu)(ml:mK)(msg sg:List (BitVec 8)):Prop:=mH ⟨V.id,pA sg⟩ (lF sg) msg=zo V.o.toNat ⟨V.id,pA sg⟩ V.aF/\jW V (pA sg).toNat=iN sg 1/\
 (∀i:Nat,i<pT V.o.toNat->vaS V ⟨pA sg,i,(((bV V.o.toNat (dY V.id (pA sg) (fh (lF sg)) msg)).getD i 0:Nat):Int)⟩=chunk (lF sg) i)/\ml.length<=(pA sg).toNat
structure ExC (C CF CC CO CH CL:bf):Prop where
 of0:C.fn 87=none
 of1:C.fy 87=some (aQ CF 2 lj lh)
 ofC:OfC CF
 ver:C.fn 88=some yT
 sid:C.fn 33=some yU
 par:C.fn 89=some EV
 sit:C.fn 91=some yu
 clm:C.fn 90=some Jr
 bD:C.fn 39=some Dp
 cl0:C.fn 92=none
 cl1:C.fy 92=some (aQ CC 5 fM fL)
 clC:ClC CC
 on0:C.fn 93=none
 on1:C.fy 93=some (aQ CO 4 gA gz)
 onC:OnC CO CH CL
theorem Ry(C CF CC CO CH CL:bf)(H:ExC C CF CC CO CH CL){rows:Rows}{L:vI}{S:Sg}{ml:mK}(hS:ob rows L S)(hP:PS (S.v L) ml){dm ds:D}{msg sg:List (BitVec 8)}(hm:mw rows dm msg)(hs:mw rows ds sg)(H9:msg.length<=1000)(kf:sg.length<=1000000){K:D->Rows->Prop}
  (Zk:nU (cy (S.v L)) msg sg≠0->∀aa,bG rows aa->K (.cA [fd0,.raw (it (nU (cy (S.v L)) msg sg))]) aa)
  (M3:nU (cy (S.v L)) msg sg=0->msg∈ml.map (·.1)->∀aa,bG rows aa->K (.cA [fd0,.raw (it 7)]) aa)
  (hk3:nU (cy (S.v L)) msg sg=0->msg∉ml.map (·.1)->∀aa d k A B p x,bG rows aa->yx aa d k A B p x->Good (S.v L) ml k A B p x->(k=1->¬OwnS (S.v L) ml msg sg)->K (.cA [d,.raw (it 0)]) aa):
  aQ C 4 jP jO [.ptr eW L.r [0],.agg (.ar 32 L8) (bs S.aF),dm,ds] rows K:=by
 refine ag rfl ?_
 unfold jO jP
 simp only[dw]
 simp only[↓ah,aj,simprocAttr,aM,H.of0,H.of1]
 refine of_run CF H.ofC (hS.push _) hP ?_
 intro R1 rp e Ue hP1
 have g0:=Ue _ _ (by rw[bw];rfl:live (rows++_) rows.length=_)
 have g1:=Ue _ _ (by rw[aK];rfl:live (rows++_) (rows.length+1)=_)
 have hKr:=(bG.app _ _).trans Ue
 have pE:∀L',mw (R1++L') dm msg:=λL'=>hm.keep λp l hp=>a7 (hKr _ _ hp)
 have RU:∀L',mw (R1++L') ds sg:=λL'=>hs.keep λp l hp=>a7 (hKr _ _ hp)
 have hw0:=hP.w
 have tV:=jn hw0.ok
 have eY:(S.v L).id.length=16:=hP.w.id
 have n9:(S.v L).aF.length=32:=hP.w.sd
 have Rz:S.aF=(S.v L).aF:=rfl
 rw[Rz]at g0⊢
 have hok:=hP.okO
 have hv0:=λh=>ver_0 hP (msg:=msg) (sg:=sg) h
 have hps:=λL'=>(hP1.push L').ps e
 have hpk:=hP1.ok e
 have hrd:=λL'=>(hP1.push L').rd
 have OU:=λL'=>ae hP1.p L'
 have hsm:=hP.smS msg
 generalize S.v L=V at*
 have G0:=λL'=>ae g0 L'
 have G1:=λL'=>ae g1 L'
 have DW:=bb g1
 have kSd:=λL' k'=>QE (R1++L') k' (.ptr eW L.r [0]) _ V msg (hrd L') (pE L').bs hw0.ok hsm.1 (by omega)
 rw[hsm.2]at kSd
 have kSt:=λmore k=>UI (rows:=R1++more) (hps more) hpk k (pA sg)
 simp only[Rt]at kSt hps⊢
 simp only[↓ah,aj,simprocAttr,aM,g0,g1,G0,G1,H.ver]
 refine Eq.mpr (VU _ _ _ _ _ (cy V) msg sg (aU.own (OU _) _ tV.symm) (pE _).bs (RU _).bs (by omega) (by omega) (by omega)) ?_
 by_cases cv:nU (cy V) msg sg=0
 rotate_left
 ·have cv':(nU (cy V) msg sg=0)=False:=aax cv
  simp only[↓ah,aj,simprocAttr,aM,cv',g1,G1,aaw,aba,λL' X=>aD (y:=X) (G1 L')]
  exact Zk cv _ ((hKr.trans (bG.app _ _)).set (by omega) _)
 rw[cv]
 obtain⟨hpe,hq,sO,hlo,hon,hroot⟩:=hv0 cv
 simp only[↓ah,aj,simprocAttr,aM,g1,G1,H.sid,kSd]
 by_cases cs:msg∈ml.map (·.1)
 ·rw[aaY cs]
  simp only[↓ah,aj,simprocAttr,aM,g1,G1,λL' X=>aD (y:=X) (G1 L')]
  exact M3 cv cs _ ((hKr.trans (bG.app _ _)).set (by omega) _)
 rw[aaJ cs]
 simp only[↓ah,aj,simprocAttr,aM,g1,G1,H.par]
 refine Eq.mpr (kParts _ _ ds sg (RU _).bs (by omega) hpe) ?_
 have hlp:oA sg=pT V.o.toNat:=by rw[oA,hlo]
 have hpath:(iN sg 1).map aO=[.agg (.ar 32 L8) (bs (VQ sg 0))]:=rfl
 have hpc:(VQ sg 0).length=32:=Qz hpe _ (by rw[sO];exact .head _)
 have hpS:iN sg 1=[VQ sg 0]:=rfl
 have hsE:=Mv hpe
 have hsT:dJ (lF sg)=V.o:=by rw[<-hlo];exact one_T
 have hpt:pT V.o.toNat<=265:=(gI hok).2.2.1
 rw[sO,hlp,hpath]
 rw[hpS]at hroot
 have kPu:=λrows k=>VB rows k V.o ⟨V.id,pA sg⟩ V.aF eY n9 hok
 simp only[↓ah,aj,simprocAttr,aM,g0,g1,G0,G1,H.sit,kSt,H.clm]
 refine Eq.mpr (kClaim _ _ ⟨V.id,pA sg⟩ _ dm (lF sg) msg (aU.own (by rw[aK];rfl) _ hon.symm) (pE _).bs eY (by omega) hsE) ?_
 simp only[↓ah,aj,simprocAttr,aM,g0,g1,G0,G1,H.sit,kSt,H.bD,kPu,H.cl0,H.cl1]
 refine Y3 CC H.clC (hP1.push _) hq (cm _) (Jy _ _ _) hpc (by rw[show 1+(R1.length+1)=R1.length+2 by omega,aK];rfl) hroot (O:=OwnS V ml msg sg) (λo=>⟨o.1.symm,o.2.1⟩) ?_ ?_
 ·intro R2 d k A B p x ML hF hG hN
  have hff:=hF.fits
  have u1:=ML _ _ (G1 _)
  have U1:=λL'=>ae u1 L'
  simp only[↓ah,aj,simprocAttr,aM,hff,u1,U1,λL' X=>aD (y:=X) (U1 L')]
  exact hk3 cv cs _ d k A B p x (((hKr.trans (bG.app _ _)).trans (ML.trans (bG.app _ _))).set (by omega) _) ((hF.keep (bG.app _ _)).DE (U1 _) (by decide) _) hG hN
 ·intro hoc R2 ML
  have u0:=ML R1.length _ (by rw[bw];rfl)
  have u2:=ML (R1.length+1) _ (by rw[aK];rfl)
  have u1:=ML _ _ (G1 _)
  have U0:=λL'=>ae u0 L'
  have U1:=λL'=>ae u1 L'
  have hK3:=(bG.app R1 _).trans ML
  simp only[fd0,↓ah,aj,simprocAttr,aM,u0,U0,u1,U1,H.on0,H.on1]
  refine once_run CO CH CL H.onC (hP1.keep (hK3.trans (bG.app _ _))) hq (ae u2 _) hon.symm ((pE []).keep λp l hp=>a7 (hK3 _ _ (by simpa using hp))) (by omega) H9 hsT hsE hoc.symm cs (O:=OwnS V ml msg sg) (λo=>o.2.2) ?_
  intro R3 d k A B p x hK4 hF hG hN
  have hff:=hF.fits
  have w1:=hK4 _ _ (U1 _)
  have W1:=λL'=>ae w1 L'
  simp only[↓ah,aj,simprocAttr,aM,hff,w1,W1,λX=>aD (y:=X) w1]
  exact hk3 cv cs _ d k A B p x ((((hKr.trans hK3).trans (bG.app _ _)).trans hK4).set (by omega) _) (hF.DE w1 (by decide) _) hG hN
def psC(V:gu)(aF:List (BitVec 8))(rp:Nat)(e:Bool):D:= .agg SPs [jM V,.sl L8 rp [] 0 56 e,.agg (.ar 16 L8) (bs V.id),.raw (u32 V.o),.agg (.ar 32 L8) (bs aF)]
theorem psC_rd{rows:Rows}{V:gu}{aF:List (BitVec 8)}{rp:Nat}(e:Bool)(hp:jt V=true)(hl:live rows rp=some ⟨L8,bs (cy V)⟩):bk rows (bx Kj) (psC V aF rp e) ⟨jM V,.cI L8 (bs (cy V)) e,V.id,V.o,aF⟩:=by
 have hlen:=jn hp
 have hn:=lR (dG.1 hp).2.2.2.2.2.2
 have el:elems rows (.sl L8 rp [] 0 56 e)=some (bs (cy V)):=by
  simp only[elems,hl]
  rw[abi,aaq (by rw[aB,hlen];exact aaz _)]
 have hb:(bs (cy V)).length=56:=by rw[aB,hlen]
 have hv:view rows 9 (psC V aF rp e)=some (Kj ⟨jM V,.cI L8 (bs (cy V)) e,V.id,V.o,aF⟩):=by
  unfold psC Kj
  rw[qU]
  have e1:view rows 8 (jM V)=some (jM V):=by
   show(bif aR (.agg eW _)then none else some (jM V))=some (jM V)
   rw[show aR (.agg eW [.raw (u32 V.t),.raw (u32 V.o),.agg (.ar 16 L8) (bs V.id),.agg (.ar 32 L8) (bs V.aF),.cI (.ar 32 L8) (V.ns.map aO) V.en,.raw (u32 V.nx),.om Bn V.sm,.om Dt V.tm,V.ld])=false from hn]
   rfl
  have e2:view rows 8 (.sl L8 rp [] 0 56 e)=some (.cI L8 (bs (cy V)) e):=by
   rw[Vl,el]
   simp[hb,Sh.pure]
  have e3:view rows 8 (.agg (.ar 16 L8) (bs V.id))=some (.agg (.ar 16 L8) (bs V.id)):=by rw[qU];rfl
  have e4:view rows 8 (.raw (u32 V.o))=some (.raw (u32 V.o)):=rfl
  have e5:view rows 8 (.agg (.ar 32 L8) (bs aF))=some (.agg (.ar 32 L8) (bs aF)):=by rw[qU];rfl
  simp only[dU,e1,e2,e3,e4,e5]
  rfl
 refine⟨⟨_,hv,br OL _⟩,λh=>?_⟩
 simp[psC,aR,aW,Sh.pure,hn]at h
theorem psC_ok{V:gu}{aF:List (BitVec 8)}(e:Bool)(hp:jt V=true)(hs:aF.length=32):Fb ⟨jM V,.cI L8 (bs (cy V)) e,V.id,V.o,aF⟩=true:=by
 have h1:=(dG.1 hp).1
 have h3:=lR (dG.1 hp).2.2.2.2.2.2
 simp only[Fb,h1,hs,h3,aav,abA]
 rfl
theorem kPublicC(rows:Rows)(k:D->Rows->Prop)(s:gu)(hp:jt s=true):aI uP rows k [jM s]=k (.sl L8 (0+rows.length) [] 0 56 false) (rows++[some ⟨L8,bs (cy s)⟩]):=by
 refine(a9 (by simp[aW,lR (dG.1 hp).2.2.2.2.2.2]) (eK (br qw s) hp)).trans ?_
 simp[dF,shift,ab,Sh.pure,jn hp]
theorem of_runD(C:bf)(H:OfC C){rows:Rows}{V:gu}{aF:List (BitVec 8)}(hp:jt V=true){K:D->Rows->Prop}
  (hk:∀R' rp,bG rows R'->live R' rp=some ⟨L8,bs (cy V)⟩->K (psC V aF rp false) R'):
  aQ C 2 lj lh [jM V,.agg (.ar 32 L8) (bs aF)] rows K:=by
 refine ag rfl ?_
 unfold lh lj
 have kPub:=λrows k'=>kPublicC rows k' V hp
 have hlen:=jn hp
 have hidl:=(dG.1 hp).1
 have eY:=Uu hidl
 simp only[↓ah,aj,simprocAttr,aM,H.bD,kPub]
 simp only[eP,dO,eY,aB,H.num]
 refine⟨hidl,?_⟩
 have e4:((cy V).drop 4).take 52=(cy V).drop 4:=aaq (by rw[aar,hlen];decide)
 refine Eq.mpr (kLNum _ _ _ _ (aU.sub (by rw[aK];rfl) (by rw[hlen];decide)) (by rw[e4,aar,hlen];decide)) ?_
 rw[e4,pub_o]
 simp only[↓ah,aj,simprocAttr,aM]
 exact hk _ (rows.length+2) (bG.app _ _) (by rw[aK];rfl)
noncomputable def Lb:D->Option (Option gu):=λd=>match d with
 | .raw (.pointer none)=>some none
 |d=>(bx jM d).map some
theorem MR{d:D}{s:Option gu}(h:Lb d=some s):(d= .raw (.pointer none)/\s=none)\/∃V,d=jM V/\s=some V:=by
 unfold Lb at h
 split at h
 ·cases h;exact .inl ⟨rfl,rfl⟩
 ·obtain⟨V,hV,rfl⟩:=acT.1 h
  exact .inr ⟨V,aE hV,rfl⟩
theorem WQ(V:gu):Lb (jM V)=some (some V):=by
 have:Lb (jM V)=(bx jM (jM V)).map some:=rfl
 rw[this,br qw];rfl
theorem bk.so{rows:Rows}{d:D}{V:gu}(h:bk rows (bx jM) d V):bk rows Lb d (some V):=by
 obtain⟨⟨d',h1,h2⟩,h3⟩:=h
 refine⟨⟨d',h1,?_⟩,λhr=>?_⟩
 ·rw[aE h2];exact WQ V
 ·rw[aE (h3 hr)];exact WQ V
theorem bk.soN{rows:Rows}:bk rows Lb (.raw (.pointer none)) none:=bk.raw rfl
def RC:Option gu->Bool
 |none=>true
 |some V=>jt V&&sr V.o.toNat
def yy(V:gu)(p:Bp):Bool:=decide (p.q.toNat<iO V)&&(Bk p.i (pT V.o.toNat:Int)&&Bk p.j ((2^wT V.o.toNat:Nat):Int))
def OM(V:gu)(x:List (BitVec 8))(p:Bp):List (BitVec 8):=bif yy V p then UJ V.id x p else qg
def MS:Option gu->List (BitVec 8)->Bp->D
 |none,_,_=> .cA [aO qg,.raw (.bool false)]
 |some V,x,p=> .cA [aO (OM V x p),.raw (.bool (yy V p))]
noncomputable def WR:Fn:=GY Lb (bx aO) (bx ju) (λs x _=>RC s&&decide (x.length=32)) λs x p=>(MS s x p,[])
structure VaC (C CF:bf):Prop where
 pat:C.fn 113=some Gb
 of0:C.fn 87=none
 of1:C.fy 87=some (aQ CF 2 lj lh)
 ofC:OfC CF
 par:C.fn 37=some j8
 val:C.fn 152=some MQ
theorem kPathC0(rows:Rows)(k:D->Rows->Prop)(s:gu)(q:BitVec 32)(hp:jt s=true)(hq:¬q.toNat<iO s):aI Gb rows k [jM s,.raw (u32 q)]=k (.raw (.slice none 0 0)) rows:=by
 refine(a9 (by simp[aW,lR (dG.1 hp).2.2.2.2.2.2,aR]) (gR (br qw s) (eO q) hp)).trans ?_
 simp only[aaA hq]
 simp[shift,ab]
theorem val7_ok(C CF:bf)(hC:aJ C P)(H:VaC C CF):aN C.aX P 96 (Fn.run WR):=by
 refine aG (KP C hC) λds rows r h=>?_
 obtain⟨d0,d1,d2,s,x,p,rfl,rfl,g0,g1,g2,hp,rfl⟩:=fp h
 cases aE g1
 cases aE g2
 simp only[aan,aat]at hp
 obtain⟨hs,hx⟩:=hp
 refine⟨rfl,ag rfl ?_⟩
 have n9:=MR g0
 clear h g0 g1 g2
 unfold zZ z8
 simp only[dw]
 rcases n9 with⟨rfl,rfl⟩|⟨V,rfl,rfl⟩
 ·simp only[aO,ju,↓ah,aj,simprocAttr,aM,Dw]
  exact .val _ rfl
 ·simp only[RC,aan]at hs
  obtain⟨hok,hot⟩:=hs
  have hz:D.agg pz [.raw (it 0),.raw (it 0),.raw (it 0)]=ib ⟨0,0,0⟩:=rfl
  have gw0:(ib (lC V.o.toNat)).get [0]=some (.raw (it (wT V.o.toNat:Int))):=rfl
  have gw1:(ib (lC V.o.toNat)).get [1]=some (.raw (it (pT V.o.toNat:Int))):=rfl
  have hw:=(gI hot).1
  have hpw:2^wT V.o.toNat<=256:=EQ hw
  have hpt:pT V.o.toNat<=265:=(gI hot).2.2.1
  have hw8:wT V.o.toNat<=8:=by rcases Ax.1 hw with h|h|h|h<;>(have h':wT V.o.toNat=_:=h;omega)
  have hsh:=Oc 1 (wT V.o.toNat) (by decide) (by omega)
  rw[Nat.one_mul,show((1:Nat):Int)=1 from rfl]at hsh
  obtain⟨pq,pi,pj⟩:=p
  have kP:=λrows k hq=>kPathC rows k V pq hok hq
  have kP0:=λrows k hq=>kPathC0 rows k V pq hok hq
  have V4:=Mw hok pq.toNat
  have hsg:∃l,jM V= .cd l:=⟨_,rfl⟩
  unfold MS OM yy
  simp only[hz]
  by_cases cq:pq.toNat<iO V
  rotate_left
  ·simp only[aaJ cq,abQ,aaM]
   have kP0:=λrows k=>kP0 rows k cq
   unfold jM at kP0⊢
   simp only[aO,ju,↓ah,aj,simprocAttr,aM,H.pat,kP0]
   exact .val _ rfl
  ·simp only[aaY cq,abA]
   have kP:=λrows k=>kP rows k cq
   have en:(gD V pq.toNat=0)=False:=aax (by omega)
   have hof:=λrows K=>of_runD CF H.ofC (rows:=rows) (V:=V) (aF:=x) (K:=K) hok
   unfold jM at kP⊢
   simp only[aO,ju,↓ah,aj,simprocAttr,aM,H.pat,kP,en,H.of0,H.of1]
   refine⟨λh=>h.elim,hof _ _ ?_⟩
   intro R' rp hK hl
   have q1:=hK 1 _ rfl
   have q2:=hK 2 _ rfl
   have Q1:=λL'=>ae q1 L'
   have Q2:=λL'=>ae q2 L'
   clear hK hof kP kP0
   have kV:=λ(p:Bp) L' k hi hj=>kValP (rows:=R'++L') (psC_rd false hok (aF:=x) (ae hl L')) (psC_ok false hok hx) k p hi hj
   have fin:∀(R:Rows) (b:Bool) (y:List (BitVec 8)),wF R (.cA [.agg (.ar 32 L8) (bs y),.raw (.bool b)]) (.cA [.agg (.ar 32 L8) (bs y),.raw (.bool b)]) []:=λR b y=> .val _ rfl
   unfold psC ju at kV
   unfold psC
   simp only[↓ah,aj,simprocAttr,aM,q1,Q1,H.par,jJ,cL,gw0,gw1]
   have i1:(Bk pi (pT V.o.toNat:Int)&&Bk pj ((2^wT V.o.toNat:Nat):Int))=true↔(0<=pi/\pi<(pT V.o.toNat:Int))/\0<=pj/\pj<((2^wT V.o.toNat:Nat):Int):=by rw[aan,rS,rS]
   by_cases a1:pi<0
   ·have e0:(Bk pi (pT V.o.toNat:Int)&&Bk pj ((2^wT V.o.toNat:Nat):Int))=false:=adV.2 λh=>by have:=i1.1 h;omega
    simp only[↓ah,aj,simprocAttr,aM,aas a1,aav,q2,Q2,e0,λL' X=>aD (y:=X) (Q2 L')]
    exact fin _ _ _
   by_cases a2:(pT V.o.toNat:Int)<=pi
   ·have e0:(Bk pi (pT V.o.toNat:Int)&&Bk pj ((2^wT V.o.toNat:Nat):Int))=false:=adV.2 λh=>by have:=i1.1 h;omega
    simp only[↓ah,aj,simprocAttr,aM,aax a1,aas a2,gw0,gw1,q1,Q1,aav,aaw,q2,Q2,e0,λL' X=>aD (y:=X) (Q2 L')]
    exact fin _ _ _
   by_cases a3:pj<0
   ·have e0:(Bk pi (pT V.o.toNat:Int)&&Bk pj ((2^wT V.o.toNat:Nat):Int))=false:=adV.2 λh=>by have:=i1.1 h;omega
    simp only[↓ah,aj,simprocAttr,aM,aax a1,aax a2,aas a3,gw0,gw1,q1,Q1,aav,aaw,q2,Q2,e0,λL' X=>aD (y:=X) (Q2 L')]
    exact fin _ _ _
   by_cases a4:((2^wT V.o.toNat:Nat):Int)<=pj
   ·have e0:(Bk pi (pT V.o.toNat:Int)&&Bk pj ((2^wT V.o.toNat:Nat):Int))=false:=adV.2 λh=>by have:=i1.1 h;omega
    simp only[↓ah,aj,simprocAttr,aM,aax a1,aax a2,aax a3,aas a4,hsh,gw0,gw1,q1,Q1,aav,aaw,q2,Q2,e0,λL' X=>aD (y:=X) (Q2 L')]
    exact fin _ _ _
   have e0:(Bk pi (pT V.o.toNat:Int)&&Bk pj ((2^wT V.o.toNat:Nat):Int))=true:=i1.2 (by omega)
   have kV:=λL' k=>kV ⟨pq,pi,pj⟩ L' k (by simp only;omega) (by simp only;omega)
   simp only at kV
   simp only[↓ah,aj,simprocAttr,aM,aax a1,aax a2,aax a3,aax a4,hsh,gw0,gw1,q1,Q1,aav,aaw,H.val,kV,q2,Q2,e0,λL' X=>aD (y:=X) (Q2 L')]
   exact fin _ _ _
end jU
end Go.Am

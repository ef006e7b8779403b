import Derived.Test.YtcmafnfakehjgaaGreatDoorKi7
set_option linter.unusedSimpArgs false
set_option linter.unusedVariables false
set_option maxRecDepth 10000
set_option maxHeartbeats 4000000
namespace Go.Am
attribute [local congr] cJ bI cK bJ bK b6 bw bN bO b7 bi b8 bP cI
namespace kj
open Go.Am.F
theorem QG(m b:Nat)(kd:IntKind)(hb:b<=64)(hm:m*2^b<9223372036854775808)(k:D->Prop):cm .shl (it (m:Int)) (.int kd (b:Int)) k=k (.raw (it ((m*2^b:Nat):Int))):=by
 have e:IntKind.i64.wrap ((m:Int)*2^(min (b:Int).toNat IntKind.i64.bits))=((m*2^b:Nat):Int):=by
  have:min (b:Int).toNat IntKind.i64.bits=b:=by show min (b:Int).toNat 64=b;omega
  rw[this,show((2:Int)^b)=((2^b:Nat):Int) by simp,<-adj]
  exact bh (by omega)
 simp only[cm,it]
 rw[e]
 simp
def w4(w:Nat):Bool:=decide (w=1)||decide (w=2)||decide (w=4)||decide (w=8)
theorem Mo{w:Nat}:w4 w=true↔w=1\/w=2\/w=4\/w=8:=by simp[w4];omega
noncomputable def Yf:Fn:=nv (cj kq) (λx=>w4 x.w) λx=>(.raw (it ((2^x.w-1:Nat):Int)),[])
theorem end_ok(C:aU)(hC:aI C P):aQ C.aZ P 119 (Fn.run Yf):=by
 refine aJ (GI C hC) λds rows r h=>?_
 obtain⟨d,x,rfl,rfl,hd,hp,rfl⟩:=bd h
 cases aH hd
 have hp:=Mo.1 hp
 refine⟨rfl,ae rfl ?_⟩
 clear h hd
 unfold wu wv
 obtain⟨w,p,l⟩:=x
 have hf:∀x,(kq x).fits si=true:=λx=>rfl
 have Sw:∀w p l,(kq ⟨w,p,l⟩).get [0]=some (.raw (it (w:Int))):=λw p l=>rfl
 have s1:∀k,cm .shl (it 1) (it 1) k=k (.raw (it 2)):=λk=>QG 1 1 .i64 (by decide) (by decide) k
 have s2:∀k,cm .shl (it 1) (it 2) k=k (.raw (it 4)):=λk=>QG 1 2 .i64 (by decide) (by decide) k
 have s4:∀k,cm .shl (it 1) (it 4) k=k (.raw (it 16)):=λk=>QG 1 4 .i64 (by decide) (by decide) k
 have s8:∀k,cm .shl (it 1) (it 8) k=k (.raw (it 256)):=λk=>QG 1 8 .i64 (by decide) (by decide) k
 rcases hp with rfl|rfl|rfl|rfl
 ·simp only[↓ag,ah,simprocAttr,aK,hf,Sw,s1]
  exact .val _ rfl
 ·simp only[↓ag,ah,simprocAttr,aK,hf,Sw,s2]
  exact .val _ rfl
 ·simp only[↓ag,ah,simprocAttr,aK,hf,Sw,s4]
  exact .val _ rfl
 ·simp only[↓ag,ah,simprocAttr,aK,hf,Sw,s8]
  exact .val _ rfl
theorem kEnd(rows:Rows)(k:D->Rows->Prop)(x:Par)(h:w4 x.w=true):aG Yf rows k [kq x]=k (.raw (it ((2^x.w-1:Nat):Int))) rows:=by
 refine(cL (rdIn_par x) h rfl k).trans ?_
 simp[shift,af]
def tv(p:List (BitVec 8))(i w:Nat):Nat:=((p.getD (i/(8/w)) 0#8>>>(8-w*(i %(8/w))-w))&&&BitVec.ofNat 8 (2^w-1)).toNat
def ic(p:List (BitVec 8))(i w:Int):Int:=if(w=1\/w=2\/w=4\/w=8)/\0<=i/\i<(p.length*(8/w.toNat):Nat)then(tv p i.toNat w.toNat:Int)else 0
def QI:Fn:=Kx eP u9 u9 (λp _ _=>decide (p.length<=1099511627776)) λp i w=>(.raw (it (ic p i w)),[])
theorem coef_ok(C:aU)(hC:aI C P):aQ C.aZ P 131 (Fn.run QI):=by
 refine aJ (Tq C hC) λds rows r h=>?_
 obtain⟨d,d1,d2,p,i,w,rfl,rfl,g0,g1,g2,hp,rfl⟩:=fV h
 have gb:=fC g0
 cases bX g1
 cases bX g2
 simp only[aaq]at hp
 refine⟨rfl,ae rfl ?_⟩
 clear h g0 g1 g2
 have mH:=gb.dW
 unfold IG II
 have hfit:d.fits .ref=true:=by rcases gb with⟨rfl,_⟩|⟨e,rfl⟩<;>rfl
 by_cases c4:w=4
 ·subst c4
  by_cases h0:i<0
  ·have EZ:(i<0)=True:=aas h0
   have hz:ic p i 4=0:=by rw[ic,aaC (λh=>by omega)]
   rw[hz]
   simp only[↓ag,ah,simprocAttr,mH,EZ,aaD]
   exact .val _ rfl
  have EZ:(i<0)=False:=aaw h0
  obtain⟨i,rfl⟩:=aaH (aeo.1 h0)
  have h84:wz (Int.tdiv 8 4)=2:=by decide
  have hm:wz ((p.length:Int)*2)=((p.length*2:Nat):Int):=by rw[bh (by omega)];omega
  by_cases hc:i<p.length*2
  ·have eX:(((p.length*2:Nat):Int)<=(i:Int))=False:=aaw (by omega)
   have hz:ic p (i:Int) 4=(tv p i 4:Int):=by
    rw[ic,aaJ ⟨by decide,by omega,by show(i:Int)<((p.length*2:Nat):Int);omega⟩]
    rfl
   have hr:i %2<2:=ac0 _ (by decide)
   have q1:wz ((i:Int).tdiv 2)=((i/2:Nat):Int):=by rw[ab6 (by omega),bh (by omega)];omega
   have q2:(i:Int).tmod 2=((i %2:Nat):Int):=by rw[abN (by omega)];omega
   have q3:wz (4*((i %2:Nat):Int))=((4*(i %2):Nat):Int):=by rw[bh (by omega)];omega
   have q4:wz (8-((4*(i %2):Nat):Int))=((8-4*(i %2):Nat):Int):=by rw[bh (by omega)];omega
   have q5:wz (((8-4*(i %2):Nat):Int)-4)=((8-4*(i %2)-4:Nat):Int):=by rw[bh (by omega)];omega
   have b0:∀n:Nat,((0:Int)<=(n:Int))=True:=λn=>aas (by omega)
   have ki:=λk=>hJ (k:=k) (rows:=([]:Rows)) (n:=((i/2:Nat):Int)) gb (by have:i/2<p.length:=acX (by rw[adg];exact hc);omega)
   rw[hz]
   simp only[↓ag,ah,simprocAttr,mH,EZ,h84,hm,eX,q1,q2,q3,q4,q5,b0,ki,aaE,aaz]
   exact .val _ rfl
  ·have eX:(((p.length*2:Nat):Int)<=(i:Int))=True:=aas (by omega)
   have hz:ic p (i:Int) 4=0:=by
    rw[ic,aaC (λh=>by have h2:(i:Int)<((p.length*2:Nat):Int):=h.2.2;omega)]
   rw[hz]
   simp only[↓ag,ah,simprocAttr,mH,EZ,h84,hm,eX,aaD,aaE]
   exact .val _ rfl
 have n4:(w=4)=False:=aaw c4
 by_cases c1:w=1
 ·subst c1
  by_cases h0:i<0
  ·have EZ:(i<0)=True:=aas h0
   have hz:ic p i 1=0:=by rw[ic,aaC (λh=>by omega)]
   rw[hz]
   simp only[↓ag,ah,simprocAttr,mH,EZ,aaD]
   exact .val _ rfl
  have EZ:(i<0)=False:=aaw h0
  obtain⟨i,rfl⟩:=aaH (aeo.1 h0)
  have h81:wz (Int.tdiv 8 1)=8:=by decide
  have hm:wz ((p.length:Int)*8)=((p.length*8:Nat):Int):=by rw[bh (by omega)];omega
  by_cases hc:i<p.length*8
  ·have eX:(((p.length*8:Nat):Int)<=(i:Int))=False:=aaw (by omega)
   have hz:ic p (i:Int) 1=(tv p i 1:Int):=by
    rw[ic,aaJ ⟨by decide,by omega,by show(i:Int)<((p.length*8:Nat):Int);omega⟩]
    rfl
   have hr:i %8<8:=ac0 _ (by decide)
   have q1:wz ((i:Int).tdiv 8)=((i/8:Nat):Int):=by rw[ab6 (by omega),bh (by omega)];omega
   have q2:(i:Int).tmod 8=((i %8:Nat):Int):=by rw[abN (by omega)];omega
   have q3:wz (1*((i %8:Nat):Int))=((1*(i %8):Nat):Int):=by rw[bh (by omega)];omega
   have q4:wz (8-((1*(i %8):Nat):Int))=((8-1*(i %8):Nat):Int):=by rw[bh (by omega)];omega
   have q5:wz (((8-1*(i %8):Nat):Int)-1)=((8-1*(i %8)-1:Nat):Int):=by rw[bh (by omega)];omega
   have b0:∀n:Nat,((0:Int)<=(n:Int))=True:=λn=>aas (by omega)
   have ki:=λk=>hJ (k:=k) (rows:=([]:Rows)) (n:=((i/8:Nat):Int)) gb (by have:i/8<p.length:=acX (by rw[adg];exact hc);omega)
   rw[hz]
   simp only[↓ag,ah,simprocAttr,mH,EZ,h81,hm,eX,q1,q2,q3,q4,q5,b0,ki,aaE,aaz]
   exact .val _ rfl
  ·have eX:(((p.length*8:Nat):Int)<=(i:Int))=True:=aas (by omega)
   have hz:ic p (i:Int) 1=0:=by
    rw[ic,aaC (λh=>by have h2:(i:Int)<((p.length*8:Nat):Int):=h.2.2;omega)]
   rw[hz]
   simp only[↓ag,ah,simprocAttr,mH,EZ,h81,hm,eX,aaD,aaE]
   exact .val _ rfl
 have n1:(w=1)=False:=aaw c1
 by_cases c2:w=2
 ·subst c2
  by_cases h0:i<0
  ·have EZ:(i<0)=True:=aas h0
   have hz:ic p i 2=0:=by rw[ic,aaC (λh=>by omega)]
   rw[hz]
   simp only[↓ag,ah,simprocAttr,mH,EZ,aaD]
   exact .val _ rfl
  have EZ:(i<0)=False:=aaw h0
  obtain⟨i,rfl⟩:=aaH (aeo.1 h0)
  have h82:wz (Int.tdiv 8 2)=4:=by decide
  have hm:wz ((p.length:Int)*4)=((p.length*4:Nat):Int):=by rw[bh (by omega)];omega
  by_cases hc:i<p.length*4
  ·have eX:(((p.length*4:Nat):Int)<=(i:Int))=False:=aaw (by omega)
   have hz:ic p (i:Int) 2=(tv p i 2:Int):=by
    rw[ic,aaJ ⟨by decide,by omega,by show(i:Int)<((p.length*4:Nat):Int);omega⟩]
    rfl
   have hr:i %4<4:=ac0 _ (by decide)
   have q1:wz ((i:Int).tdiv 4)=((i/4:Nat):Int):=by rw[ab6 (by omega),bh (by omega)];omega
   have q2:(i:Int).tmod 4=((i %4:Nat):Int):=by rw[abN (by omega)];omega
   have q3:wz (2*((i %4:Nat):Int))=((2*(i %4):Nat):Int):=by rw[bh (by omega)];omega
   have q4:wz (8-((2*(i %4):Nat):Int))=((8-2*(i %4):Nat):Int):=by rw[bh (by omega)];omega
   have q5:wz (((8-2*(i %4):Nat):Int)-2)=((8-2*(i %4)-2:Nat):Int):=by rw[bh (by omega)];omega
   have b0:∀n:Nat,((0:Int)<=(n:Int))=True:=λn=>aas (by omega)
   have ki:=λk=>hJ (k:=k) (rows:=([]:Rows)) (n:=((i/4:Nat):Int)) gb (by have:i/4<p.length:=acX (by rw[adg];exact hc);omega)
   rw[hz]
   simp only[↓ag,ah,simprocAttr,mH,EZ,h82,hm,eX,q1,q2,q3,q4,q5,b0,ki,aaE,aaz]
   exact .val _ rfl
  ·have eX:(((p.length*4:Nat):Int)<=(i:Int))=True:=aas (by omega)
   have hz:ic p (i:Int) 2=0:=by
    rw[ic,aaC (λh=>by have h2:(i:Int)<((p.length*4:Nat):Int):=h.2.2;omega)]
   rw[hz]
   simp only[↓ag,ah,simprocAttr,mH,EZ,h82,hm,eX,aaD,aaE]
   exact .val _ rfl
 have n2:(w=2)=False:=aaw c2
 by_cases c8:w=8
 ·subst c8
  by_cases h0:i<0
  ·have EZ:(i<0)=True:=aas h0
   have hz:ic p i 8=0:=by rw[ic,aaC (λh=>by omega)]
   rw[hz]
   simp only[↓ag,ah,simprocAttr,mH,EZ,aaD]
   exact .val _ rfl
  have EZ:(i<0)=False:=aaw h0
  obtain⟨i,rfl⟩:=aaH (aeo.1 h0)
  have h88:wz (Int.tdiv 8 8)=1:=by decide
  have hm:wz ((p.length:Int)*1)=((p.length*1:Nat):Int):=by rw[bh (by omega)];omega
  by_cases hc:i<p.length*1
  ·have eX:(((p.length*1:Nat):Int)<=(i:Int))=False:=aaw (by omega)
   have hz:ic p (i:Int) 8=(tv p i 8:Int):=by
    rw[ic,aaJ ⟨by decide,by omega,by show(i:Int)<((p.length*1:Nat):Int);omega⟩]
    rfl
   have hr:i %1<1:=ac0 _ (by decide)
   have q1:wz ((i:Int).tdiv 1)=((i/1:Nat):Int):=by rw[ab6 (by omega),bh (by omega)];omega
   have q2:(i:Int).tmod 1=((i %1:Nat):Int):=by rw[abN (by omega)];omega
   have q3:wz (8*((i %1:Nat):Int))=((8*(i %1):Nat):Int):=by rw[bh (by omega)];omega
   have q4:wz (8-((8*(i %1):Nat):Int))=((8-8*(i %1):Nat):Int):=by rw[bh (by omega)];omega
   have q5:wz (((8-8*(i %1):Nat):Int)-8)=((8-8*(i %1)-8:Nat):Int):=by rw[bh (by omega)];omega
   have b0:∀n:Nat,((0:Int)<=(n:Int))=True:=λn=>aas (by omega)
   have ki:=λk=>hJ (k:=k) (rows:=([]:Rows)) (n:=((i/1:Nat):Int)) gb (by have:i/1<p.length:=acX (by rw[adg];exact hc);omega)
   rw[hz]
   simp only[↓ag,ah,simprocAttr,mH,EZ,h88,hm,eX,q1,q2,q3,q4,q5,b0,ki,aaE,aaz]
   exact .val _ rfl
  ·have eX:(((p.length*1:Nat):Int)<=(i:Int))=True:=aas (by omega)
   have hz:ic p (i:Int) 8=0:=by
    rw[ic,aaC (λh=>by have h2:(i:Int)<((p.length*1:Nat):Int):=h.2.2;omega)]
   rw[hz]
   simp only[↓ag,ah,simprocAttr,mH,EZ,h88,hm,eX,aaD,aaE]
   exact .val _ rfl
 have n8:(w=8)=False:=aaw c8
 have hz:ic p i w=0:=by rw[ic,aaC (λh=>by omega)]
 rw[hz]
 simp only[↓ag,ah,simprocAttr,n1,n2,n4,n8,aaE,abT]
 exact .val _ rfl
theorem Yg{p:List (BitVec 8)}{i w:Nat}(hw:w4 w=true)(hi:i<p.length*(8/w)):ic p (i:Int) (w:Int)=(tv p i w:Int):=by
 have h:=Mo.1 hw
 rw[ic,aaJ ⟨by omega,by omega,by rw[aaz];omega⟩]
 simp
theorem kCoef(rows:Rows)(k:D->Rows->Prop)(d:D)(p:List (BitVec 8))(i w:Int)(hd:aY rows d p)(hp:p.length<=1099511627776):aG QI rows k [d,.raw (it i),.raw (it w)]=k (.raw (it (ic p i w))) rows:=by
 refine(gP (.bs hd) (bY.int i) (bY.int w) (by simp[hp]) rfl k).trans ?_
 simp[shift,af]
theorem kCoefN(rows:Rows)(k:D->Rows->Prop)(d:D)(p:List (BitVec 8))(i w:Nat)(hd:aY rows d p)(hp:p.length<=1099511627776)(hw:w4 w=true)(hi:i<p.length*(8/w)):aG QI rows k [d,.raw (it (i:Int)),.raw (it (w:Int))]=k (.raw (it (tv p i w:Int))) rows:=by
 rw[kCoef rows k d p i w hd hp,Yg hw hi]
theorem QJ(p:List (BitVec 8))(i w:Nat)(hw:w4 w=true):tv p i w<=2^w-1:=by
 have h:∀x:BitVec 8,(x&&&BitVec.ofNat 8 (2^w-1)).toNat<=2^w-1:=λx=>by
  rw[aej,aa2]
  refine aa3 Nat.and_le_right ?_
  exact Nat.mod_le _ _
 exact h _
def Dk(d:List (BitVec 8))(w:Nat):Nat->Nat
 |0=>0
 |n+1=>Dk d w n+(2^w-1-tv d n w)
theorem VJ(d:List (BitVec 8))(w n:Nat):Dk d w n<=n*(2^w-1):=by
 induction n with
 |zero=>simp[Dk]
 |succ n ih=>rw[Dk,adF];omega
def Jg(x:Par)(d:List (BitVec 8)):List (BitVec 8):=d++xb (Dk d x.w (256/x.w)*2^x.l)
def yp(x:Par)(d:List (BitVec 8))(n:Nat):List Nat:=(List.range n).map λi=>tv (Jg x d) i x.w
def gu(t:Nat)(d:List (BitVec 8)):List Nat:=yp (wX t) d (pT t)
def yq(n:Nat):D:= .raw (it (n:Int))
def outI(l:List Nat):D×Rows:=(.sl LI 0 [] 0 l.length false,[some ⟨LI,l.map yq⟩])
def parOK(x:Par):Prop:=w4 x.w=true/\x.p<=34*(8/x.w)/\x.p<=265/\256/x.w*(2^x.w-1)*2^x.l<65536/\x.l<=7/\256/x.w<=32*(8/x.w)
theorem mI{t:Nat}(h:vi t=true):parOK (wX t):=by
 simp only[vi,aan,aaq]at h
 have:t=1\/t=2\/t=3\/t=4:=by omega
 rcases this with rfl|rfl|rfl|rfl<;>exact⟨by decide,by decide,by decide,by decide,by decide,by decide⟩
theorem tdivN(a b:Nat)(ha:a<9223372036854775808):wz ((a:Int).tdiv (b:Int))=((a/b:Nat):Int):=by
 have h:a/b<=a:=adB _ _
 rw[ab6 (by omega),<-ads]
 generalize a/b=c at*
 exact bh (by omega)
theorem jy.VK{s:Sh}{d:D}{rows:Rows}{els:List D}(h:jy s d rows els)(hs:s.pure=true):xE rows d (.sl s 0 [] 0 els.length false) [some ⟨s,els⟩]:=by
 rcases h with⟨rfl,rfl⟩|⟨r,ex,rfl,h⟩
 ·exact .nil0 s
 ·exact .own s r 0 _ ex false _ h hs (λh=>by cases h)
theorem app_arr{rows:Rows}{r i len:Nat}{q:List Nat}{old news:List D}{k:D->Rows->Prop}(he:elems rows (.sl L8 r (i::q) 0 len true)=some old)(hn:old.length=len)(hne:news.length≠0)(hb:len+news.length<=most)
  (hk:k (.sl L8 rows.length [] 0 (len+news.length) false) (rows++[some ⟨L8,old++news⟩])):xh rows L8 1 (.sl L8 r (i::q) 0 len true) news k:=by
 unfold xh
 rw[he]
 refine⟨rfl,hn,by rw[Nat.mul_one];exact hb,hb,?_⟩
 exact⟨rfl,λh=>absurd h hne,λ_=>hk⟩
noncomputable def zh:Fn:=zy ry (cj aV) (λ_ d=>decide (d.length=32)) λt d=>outI (bif vi t.toNat then gu t.toNat d else[])
theorem Yh(C:aU)(hC:aI C P)(h1:C.fn 49=some nS)(h2:C.fn 119=some Yf)(h3:C.fn 131=some QI)(h4:C.fn 132=some TO):aQ C.aZ P 75 (Fn.run zh):=by
 refine aJ (ND C hC) λds rows r h=>?_
 obtain⟨d0,d1,t,d,rfl,rfl,g0,g1,hp,rfl⟩:=dS h
 cases dY g0
 cases aH g1
 simp only[aaq]at hp
 refine⟨rfl,ae rfl ?_⟩
 clear h g0 g1
 unfold Cf Cg
 have hz:D.agg si [.raw (it 0),.raw (it 0),.raw (it 0)]=kq ⟨0,0,0⟩:=rfl
 simp only[hz]
 cases hk:vi t.toNat
 ·have kP:=λrows k=>pi rows k t
  rw[hk]at kP
  simp only[↓ag,ah,simprocAttr,aK,aV,h1,kP,dC,abT,aaK]
  exact .nil0 _
 ·have kP:=λrows k=>pi rows k t
  have hx:=mI hk
  have hpt:pT t.toNat=(wX t.toNat).p:=rfl
  rw[gu,hpt]
  rw[hk]at kP
  generalize wX t.toNat=x at*
  obtain⟨hw,Bb,qL,hs,hl,uO⟩:=hx
  have kE:=λrows k=>kEnd rows k x hw
  have g0:(kq x).get [0]=some (.raw (it (x.w:Int))):=rfl
  have g1:(kq x).get [1]=some (.raw (it (x.p:Int))):=rfl
  have g2:(kq x).get [2]=some (.raw (it (x.l:Int))):=rfl
  have q1:wz (Int.tdiv 256 (x.w:Int))=((256/x.w:Nat):Int):=tdivN 256 x.w (by decide)
  have hw0:((x.w:Int)=0)=False:=aaw (by have:=Mo.1 hw;omega)
  have hw0':((x.w:Int)≠0)=True:=aas (by have:=Mo.1 hw;omega)
  simp only[↓ag,ah,simprocAttr,aK,aV,h1,kP,dC,g0,q1,hw0,hw0',abw,aaU]
  have hpw:2^x.w<=256:=by rcases Mo.1 hw with h|h|h|h<;>rw[h]<;>decide
  have h256:256/x.w<=256:=adB _ _
  have b0:∀n:Nat,((0:Int)<=(n:Int))=True:=λn=>aas (by omega)
  refine bx (256/x.w) (λi env rows=>has env [(22,.raw (it (i:Int))),(21,.raw (it ((256/x.w:Nat):Int))),(7,.raw (it (Dk d x.w i:Int))),(5,.ptr si 1 [0]),(3,.ptr (.ar 32 L8) 0 [0])]/\
   rows=[some ⟨.ar 32 L8,[.agg (.ar 32 L8) (bs d)]⟩,some ⟨si,[kq x]⟩]) ?_ ?_ ⟨?_,rfl⟩
  ·rintro i hi env rows ⟨hh,rfl⟩ R hR
   simp only[has]at hh
   have e0:((i:Int)<((256/x.w:Nat):Int))=True:=aas (by omega)
   have e1:=cG i (by omega)
   have hc:=QJ d i x.w hw
   have mH:=VJ d x.w i
   have hsl2:i*(2^x.w-1)<=256*255:=Nat.mul_le_mul (by omega) (by omega)
   have kc:=λk=>kCoefN [some ⟨.ar 32 L8,[.agg (.ar 32 L8) (bs d)]⟩,some ⟨si,[kq x]⟩] k (.sl L8 0 [0] 0 32 true) d i x.w (aY.uL (n:=32) rfl rfl hp) (by omega) hw (by rw[hp];omega)
   have q2:wz (((2^x.w-1:Nat):Int)-(tv d i x.w:Int))=((2^x.w-1-tv d i x.w:Nat):Int):=by rw[bh (by omega)];omega
   have q3:wz ((Dk d x.w i:Int)+((2^x.w-1-tv d i x.w:Nat):Int))=(Dk d x.w (i+1):Int):=by rw[bh (by omega),Dk];omega
   simp only[↓ag,ah,simprocAttr,aK,hh,e0,e1,dC,h2,kE,g0,h3,kc,q2,q3]
   exact hR _ _ ⟨by simp only[has,↓ag,ah,simprocAttr,hh],rfl⟩
  ·rintro env rows ⟨hh,rfl⟩ R
   simp only[has]at hh
   have e0:(((256/x.w:Nat):Int)<((256/x.w:Nat):Int))=False:=aaw (by omega)
   have mH:=VJ d x.w (256/x.w)
   have hbd:Dk d x.w (256/x.w)*2^x.l<65536:=Nat.lt_of_le_of_lt (abB _ mH) hs
   have kS:=λk=>QG (Dk d x.w (256/x.w)) x.l .i64 (by omega) (by omega) k
   have kS':∀k,cm .shl (it (Dk d x.w (256/x.w):Int)) (it (x.l:Int)) k=k (.raw (it ((Dk d x.w (256/x.w)*2^x.l:Nat):Int))):=kS
   have kT:=λrows k=>kTwo rows k _ hbd
   have qj:(Jg x d).length=34:=by rw[Jg,aap,hp];rfl
   have hfd:bs d++bs (xb (Dk d x.w (256/x.w)*2^x.l))=bs (Jg x d):=qe _ _
   have ea:∀L ex,elems ([some ⟨.ar 32 L8,[.agg (.ar 32 L8) (bs d)]⟩,some ⟨si,[kq x]⟩]++L) (.sl L8 0 [0] 0 32 ex)=some (bs d):=λL ex=>qS (n:=32) rfl rfl hp
   simp only[↓ag,ah,simprocAttr,aK,hh,e0,dC,g2,kS',h4,kT]
   have tk:∀m,List.take 2 (bs (xb m))=bs (xb m):=λm=>rfl
   have bl:∀m,(bs (xb m)).length=2:=λm=>rfl
   rw[tk]
   refine⟨rfl,app_arr (qS (n:=32) rfl rfl hp) (by rw[aE];exact hp) (by rw[bl];decide) (by rw[bl];decide) ?_⟩
   rw[hfd,bl]
   simp only[↓ag,ah,simprocAttr,aK,hh,dC,g1]
   refine⟨by omega,by omega,by omega,?_⟩
   have tR:∀i,(yp x d i).length=i:=λi=>by simp[yp]
   have hds:∀i,(yp x d i).map yq++[.raw (it (tv (Jg x d) i x.w:Int))]=(yp x d (i+1)).map yq:=λi=>by simp[yp,abL,yq]
   refine bx x.p (λi env rows=>has env [(48,.raw (it (i:Int))),(47,.raw (it (x.p:Int))),(9,.sl L8 3 [] 0 34 false),(5,.ptr si 1 [0])]/\
    live rows 3=some ⟨L8,bs (Jg x d)⟩/\live rows 1=some ⟨si,[kq x]⟩/\∃d',look env 10=some d'/\jy LI d' rows ((yp x d i).map yq)) ?_ ?_ ⟨?_,rfl,rfl,.sl LI 4 [] 0 0 (decide (0=(x.p:Int))),?_,.inr ⟨4,_,rfl,rfl⟩⟩
   ·clear hh
    rintro i hi env rows ⟨hh,r3,r1,d',h10,hO⟩ R hR
    simp only[has]at hh
    have e0:((i:Int)<(x.p:Int))=True:=aas (by omega)
    have e1:=cG i (by omega)
    have kc:=λk=>kCoefN rows k (.sl L8 3 [] 0 34 false) (Jg x d) i x.w (aY.own r3 _ qj.symm) (by omega) hw (by rw[qj];omega)
    have eb:∀v ex,elems (rows++[some ⟨LI,[.raw (it v)]⟩]) (.sl LI rows.length [] 0 1 ex)=some [.raw (it v)]:=λv ex=>by
     have:live (rows++[some ⟨LI,[.raw (it v)]⟩]) rows.length=some ⟨LI,[.raw (it v)]⟩:=by rw[a9];rfl
     simp only[elems,this];rfl
    simp only[↓ag,ah,simprocAttr,aK,hh,e0,e1,h10,dC,r1,g0,h3,kc,eb]
    refine lg hO.push (by rw[aaA,tR];simp[most];omega) (by rw[aaA,tR];simp[most];omega) λd2 aa GV qJ yt _=>?_
    rw[hds]at GV
    have r3':=qJ 3 _ (ab r3 _) (λex=>ia hO r3 (by decide) ex _)
    have r1':=qJ 1 _ (ab r1 _) (λex=>ia hO r1 (by decide) ex _)
    simp only[↓ag,ah,simprocAttr,aK,hh,e1]
    exact hR _ _ ⟨by simp only[has,↓ag,ah,simprocAttr,hh],r3',r1',d2,by simp only[↓ag,ah,simprocAttr],GV⟩
   ·clear hh
    rintro env rows ⟨hh,r3,r1,d',h10,hO⟩ R
    simp only[has]at hh
    have e0:((x.p:Int)<(x.p:Int))=False:=aaw (by omega)
    simp only[↓ag,ah,simprocAttr,aK,hh,e0,h10,hO.qc]
    have:=jy.VK hO rfl
    rw[aaA]at this
    exact this
   ·simp only[has,↓ag,ah,simprocAttr,hh]
   ·simp only[↓ag,ah,simprocAttr]
  ·simp only[has,↓ag,ah,simprocAttr]
   rfl
theorem N8(rows:Rows)(k:D->Rows->Prop)(t:BitVec 32)(d:List (BitVec 8))(hd:d.length=32)(ht:vi t.toNat=true):
  aG zh rows k [.raw (u32 t),.agg (.ar 32 L8) (bs d)]=k (.sl LI (0+rows.length) [] 0 (pT t.toNat) false) (rows++[some ⟨LI,(gu t.toNat d).map yq⟩]):=by
 refine(lY (bY.raw (fL t)) (ko d) (by simp[hd]) rfl k).trans ?_
 have hl:(gu t.toNat d).length=pT t.toNat:=by simp[gu,yp]
 simp[ht,outI,shift,af,Sh.pure,hl]
def GW(t:Nat)(s:Site)(aM:List (BitVec 8)):List (BitVec 8):=Gg s.id s.q (ym s.id s.q aM (2^wT t-1) (pT t))
theorem bY.dlOwn{rows:Rows}{d:D}{l:List (List (BitVec 8))}(h:jy (.ar 32 L8) d rows (l.map aV)):bY rows (qu (.ar 32 L8) aV) d l:=by
 rcases h with⟨h,rfl⟩|⟨r,ex,rfl,h⟩
 ·have:l=[]:=by cases l with|nil=>rfl|cons x l=>cases h
  subst this
  exact bY.raw (by rfl)
 ·exact bY.dl h (by rw[aaA])
theorem TS{w:Nat}(h:w4 w=true):2^w<=256:=by rcases Mo.1 h with h|h|h|h<;>rw[h]<;>decide
theorem Yi{s:Sh}{rows:Rows}{d:D}(ex:Bool):elems (rows++[some ⟨s,[d]⟩]) (.sl s rows.length [] 0 1 ex)=some [d]:=by
 have:live (rows++[some ⟨s,[d]⟩]) rows.length=some ⟨s,[d]⟩:=by rw[a9];rfl
 simp only[elems,this];rfl
noncomputable def He:Fn:=Kx ry (cj fJ) (cj aV) (λ_ s x=>decide (s.id.length=16)&&decide (x.length=32)) λt s x=>bif vi t.toNat then(.cd [aV (GW t.toNat s x),.raw (it 0)],[])else(.cd [aV sO,.raw (it 6)],[])
theorem Yj(C:aU)(hC:aI C P)(h1:C.fn 49=some nS)(h2:C.fn 119=some Yf)(h3:C.fn 120=some Dj)(h4:C.fn 118=some EY)(h5:C.fn 121=some QF):aQ C.aZ P 51 (Fn.run He):=by
 refine aJ (NB C hC) λds rows r h=>?_
 obtain⟨d0,d1,d2,t,s,aM,rfl,rfl,g0,g1,g2,hp,rfl⟩:=fV h
 cases dY g0
 cases aH g1
 cases aH g2
 simp only[aan,aaq]at hp
 obtain⟨iv,ri⟩:=hp
 clear h g0 g1 g2
 have hz:D.agg si [.raw (it 0),.raw (it 0),.raw (it 0)]=kq ⟨0,0,0⟩:=rfl
 have kP:=λrows k=>pi rows k t
 cases hk:vi t.toNat
 ·rw[hk]at kP
  refine⟨rfl,ae rfl ?_⟩
  unfold vH vI
  simp only[hz,eu]
  simp only[↓ag,ah,simprocAttr,aK,aV,h1,kP,dC,ey,abT,aaK]
  exact .val _ rfl
 ·have hx:=mI hk
  have ew:wT t.toNat=(wX t.toNat).w:=rfl
  have ep:pT t.toNat=(wX t.toNat).p:=rfl
  have hps:GW t.toNat s aM=Gg s.id s.q (ym s.id s.q aM (2^(wX t.toNat).w-1) (wX t.toNat).p):=rfl
  rw[hps]
  rw[hk]at kP
  refine⟨rfl,ae rfl ?_⟩
  unfold vH vI
  simp only[hz,eu]
  generalize wX t.toNat=x at*
  obtain⟨hw,Bb,qL,hs,hl,uO⟩:=hx
  have hpw:=TS hw
  have kE:=λrows k=>kEnd rows k x hw
  have g1:(kq x).get [1]=some (.raw (it (x.p:Int))):=rfl
  simp only[↓ag,ah,simprocAttr,aK,aV,h1,kP,dC,ey,g1,abw,aaU]
  refine⟨by omega,by omega,by omega,?_⟩
  have hds:∀i,(ym s.id s.q aM (2^x.w-1) i).map aV++[.agg (.ar 32 L8) (bs (KZ s.id s.q i (2^x.w-1-0) 0 (GU s.id s.q i aM)))]=(ym s.id s.q aM (2^x.w-1) (i+1)).map aV:=λi=>by simp[ym,abL,aV]
  have tR:∀i,(ym s.id s.q aM (2^x.w-1) i).length=i:=λi=>by simp[ym]
  refine bx x.p (λi env rows=>has env [(25,.raw (it (i:Int))),(24,.raw (it (x.p:Int))),(8,.ptr si 3 [0]),(6,.ptr (.ar 32 L8) 2 [0]),(5,.ptr (.ar 32 L8) 1 [0]),(4,.ptr yo 0 [0])]/\
   live rows 0=some ⟨yo,[fJ s]⟩/\live rows 1=some ⟨.ar 32 L8,[.agg (.ar 32 L8) (bs aM)]⟩/\live rows 2=some ⟨.ar 32 L8,[.agg (.ar 32 L8) (bs sO)]⟩/\live rows 3=some ⟨si,[kq x]⟩/\
   ∃d',look env 10=some d'/\jy (.ar 32 L8) d' rows ((ym s.id s.q aM (2^x.w-1) i).map aV)/\(∀r ex n,d'= .sl (.ar 32 L8) r [] 0 n ex->4<=r)) ?_ ?_ ⟨?_,rfl,rfl,rfl,rfl,.sl (.ar 32 L8) 4 [] 0 0 (decide (0=(x.p:Int))),?_,.inr ⟨4,_,rfl,rfl⟩,λr ex n h=>?_⟩
  ·rintro i hi env rows ⟨hh,r0,r1,r2,r3,d',h10,hO,hne⟩ R hR
   simp only[has]at hh
   have e0:((i:Int)<(x.p:Int))=True:=aas (by omega)
   have e1:=cG i (by omega)
   have kS:=λrows k=>VI rows k s i aM iv (by omega) ri
   have kC:=λrows k=>TR rows k s i 0 (2^x.w-1) (GU s.id s.q i aM) iv (by omega) (by decide) (by omega) (qT _ _ _ _ _)
   rw[show((0:Nat):Int)=0 from rfl]at kC
   have lt3:=aR r3
   simp only[↓ag,ah,simprocAttr,aK,hh,e0,e1,h10,dC,ey,r0,r1,r3,h2,kE,h3,kS,h4,kC,Yi]
   refine yj hO.push (by rw[aaA,tR];simp[most];omega) (by rw[aaA,tR];simp[most];omega) λaa nA qJ yt=>?_
   rw[hds,aap]at nA
   have nA:live aa (rows.length+1)=_:=nA
   have hfr':∀r row,r<4->live rows r=some row->live aa r=some row:=λr row hr hl=>qJ r row (ab hl _) (λex n e=>by have:=hne _ _ _ e;omega)
   simp only[↓ag,ah,simprocAttr,aK,hh,e1]
   exact hR _ _ ⟨by simp only[has,↓ag,ah,simprocAttr,hh],hfr' 0 _ (by omega) r0,hfr' 1 _ (by omega) r1,hfr' 2 _ (by omega) r2,hfr' 3 _ (by omega) r3,.sl (.ar 32 L8) (rows.length+1) [] 0 ((ym s.id s.q aM (2^x.w-1) i).length+1) false,by simp only[↓ag,ah,simprocAttr],.inr ⟨_,false,by rw[aaA,tR,tR],nA⟩,λr ex n e=>by injection e with _ e;omega⟩
  ·rintro env rows ⟨hh,r0,r1,r2,r3,d',h10,hO,hne⟩ R
   simp only[has]at hh
   have e0:((x.p:Int)<(x.p:Int))=False:=aaw (by omega)
   have w2:=λy=>aD (y:=y) r2
   simp only[↓ag,ah,simprocAttr,aK,hh,e0,h10,r0,ey,h5]
   refine Eq.mpr (kFold _ _ s _ _ (bY.dlOwn hO) iv (ends_len _ _ _ _ _) (by rw[tR];omega)) ?_
   simp only[↓ag,ah,simprocAttr,aK,hh,r2,w2]
   exact .val _ rfl
  ·simp only[has,↓ag,ah,simprocAttr]
  ·simp only[↓ag,ah,simprocAttr]
  ·injection h with _ h;omega
theorem kPublic(rows:Rows)(k:D->Rows->Prop)(t:BitVec 32)(s:Site)(x:List (BitVec 8))(iv:s.id.length=16)(hx:x.length=32)(ht:vi t.toNat=true):
  aG He rows k [.raw (u32 t),fJ s,.agg (.ar 32 L8) (bs x)]=k (.cd [.agg (.ar 32 L8) (bs (GW t.toNat s x)),.raw (it 0)]) rows:=by
 refine(gP (bY.raw (fL t)) (lZ s rows) (ko x) (by simp[iv,hx]) (by simp[ht,cv,lc,aV,Sh.pure,bf]) k).trans ?_
 simp[ht,aV,shift,bD,af,Sh.pure]
def Jh:Fn:=zy eP eP (λa b=>Nat.ble a.length most&&Nat.ble b.length most) λa b=>(.raw (.bool (decide (a=b))),[])
theorem equal_ok(C:aU)(hC:aI C P):aQ C.aZ P 239 (Fn.run Jh):=by
 refine cA (KV C hC) λds rows r h=>?_
 obtain⟨d,e,a,b,rfl,rfl,hd,he,hp,rfl⟩:=dS h
 obtain⟨x,hx⟩:=cF hd
 obtain⟨y,hy⟩:=cF he
 refine⟨rfl,_,.cons hx (.cons hy .nil),ae rfl ?_⟩
 unfold Ak Al
 simp only[↓ag,ah,simprocAttr,amC]
 refine⟨eC.fg (.inr ⟨x,rfl⟩),?_⟩
 simp only[VC,↓ag,ah,simprocAttr]
 refine⟨eC.fg (.inr ⟨y,rfl⟩),?_⟩
 simp only[ByteArray.toList_eq,List.toList_toArray,ub_beq]
 exact .val _ rfl
theorem TT(rows:Rows)(k:D->Rows->Prop)(d e:D)(p q:List (BitVec 8))(h:aY rows d p)(h':aY rows e q)(hp:p.length<=1099511627776)(hq:q.length<=1099511627776):aG Jh rows k [d,e]=k (.raw (.bool (decide (p=q)))) rows:=by
 refine(Em h h' (by simpa[most]using⟨hp,hq⟩) rfl).trans ?_
 simp[shift,af]
structure JS where
 q:BitVec 32
 a:Int
 t:Int
 n:Int
 deriving DecidableEq
abbrev SJ:Sh:= .cons cN (.cons LI (.cons LI (.cons LI .nil)))
def jD(s:JS):D:= .agg SJ [.raw (u32 s.q),.raw (it s.a),.raw (it s.t),.raw (it s.n)]
theorem E0(x y:JS)(h:jD x=jD y):x=y:=by
 obtain⟨a,b,c,d⟩:=x
 obtain⟨a',b',c',d'⟩:=y
 simp only[jD,D.agg.injEq,abS,D.raw.injEq,Ik,lV,acW,abf]at h
 obtain⟨rfl,rfl,rfl,rfl⟩:=h
 rfl
theorem TU(s:JS):bb (jD s)=false:=rfl
theorem dK(s:JS):(jD s).fits SJ=true:=rfl
theorem Ji(n:Nat)(s:JS):shift n (jD s)=jD s:=by simp[jD,shift,Sh.pure]
theorem jD_g0(s:JS):(jD s).get [0]=some (.raw (u32 s.q)):=rfl
theorem Gh(s:JS):(jD s).get [1]=some (.raw (it s.a)):=rfl
theorem jD_g2(s:JS):(jD s).get [2]=some (.raw (it s.t)):=rfl
theorem VL(s:JS):(jD s).get [3]=some (.raw (it s.n)):=rfl
theorem TV(a b:JS):eqA SJ (jD a) (jD b)=some (decide (a=b)):=by
 obtain⟨q,x,y,z⟩:=a
 obtain⟨q',x',y',z'⟩:=b
 have uO:∀p p':BitVec 32,(p.toNat:Int)=(p'.toNat:Int)↔p=p':=λp p'=>⟨λh=>aaL (by omega),λh=>by rw[h]⟩
 simp only[jD,eqA,acy,acM,aaU,DW,zJ,lu,u32,it,JS.mk.injEq]
 by_cases h1:q=q'<;>by_cases h2:x=x'<;>by_cases h3:y=y'<;>by_cases h4:z=z'<;>simp[h1,h2,h3,h4,uO]
def sj(i:Int):Bool:=decide (i=0)||decide (i=1)
def Dl:Fn:=nv u9 (λ_=>true) λi=>(.raw (.bool (sj i)),[])
theorem slot_ok(C:aU)(hC:aI C P):aQ C.aZ P 238 (Fn.run Dl):=by
 refine aJ (IX C hC) λds rows r h=>?_
 obtain⟨d,i,rfl,rfl,hd,hp,rfl⟩:=bd h
 cases bX hd
 refine⟨rfl,ae rfl ?_⟩
 clear h hd
 unfold x9 ya sj
 by_cases c:i=0
 ·have c1:(i=0)=True:=aas c
  simp only[↓ag,ah,simprocAttr,c1,aaD,adI]
  exact .val _ rfl
 ·have c1:(i=0)=False:=aaw c
  simp only[↓ag,ah,simprocAttr,c1,aaE,acn]
  exact .val _ rfl
theorem kSlot(rows:Rows)(k:D->Rows->Prop)(i:Int):aG Dl rows k [.raw (it i)]=k (.raw (.bool (sj i))) rows:=by
 refine(bk rfl (fa (qd i) rfl)).trans ?_
 simp[shift,af]
def jj(s:JS):Bool:=sj s.a&&(sj s.t||(decide (s.t=-1)&&decide (s.n=0)))&&decide (0<=s.n)&&decide (s.n<=3)
noncomputable def Dm:Fn:=nv (cj jD) (λ_=>true) λs=>(.raw (.bool (jj s)),[])
theorem Yk(C:aU)(hC:aI C P)(hs:C.fn 238=some Dl):aQ C.aZ P 201 (Fn.run Dm):=by
 refine aJ (wV C hC) λds rows r h=>?_
 obtain⟨d,s,rfl,rfl,hd,hp,rfl⟩:=bd h
 cases aH hd
 refine⟨rfl,ae rfl ?_⟩
 clear h hd
 obtain⟨q,a,t,n⟩:=s
 unfold oz oA
 rcases aep (t=-1)with c1|c1<;>rcases aep (n=0)with c2|c2<;>rcases aep (0<=n)with c3|c3<;>rcases aep (n<=3)with c4|c4<;>
  (have e1:=c1;have e2:=c2;have e3:=c3;have e4:=c4
   first|replace e1:=aaw e1|replace e1:=aas e1
   first|replace e2:=aaw e2|replace e2:=aas e2
   first|replace e3:=aaw e3|replace e3:=aas e3
   first|replace e4:=aaw e4|replace e4:=aas e4
   clear c1 c2 c3 c4
   cases h1:sj t<;>cases h2:sj a<;>
    (simp only[↓ag,ah,simprocAttr,jD,jj,hs,kSlot,h1,h2,e1,e2,e3,e4,aaD,aaE];exact .val _ rfl))
theorem kRightJ(rows:Rows)(k:D->Rows->Prop)(s:JS):aG Dm rows k [jD s]=k (.raw (.bool (jj s))) rows:=by
 refine(bk (by simp[aX,TU]) (r:=(.raw (.bool (jj s)),[])) ?_).trans ?_
 ·rw[Dm,fa (bZ E0 s) rfl]
 ·simp[shift,af]
theorem right_bd{s:JS}(h:jj s=true):∃a t n:Nat,s.a=a/\s.t=(t:Int)-1/\s.n=n/\a<=1/\t<=2/\n<=3:=by
 simp only[jj,sj,aan,abM,aaq]at h
 obtain⟨⟨⟨h1,h2⟩,h3⟩,h4⟩:=h
 exact⟨s.a.toNat,(s.t+1).toNat,s.n.toNat,by omega,by omega,by omega,by omega,by omega,by omega⟩
def bctl:List (BitVec 8):=[66#8,67#8,84#8,76#8]
def tailJ(s:JS):List (BitVec 8):=[BitVec.ofInt 8 s.a,BitVec.ofInt 8 (s.t+1),BitVec.ofInt 8 s.n,0#8]
def E2(s:JS):List (BitVec 8):=bctl++(bz s.q++tailJ s)
def sn(s:JS):List (BitVec 8):=E2 s++(eY (E2 s)).take 20
theorem N9(s:JS):(E2 s).length=12:=rfl
theorem VM(p:List (BitVec 8)):((eY p).take 20).length=20:=by rw[aau,dk];rfl
theorem zi(s:JS):(sn s).length=32:=by rw[sn,aap,N9,VM]
noncomputable def vP:Fn:=nv (cj jD) (λ_=>true) λs=>bif jj s then eR (sn s) false else(.raw (.slice none 0 0),[])
theorem Yl(C:aU)(hC:aI C P)(hr:C.fn 201=some Dm)(hs:C.fn 125=some EU):aQ C.aZ P 202 (Fn.run vP):=by
 refine aJ (wW C hC) λds rows r h=>?_
 obtain⟨d,s,rfl,rfl,hd,hp,rfl⟩:=bd h
 cases aH hd
 refine⟨rfl,ae rfl ?_⟩
 clear h hd hp
 unfold oB oC
 have kr:=λrows k=>kRightJ rows k s
 cases hk:jj s
 ·rw[hk]at kr
  simp only[↓ag,ah,simprocAttr,dK,hr,kr,aaK]
  exact .val _ rfl
 ·rw[hk]at kr
  obtain⟨a,t,n,ha,ht,hn,b1,b2,b3⟩:=right_bd hk
  have w:wz (s.t+1)=s.t+1:=bh (by omega)
  simp only[↓ag,ah,simprocAttr,aK,dK,jD_g0,Gh,jD_g2,VL,w,hr,kr,aaU]
  have hpre:[D.raw (u8 66#8),D.raw (u8 67#8),D.raw (u8 84#8),D.raw (u8 76#8),.raw (u8 ((s.q>>>24).setWidth 8)),.raw (u8 ((s.q>>>16).setWidth 8)),.raw (u8 ((s.q>>>8).setWidth 8)),.raw (u8 (s.q.setWidth 8)),.raw (u8 (BitVec.ofInt 8 s.a)),.raw (u8 (BitVec.ofInt 8 (s.t+1))),.raw (u8 (BitVec.ofInt 8 s.n)),.raw (u8 0#8)]=bs (E2 s):=rfl
  rw[hpre]
  have pl:(bs (E2 s)).length=12:=rfl
  have qj:[E2 s].flatten=E2 s:=by simp
  simp only[hs]
  refine Eq.mpr (TL _ _ 4 1 _ _ [E2 s] rfl rfl (.cons (aY.own (l:=E2 s) rfl 12 rfl) .nil) (by simp) (by rw[qj,N9];omega)) ?_
  rw[qj]
  have mH:(bs (eY (E2 s))).length=32:=by rw[aE,dk]
  have N0:sn s=E2 s++(eY (E2 s)).take 20:=rfl
  have P0:=zi s
  have hp0:=N9 s
  generalize sn s=B at N0 P0⊢
  generalize E2 s=p at N0 mH pl hp0⊢
  have e20:(bs ((eY p).take 20)).length=20:=by rw[aE,VM]
  have t12:p.take 12=p:=aar (by omega)
  simp only[↓ag,ah,simprocAttr,mH,el_sp,Qu,abz,fM,e20,t12,pl]
  rw[qe,<-N0]
  have hO:eR B false=(.sl L8 0 [] 0 32 false,[some ⟨L8,bs B⟩]):=by rw[eR,P0]
  rw[hO]
  exact .own L8 6 0 32 false false _ rfl rfl id
theorem kBytesJ(rows:Rows)(k:D->Rows->Prop)(s:JS)(h:jj s=true):aG vP rows k [jD s]=k (.sl L8 (0+rows.length) [] 0 32 false) (rows++[some ⟨L8,bs (sn s)⟩]):=by
 refine(bk (by simp[aX,TU]) (r:=eR (sn s) false) ?_).trans ?_
 ·rw[vP,fa (bZ E0 s) rfl,h];rfl
 ·simp[eR,shift,af,zi,Sh.pure]
theorem kBytesN(rows:Rows)(k:D->Rows->Prop)(s:JS)(h:jj s=false):aG vP rows k [jD s]=k (.raw (.slice none 0 0)) rows:=by
 refine(bk (by simp[aX,TU]) (r:=(.raw (.slice none 0 0),[])) ?_).trans ?_
 ·rw[vP,fa (bZ E0 s) rfl,h];rfl
 ·simp[shift,af]
abbrev tN:Sh:= .cons cN (.cons LB .nil)
abbrev vj:Sh:= .cons .ref .nil
abbrev Kz:Sh:= .cons .ref (.cons LB .nil)
abbrev Wd:=BitVec 32×Bool
def yu(p:Wd):D:= .agg tN [.raw (u32 p.1),.raw (.bool p.2)]
structure pj where
 ws:List Wd
 e:Bool
 s:Bool
abbrev pj.w(c:pj):List (BitVec 32):=c.ws.map (·.1)
def arV(c:pj):D:= .cb (.agg vj [.dh tN (c.ws.map yu) c.e])
def tS(c:pj):D:= .cb (.agg Kz [arV c,.raw (.bool c.s)])
theorem wdD_inj(x y:Wd)(h:yu x=yu y):x=y:=by
 unfold yu at h
 injection h with _ h
 injection h with h1 h
 injection h with h2 _
 injection h1 with h1
 injection h2 with h2
 injection h2 with h2
 exact adp (Go.Am.lV.1 h1) h2
theorem VN{a b:List Wd}(h:a.map yu=b.map yu):a=b:=(adh wdD_inj).1 h
def arK(x:List Wd×Bool):D:=arV ⟨x.1,x.2,false⟩
theorem VO(x y:List Wd×Bool)(h:arK x=arK y):x=y:=by
 unfold arK arV at h
 injection h with h
 injection h with _ h
 injection h with h _
 injection h with _ h1 h2
 exact adp (VN h1) h2
theorem Hf(x y:pj)(h:tS x=tS y):x=y:=by
 obtain⟨xw,xe,xs⟩:=x
 obtain⟨yw,ye,ys⟩:=y
 unfold tS arV at h
 injection h with h
 injection h with _ h
 injection h with h1 h
 injection h with h2 _
 injection h1 with h1
 injection h1 with _ h1
 injection h1 with h1 _
 injection h1 with _ h1 h3
 injection h2 with h2
 injection h2 with h2
 cases VN h1
 subst h2
 subst h3
 rfl
def Oa(l:List (BitVec 32)):D×Rows:=(.sl cN 0 [] 0 l.length false,[some ⟨cN,us l⟩])
theorem Ob{s:Sh}{l:List D}{i:Nat}(h:i<l.length)(e:Bool)(rows:Rows)(k:D->Rows->Prop):pC s (i:Int) rows k (.dh s l e)=k (.cb l[i]) rows:=by
 simp only[pC,aaz,aao h,bj,abf]
 rw[aas (by omega:(0:Int)<=(i:Int)),aas (by omega:(i:Int)<(l.length:Int)),abf,abf]
theorem us_snoc(l:List (BitVec 32))(i:Nat)(h:i<l.length):us (l.take i)++[.raw (u32 l[i])]=us (l.take (i+1)):=by
 rw[aaX h,<-TC]
 rfl
noncomputable def TW:Fn:=nv (cj arK) (λx=>decide (x.1.length=64)) λx=>Oa (x.1.map (·.1))
theorem wds_ok(C:aU)(hC:aI C P):aQ C.aZ P 72 (Fn.run TW):=by
 refine aJ (AT C hC) λds rows r h=>?_
 obtain⟨d,⟨x,e⟩,rfl,rfl,hd,hp,rfl⟩:=bd h
 cases aH hd
 simp only[aaq]at hp
 refine⟨rfl,ae rfl ?_⟩
 clear h hd
 unfold rC rD
 have hl:(x.map yu).length=64:=by rw[aaA,hp]
 have hm:(x.map (·.1)).length=64:=by rw[aaA,hp]
 simp only[arK,arV,↓ag,ah,simprocAttr,hl]
 refine bx 64 (λi env rows=>has env [(13,.raw (it (i:Int))),(12,.raw (it 64)),(11,.dh tN (x.map yu) e)]/\∃d,look env 3=some d/\jy cN d rows (us ((x.map (·.1)).take i))) ?_ ?_ ⟨?_,_,?_,.nil⟩
 ·rintro i hi env rows ⟨hh,d,h3,hO⟩ R hR
  simp only[has]at hh
  have e0:((i:Int)<64)=True:=aas (by omega)
  have e1:=cG i (by omega)
  have gi:=λrows k=>Ob (s:=tN) (l:=x.map yu) (i:=i) (by omega) e rows k
  have gx:(x.map yu)[i]'(by omega)= .agg tN [.raw (u32 (x[i]'(by omega)).1),.raw (.bool (x[i]'(by omega)).2)]:=by rw[adu];rfl
  rw[gx]at gi
  simp only[↓ag,ah,simprocAttr,aK,hh,h3,e0,gi]
  refine lg hO.push (by rw[oV,aau];simp[most];omega) (by rw[oV,aau];simp[most];omega) λd2 aa GV qJ yt _=>?_
  have hs:=us_snoc (x.map (·.1)) i (by omega)
  rw[adu]at hs
  rw[hs]at GV
  simp only[↓ag,ah,simprocAttr,aK,hh,e1]
  exact hR _ _ ⟨by simp only[has,↓ag,ah,simprocAttr,hh],d2,by simp only[↓ag,ah,simprocAttr],GV⟩
 ·rintro env rows ⟨hh,d,h3,hO⟩ R
  simp only[has]at hh
  have e0:((64:Int)<64)=False:=aaw (by omega)
  rw[aar (by omega)]at hO
  simp only[↓ag,ah,simprocAttr,hh,h3,e0,hO.qc]
  have:=jy.VK hO rfl
  rw[oV]at this
  exact this
 ·simp only[has,↓ag,ah,simprocAttr]
 ·simp only[↓ag,ah,simprocAttr]
theorem kWds(rows:Rows)(k:D->Rows->Prop)(c:pj)(h:c.ws.length=64):aG TW rows k [arV c]=k (.sl cN (0+rows.length) [] 0 64 false) (rows++[some ⟨cN,us c.w⟩]):=by
 refine(bk (by rfl) (fa (bZ VO (c.ws,c.e)) (by simp[h]))).trans ?_
 simp[Oa,shift,af,Sh.pure,h]
noncomputable def Dn:Fn:=nv (cj tS) (λc=>decide (c.ws.length=64)) λc=>Oa c.w
theorem allc_ok(C:aU)(hC:aI C P)(h1:C.fn 72=some TW):aQ C.aZ P 65 (Fn.run Dn):=by
 refine aJ (Iw C hC) λds rows r h=>?_
 obtain⟨d,c,rfl,rfl,hd,hp,rfl⟩:=bd h
 cases aH hd
 simp only[aaq]at hp
 refine⟨rfl,ae rfl ?_⟩
 clear h hd
 unfold xP xQ
 have hm:c.w.length=64:=by rw[aaA,hp]
 have kW:=λrows k=>kWds rows k c hp
 have f1:(arV c).fits .ref=true:=rfl
 simp only[tS,↓ag,ah,simprocAttr,h1,kW,f1]
 rw[Oa,hm]
 exact .own _ _ 0 _ _ _ _ rfl rfl (λh=>by cases h)
theorem Mp(rows:Rows)(k:D->Rows->Prop)(c:pj)(h:c.ws.length=64):aG Dn rows k [tS c]=k (.sl cN (0+rows.length) [] 0 64 false) (rows++[some ⟨cN,us c.w⟩]):=by
 refine(bk (by rfl) (fa (bZ Hf c) (by simp[h]))).trans ?_
 simp[Oa,shift,af,Sh.pure,h]
def K3(x:BitVec 8):Nat:=((List.range 8).filter λi=>x.getLsbD i).length
def VP:Fn:=nv rd8 (λ_=>true) λx=>(.raw (it (K3 x:Int)),[])
def popT:ByteArray:=match gE with
 | .seq _ (.seq (.region _ (_::⟨_,.vk (.const (.string b)) _,_⟩::_)) _)=>b
 | _=>⟨#[]⟩
theorem popT_get:∀n,n<256->popT.data.toList[n]?=some (UInt8.ofNat (K3 (BitVec.ofNat 8 n))):=by decide
theorem ones_ok(C:aU)(hC:aI C P):aQ C.aZ P 188 (Fn.run VP):=by
 refine aJ (vL C hC) λds rows r h=>?_
 obtain⟨d,x,rfl,rfl,hd,hp,rfl⟩:=bd h
 cases Ij hd
 refine⟨rfl,ae rfl ?_⟩
 clear h hd
 have hT:=popT_get x.toNat x.isLt
 rw[adD,adE]at hT
 have hle:K3 x<=8:=by
  refine aa3 (acx _ _) ?_
  decide
 have hc:(UInt8.ofNat (K3 x)).toBitVec.toNat=K3 x:=by
  show(BitVec.ofNat 8 (K3 x)).toNat=_
  rw[aa2];omega
 simp only[popT,gE]at hT
 unfold gE nK
 simp only[↓ag,ah,simprocAttr,hT,abc,hc]
 exact .val _ rfl
theorem kOnes(rows:Rows)(k:D->Rows->Prop)(x:BitVec 8):aG VP rows k [.raw (u8 x)]=k (.raw (it (K3 x:Int))) rows:=by
 refine(bk (by rfl) (fa (Ns x) rfl)).trans ?_
 simp[shift,af]
def tzL:List (BitVec 8):=[0,1,28,2,29,14,24,3,30,22,20,15,25,17,4,8,31,27,13,23,21,19,16,7,26,12,18,6,11,5,10,9]
def tzD:D:= .agg (.ar 32 L8) (bs tzL)
def tzS(x:BitVec 32):Nat:=if x=0#32 then 32 else(tzL.getD (((x&&&-x)*125613361#32)>>>27).toNat 0#8).toNat
def fTz:Fn:=nv ry (λ_=>true) λx=>(.raw (it (tzS x:Int)),[])
theorem u_neg32(x:BitVec 32)(k:D->Prop):aUn .neg (u32 x) k=k (.raw (u32 (-x))):=by
 have h:(0-(x.toNat:Int)) %4294967296=((-x).toNat:Int):=by rw[BitVec.toNat_neg];omega
 show k (.raw (.int .u32 (IntKind.u32.wrap (0-(x.toNat:Int)))))=_
 rw[wr32,h]
 rfl
theorem tz_ok(C:aU)(hC:aI C P)(hg:C.aZ 5=some tzD):aQ C.aZ P 218 (Fn.run fTz):=by
 refine aJ (qE C hC) λds rows r h=>?_
 obtain⟨d,x,rfl,rfl,hd,hp,rfl⟩:=bd h
 cases dY hd
 refine⟨rfl,ae rfl ?_⟩
 clear h hd
 unfold lh lj
 by_cases hx:x=0#32
 ·have hx':(x=0#32)=True:=aas hx
  simp only[↓ag,ah,simprocAttr,tzS,hx',aaD,abR]
  exact .val _ rfl
 ·have hx':(x=0#32)=False:=aaw hx
  have hlt:(((x&&&-x)*125613361#32)>>>27).toNat<32:=by
   rw[abU,abq]
   have:=((x&&&-x)*125613361#32).isLt
   omega
  simp only[tzS,aaC hx]
  generalize hy:((x&&&-x)*125613361#32)>>>27=y at*
  have hl:(((y.toNat:Int))<32)=True:=aas (by omega)
  have hb:=tJ (l:=tzL) (i:=y.toNat) hlt
  simp only[↓ag,ah,simprocAttr,u_neg32,hg,tzD,hx',hy,hl,hb,aaE,abc,aaz]
  exact .val _ rfl
theorem kTz(rows:Rows)(k:D->Rows->Prop)(x:BitVec 32):aG fTz rows k [.raw (u32 x)]=k (.raw (it (tzS x:Int))) rows:=by
 refine(bk (by rfl) (fa (fL x) rfl)).trans ?_
 simp[shift,af]
theorem tz_le(x:BitVec 32):tzS x<=32:=by
 have h:∀n,n<32->(tzL.getD n 0#8).toNat<32:=by decide
 unfold tzS
 split
 ·exact aax _
 ·rcases aaT (((x&&&-x)*125613361#32)>>>27).toNat 32 with c|c
  ·exact aen (h _ c)
  ·rw[aay,abv (by exact c)];decide
def Ym(w:BitVec 32)(i:Nat):Bool:=decide (5<=K3 ((w>>>(8*i)).setWidth 8))
def fOn:Fn:=zy ry u9 (λ_ i=>decide (0<=i)&&decide (i<=3)) λw i=>(.raw (.bool (Ym w i.toNat)),[])
theorem on_ok(C:aU)(hC:aI C P)(h1:C.fn 188=some VP):aQ C.aZ P 128 (Fn.run fOn):=by
 refine aJ (m_otp_on C hC) λds rows r h=>?_
 obtain⟨d,e,w,i,rfl,rfl,hd,he,hp,rfl⟩:=dS h
 cases dY hd
 cases bX he
 simp only[aan,aaq]at hp
 obtain⟨n,rfl⟩:=aaH hp.1
 refine⟨rfl,ae rfl ?_⟩
 clear h hd he
 unfold Qe Qf
 have e1:wz (8*(n:Int))=((8*n:Nat):Int):=by rw[bh (by omega)];omega
 have e2:((5:Int)<=(K3 ((w>>>(8*n)).setWidth 8):Int))=(5<=K3 ((w>>>(8*n)).setWidth 8)):=by simp;omega
 simp only[↓ag,ah,simprocAttr,h1,kOnes,e1,e2,abc,aaz,Ym]
 exact .val _ rfl
theorem kOn(rows:Rows)(k:D->Rows->Prop)(w:BitVec 32)(i:Nat)(h:i<=3):aG fOn rows k [.raw (u32 w),.raw (it (i:Int))]=k (.raw (.bool (Ym w i))) rows:=by
 refine(bk (by rfl) (lF (fL w) (qd i) (by simp;omega))).trans ?_
 simp[shift,af]
def Dp(w:BitVec 32):Nat->Nat
 |0=>0
 |i+1=>if Ym w i then i+1 else Dp w i
def eB(c:pj):Nat:=Dp (c.w.getD 0 0#32) 4
noncomputable def Mq:Fn:=nv (cj tS) (λc=>decide (c.ws.length=64)) λc=>(.raw (it (eB c:Int)),[])
theorem life_ok(C:aU)(hC:aI C P)(h1:C.fn 65=some Dn)(h2:C.fn 128=some fOn):aQ C.aZ P 63 (Fn.run Mq):=by
 refine aJ (GG C hC) λds rows r h=>?_
 obtain⟨d,c,rfl,rfl,hd,hp,rfl⟩:=bd h
 cases aH hd
 simp only[aaq]at hp
 refine⟨rfl,ae rfl ?_⟩
 clear h hd
 unfold wk wl
 have hm:c.w.length=64:=by rw[aaA,hp]
 have kA:=λrows k=>Mp rows k c hp
 have g0:=lM (l:=c.w) (i:=0) (by omega)
 rw[eB]
 generalize c.w.getD 0 0#32=w at*
 simp only[↓ag,ah,simprocAttr]
 refine bx 4 (λi env rows=>has env [(5,.raw (it (i:Int))),(3,.raw (it (Dp w i:Int))),(0,tS c)]) ?_ ?_ ?_
 ·rintro i hi env rows hh R hR
  simp only[has]at hh
  have e0:((i:Int)<4)=True:=aas (by omega)
  have e1:=cG i (by omega)
  have kO:=λrows k=>kOn rows k w i (by omega)
  cases ho:Ym w i with
  |true=>
   simp only[↓ag,ah,simprocAttr,aK,hh,e0,e1,h1,h2,kA,g0,kO,ho]
   exact hR _ _ (by simp only[has,↓ag,ah,simprocAttr,hh,Dp,ho,abR])
  |false=>
   simp only[↓ag,ah,simprocAttr,aK,hh,e0,e1,h1,h2,kA,g0,kO,ho]
   exact hR _ _ (by simp only[has,↓ag,ah,simprocAttr,hh,Dp,ho]<;>simp)
 ·rintro env rows hh R
  simp only[has]at hh
  have e0:((4:Int)<4)=False:=aaw (by omega)
  simp only[↓ag,ah,simprocAttr,hh,e0]
  exact .val _ rfl
 ·simp only[has,↓ag,ah,simprocAttr,Dp]
theorem Yn{α:Type}(l:List α)(i:Nat)(z:α)(h:i<l.length):l.drop i=l.getD i z::l.drop (i+1):=by
 rw[abp h]
 simp[List.getD,h]
def TX:List (BitVec 32)->Nat
 |[]=>0
 |w::l=>if tzS (~~~w)<32 then tzS (~~~w)else tzS (~~~w)+TX l
def mO(c:pj):Nat:=min (TX ((c.w.drop 1).take 8)) 255
noncomputable def fCtr:Fn:=nv (cj tS) (λc=>decide (c.ws.length=64)) λc=>(.raw (it (mO c:Int)),[])
theorem ctr_ok(C:aU)(hC:aI C P)(h1:C.fn 65=some Dn)(h2:C.fn 218=some fTz):aQ C.aZ P 176 (Fn.run fCtr):=by
 refine aJ (AZ C hC) λds rows r h=>?_
 obtain⟨d,c,rfl,rfl,hd,hp,rfl⟩:=bd h
 cases aH hd
 simp only[aaq]at hp
 refine⟨rfl,ae rfl ?_⟩
 clear h hd
 unfold rK rL
 have hm:c.w.length=64:=by rw[aaA,hp]
 have kA:=λrows k=>Mp rows k c hp
 rw[mO]
 generalize c.w=W at*
 have hl8:((W.drop 1).take 8).length=8:=by simp;omega
 have hgw:∀i,i<8->((W.drop 1).take 8).getD i 0#32=W.getD (1+i) 0#32:=λi hi=>by
  rw[aay,abn hi,aa5,<-aay]
 generalize (W.drop 1).take 8=V at*
 have fin:∀n:Nat,(bif false then max (n:Int) 255 else min (n:Int) 255)=((min n 255:Nat):Int):=λn=>by simp;omega
 simp only[↓ag,ah,simprocAttr,aK,h1,kA]
 refine bx 8 (λi env rows=>has env [(11,.raw (it (i:Int))),(10,.raw (it 8)),(9,.sl cN 0 [] 1 8 false)]/\rows=[some ⟨cN,us W⟩]/\∃n:Nat,look env 3=some (.raw (it (n:Int)))/\n<=32*i/\TX (V)=n+TX (V.drop i)) ?_ ?_ ⟨?_,rfl,0,?_,by omega,by simp⟩
 ·rintro i hi env rows ⟨hh,rfl,n,h3,hn,hc⟩ R hR
  simp only[has]at hh
  have e0:((i:Int)<8)=True:=aas (by omega)
  have e1:=cG i (by omega)
  have hw:=Yn V i 0#32 (by omega)
  have gw:(us W)[1+i]?=some (.raw (u32 (V.getD i 0#32))):=by rw[lM (by omega),hgw i hi]
  rw[hw,TX]at hc
  generalize V.getD i 0#32=v at*
  have ht:=tz_le (~~~v)
  have kT:=λrows k=>kTz rows k (~~~v)
  generalize tzS (~~~v)=t at*
  have e2:wz ((n:Int)+(t:Int))=((n+t:Nat):Int):=by rw[bh (by omega)];omega
  by_cases hlt:t<32
  ·have aag:((t:Int)<32)=True:=aas (by omega)
   rw[aaJ hlt]at hc
   simp only[↓ag,ah,simprocAttr,aK,hh,h3,e0,gw,h2,kT,e2,aag,fin,abc,aaz]
   rw[hc]
   exact .val _ rfl
  ·have aag:((t:Int)<32)=False:=aaw (by omega)
   rw[aaC hlt]at hc
   simp only[↓ag,ah,simprocAttr,aK,hh,h3,e0,e1,gw,h2,kT,e2,aag,abc,aaz]
   exact hR _ _ ⟨by simp only[has,↓ag,ah,simprocAttr,hh],rfl,n+t,by simp only[↓ag,ah,simprocAttr],by omega,by omega⟩
 ·rintro env rows ⟨hh,rfl,n,h3,hn,hc⟩ R
  simp only[has]at hh
  have e0:((8:Int)<8)=False:=aaw (by omega)
  rw[acJ (aeq hl8),TX,adb]at hc
  simp only[↓ag,ah,simprocAttr,hh,h3,e0,fin]
  rw[hc]
  exact .val _ rfl
 ·simp only[has,↓ag,ah,simprocAttr];rfl
 ·simp only[↓ag,ah,simprocAttr]
abbrev uD(x:BitVec 32):D:= .raw (u32 x)
theorem uD_inj(x y:BitVec 32)(h:uD x=uD y):x=y:=by
 injection h with h
 exact Go.Am.lV.1 h
theorem VQ(l:List (BitVec 32))(n:Nat):(us l).drop n=us (l.drop n):=by simp[us]
theorem VS(l:List (BitVec 32))(n:Nat):(us l).take n=us (l.take n):=by simp[us]
theorem bY.us{rows:Rows}{r off len:Nat}{ex:Bool}{l:List (BitVec 32)}(hl:live rows r=some ⟨cN,us l⟩)(hn:off+len<=l.length):bY rows (qu cN uD) (.sl cN r [] off len ex) ((l.drop off).take len):=by
 refine⟨⟨.dh cN (kj.us ((l.drop off).take len)) ex,?_,I8 uD_inj _ ex⟩,λh=>by simp[bb]at h⟩
 have:elems rows (.sl cN r [] off len ex)=some (kj.us ((l.drop off).take len)):=by
  simp only[elems,hl,VQ,VS]
 have hL:((l.drop off).take len).length=len:=by rw[aau,aat];omega
 simp only[view]
 rw[this]
 simp only[oV,hL]
 simp[Sh.pure]
theorem Yo(l:List (BitVec 32))(i:Nat)(h:i<l.length):mo (l.take i)++bz l[i]=mo (l.take (i+1)):=by
 rw[aaX h,mo,mo,adi,abW]
 simp
noncomputable def fOct:Fn:=nv (qu cN uD) (λl=>decide (l.length<=1000)) λl=>eR (mo l) false
theorem oct_ok(C:aU)(hC:aI C P):aQ C.aZ P 213 (Fn.run fOct):=by
 refine cA (NK C hC) λds rows r h=>?_
 obtain⟨d,l,rfl,rfl,hd,hp,rfl⟩:=bd h
 obtain⟨e,hx⟩:=zd hd
 simp only[aaq]at hp
 refine⟨rfl,_,.cons hx .nil,ae rfl ?_⟩
 clear h hd hx
 unfold CQ CR
 have hl:(l.map uD).length=l.length:=by rw[aaA]
 simp only[↓ag,ah,simprocAttr,hl]
 refine bx l.length (λi env rows=>has env [(8,.raw (it (i:Int))),(7,.raw (it (l.length:Int))),(6,.dh cN (l.map uD) e)]/\∃d,look env 3=some d/\jy L8 d rows (bs (mo (l.take i)))) ?_ ?_ ⟨?_,_,?_,.nil⟩
 ·rintro i hi env rows ⟨hh,d,h3,hO⟩ R hR
  simp only[has]at hh
  have e0:((i:Int)<(l.length:Int))=True:=aas (by omega)
  have e1:=cG i (by omega)
  have gi:=λrows k=>Ob (s:=cN) (l:=l.map uD) (i:=i) (by omega) e rows k
  rw[adu]at gi
  have hs:=Yo l i hi
  generalize l[i]'hi=w at*
  simp only[↓ag,ah,simprocAttr,aK,hh,h3,e0,gi]
  refine lg hO.push (by rw[aE,pN,aau];simp[most];omega) (by rw[aE,pN,aau];simp[most];omega) λd2 aa GV qJ yt _=>?_
  have hO2:jy L8 d2 aa (bs (mo (l.take (i+1)))):=by rw[<-hs,<-qe];exact GV
  simp only[↓ag,ah,simprocAttr,aK,hh,e1]
  exact hR _ _ ⟨by simp only[has,↓ag,ah,simprocAttr,hh],d2,by simp only[↓ag,ah,simprocAttr],hO2⟩
 ·rintro env rows ⟨hh,d,h3,hO⟩ R
  simp only[has]at hh
  have e0:((l.length:Int)<(l.length:Int))=False:=aaw (by omega)
  rw[aa8]at hO
  simp only[↓ag,ah,simprocAttr,hh,h3,e0,hO.qc]
  exact hO.No
 ·simp only[has,↓ag,ah,simprocAttr]
 ·simp only[↓ag,ah,simprocAttr]
theorem kOct{rows:Rows}{d:D}{l:List (BitVec 32)}(h:bY rows (qu cN uD) d l)(hl:l.length<=1000)(k:D->Rows->Prop):aG fOct rows k [d]=k (.sl L8 (0+rows.length) [] 0 (mo l).length false) (rows++[some ⟨L8,bs (mo l)⟩]):=by
 refine(cL h (by simp[hl]) rfl k).trans ?_
 simp[eR,shift,af,Sh.pure]
def oa(c:pj):List (BitVec 8):=mo ((c.w.drop 9).take 14)
noncomputable def VT:Fn:=nv (cj tS) (λc=>decide (c.ws.length=64)) λc=>eR (oa c) false
theorem keyc_ok(C:aU)(hC:aI C P)(h1:C.fn 65=some Dn)(h2:C.fn 213=some fOct):aQ C.aZ P 159 (Fn.run VT):=by
 refine aJ (IL C hC) λds rows r h=>?_
 obtain⟨d,c,rfl,rfl,hd,hp,rfl⟩:=bd h
 cases aH hd
 simp only[aaq]at hp
 refine⟨rfl,ae rfl ?_⟩
 clear h hd
 unfold xY xZ
 have hm:c.w.length=64:=by rw[aaA,hp]
 have kA:=λrows k=>Mp rows k c hp
 rw[oa]
 have hl:((c.w.drop 9).take 14).length<=1000:=by rw[aau];omega
 have kO:=λex k=>kOct (bY.us (rows:=[some ⟨cN,us c.w⟩]) (r:=0) (off:=9) (len:=14) (ex:=ex) (l:=c.w) rfl (by omega)) hl k
 have nb:Np (tS c) (.raw (.pointer none))=some false:=rfl
 simp only[↓ag,ah,simprocAttr,aK,h1,h2,kA,kO,nb]
 exact .own _ _ 0 _ _ _ _ rfl rfl (λh=>by cases h)
theorem kKeyC{rows:Rows}{d:D}{c:pj}(h:bY rows (cj tS) d c)(hc:c.ws.length=64)(k:D->Rows->Prop):aG VT rows k [d]=k (.sl L8 (0+rows.length) [] 0 56 false) (rows++[some ⟨L8,bs (oa c)⟩]):=by
 refine(cL h (by simp[hc]) rfl k).trans ?_
 have:(oa c).length=56:=by rw[oa,pN,aau,aat,aaA,hc];rfl
 simp[eR,shift,af,Sh.pure,this]
theorem kLife{rows:Rows}{d:D}{c:pj}(h:bY rows (cj tS) d c)(hc:c.ws.length=64)(k:D->Rows->Prop):aG Mq rows k [d]=k (.raw (it (eB c:Int))) rows:=by
 refine(cL h (by simp[hc]) rfl k).trans ?_
 simp[shift,af]
theorem kCtr{rows:Rows}{d:D}{c:pj}(h:bY rows (cj tS) d c)(hc:c.ws.length=64)(k:D->Rows->Prop):aG fCtr rows k [d]=k (.raw (it (mO c:Int))) rows:=by
 refine(cL h (by simp[hc]) rfl k).trans ?_
 simp[shift,af]
theorem bY.tS{rows:Rows}(c:pj):bY rows (cj kj.tS) (kj.tS c) c:=⟨⟨_,rfl,bZ Hf c⟩,λ_=>bZ Hf c⟩
def VU:Fn:=nv eP (λp=>decide (p.length<=1000)) λp=>Oa (words (p.length/4) p)
theorem numb_ok(C:aU)(hC:aI C P):aQ C.aZ P 64 (Fn.run VU):=by
 refine cA (NC C hC) λds rows r h=>?_
 obtain⟨d,p,rfl,rfl,hd,hp,rfl⟩:=bd h
 obtain⟨e0,hx⟩:=cF hd
 simp only[aaq]at hp
 refine⟨rfl,_,.cons hx .nil,ae rfl ?_⟩
 clear h hd hx
 unfold Cc Cd
 simp only[↓ag,ah,simprocAttr]
 refine bx (p.length/4) (λi env rows=>(∃e,look env 0=some (.dh L8 (bs (p.drop (4*i))) e))/\∃d,look env 3=some d/\jy cN d rows (us (words i p))) ?_ ?_ ⟨⟨e0,?_⟩,_,?_,.nil⟩
 ·rintro i hi env rows ⟨⟨e,h0⟩,d,h3,hO⟩ R hR
  have hw:=Bc i p
  have hq:4<=(p.drop (4*i)).length:=by rw[aat];omega
  have hdd:p.drop (4*(i+1))=(p.drop (4*i)).drop 4:=by rw[abr];rfl
  have hb:(p.drop (4*i)).length<=1000:=by rw[aat];omega
  rw[qR _ 4 (aax _)]at hw
  simp only[hdd]at hR
  clear hdd
  generalize p.drop (4*i)=q at*
  have e0:((4:Int)<=((q.length:Nat):Int))=True:=aas (by omega)
  have gi:∀j:Nat,j<4->(bs q)[j]?=some (.raw (u8 (q.getD j 0#8))):=λj hj=>tJ (by omega)
  have g0:=gi 0 (by decide)
  have g1:=gi 1 (by decide)
  have g2:=gi 2 (by decide)
  have g3:=gi 3 (by decide)
  have l0:((0:Int)<((q.length:Nat):Int))=True:=aas (by omega)
  have l1:((1:Int)<((q.length:Nat):Int))=True:=aas (by omega)
  have l2:((2:Int)<((q.length:Nat):Int))=True:=aas (by omega)
  have l3:((3:Int)<((q.length:Nat):Int))=True:=aas (by omega)
  have hT:(bs (q.drop 4)).take (q.length-4)=bs (q.drop 4):=aar (by rw[aE,aat];omega)
  simp only[↓ag,ah,simprocAttr,aK,h0,h3,aE,e0,g0,g1,g2,g3,l0,l1,l2,l3]
  refine lg hO.push (by rw[oV,fH];simp[most];omega) (by rw[oV,fH];simp[most];omega) λd2 aa GV qJ yt _=>?_
  have hO2:jy cN d2 aa (us (words (i+1) p)):=by
   rw[hw,<-TC];exact GV
  simp only[↓ag,ah,simprocAttr,aK,h0,aE,hU,hT,e0,aaz]
  exact hR _ _ ⟨⟨_,rfl⟩,d2,by simp only[↓ag,ah,simprocAttr],hO2⟩
 ·rintro env rows ⟨⟨e,h0⟩,d,h3,hO⟩ R
  have e0:((4:Int)<=(((p.drop (4*(p.length/4))).length:Nat):Int))=False:=aaw (by rw[aat];omega)
  simp only[↓ag,ah,simprocAttr,h0,h3,aE,e0,hO.qc]
  have:=jy.VK hO rfl
  rw[oV,fH]at this
  rw[Oa,fH]
  exact this
 ·simp only[↓ag,ah,simprocAttr]
 ·simp only[↓ag,ah,simprocAttr]
theorem kNumb(rows:Rows)(k:D->Rows->Prop)(d:D)(p:List (BitVec 8))(h:aY rows d p)(hp:p.length<=1000):aG VU rows k [d]=k (.sl cN (0+rows.length) [] 0 (p.length/4) false) (rows++[some ⟨cN,us (words (p.length/4) p)⟩]):=by
 refine(cL (.bs h) (by simp[hp]) rfl k).trans ?_
 simp[Oa,shift,af,Sh.pure,fH]
theorem bY.usA{rows:Rows}{r n i:Nat}{q:List Nat}{ex:Bool}{row:Row}{l:List (BitVec 32)}(h:live rows r=some row)(hg:cM row.els (i::q)=some (.agg (.ar n cN) (kj.us l)))(hl:l.length=n):bY rows (qu cN uD) (.sl cN r (i::q) 0 n ex) l:=by
 refine⟨⟨.dh cN (kj.us l) ex,?_,I8 uD_inj _ ex⟩,λh=>by simp[bb]at h⟩
 have:elems rows (.sl cN r (i::q) 0 n ex)=some (kj.us l):=by
  simp only[elems,h,hg]
  simp[aar,oV,hl]
 simp only[view]
 rw[this]
 simp only[oV,hl]
 simp[Sh.pure]
abbrev K4:Sh:= .cons LI (.cons cN .nil)
abbrev Wr:=Nat×BitVec 32
def wrD(p:Wr):D:= .agg K4 [.raw (it (p.1:Int)),.raw (u32 p.2)]
def Mr(W:List (BitVec 32))(f:Nat)(l:List (BitVec 32))(i:Nat):List Wr:=
 if W.getD (f+i) 0#32|||l.getD i 0#32=W.getD (f+i) 0#32 then[]else[(f+i,W.getD (f+i) 0#32|||l.getD i 0#32)]
def pO(W:List (BitVec 32))(f:Nat)(l:List (BitVec 32)):Nat->List Wr
 |0=>[]
 |n+1=>pO W f l n++Mr W f l n
def jP(W:List (BitVec 32))(f:Nat)(l:List (BitVec 32)):List Wr:=pO W f l l.length
theorem oY(W:List (BitVec 32))(f:Nat)(l:List (BitVec 32)):∀n,(pO W f l n).length<=n
 |0=>aax _
 |n+1=>by
  have:=oY W f l n
  rw[pO,aap,Mr]
  split<;>simp<;>omega
def QK(l:List Wr):D×Rows:=(.sl K4 0 [] 0 l.length false,[some ⟨K4,l.map wrD⟩])
noncomputable def Mt:Fn:=Kx (cj tS) u9 (qu cN uD) (λc f l=>decide (c.ws.length=64)&&decide (0<=f)&&decide (f+l.length<=64)) λc f l=>QK (jP c.w f.toNat l)
theorem plan_ok(C:aU)(hC:aI C P)(h1:C.fn 65=some Dn):aQ C.aZ P 66 (Fn.run Mt):=by
 refine cA (GH C hC) λds rows r h=>?_
 obtain⟨d0,d1,d2,c,f0,l,rfl,rfl,hd,he,hf,hp,rfl⟩:=fV h
 cases aH hd
 cases bX he
 obtain⟨e,hx⟩:=zd hf
 simp only[aan,aaq]at hp
 obtain⟨⟨hc,hf0⟩,hl⟩:=hp
 obtain⟨f,rfl⟩:=aaH hf0
 refine⟨rfl,_,.cons (.refl _) (.cons (.refl _) (.cons hx .nil)),ae rfl ?_⟩
 clear h hd he hf hx
 unfold wm wq
 have hm:c.w.length=64:=by rw[aaA,hc]
 have kA:=λrows k=>Mp rows k c hc
 have hle:(l.map uD).length=l.length:=aaA ..
 rw[jP,aaz]
 have g0:=λi (hi:f+i<64)=>lM (l:=c.w) (i:=f+i) (by omega)
 simp only[↓ag,ah,simprocAttr,hle]
 refine bx l.length (λi env rows=>has env [(13,.raw (it (i:Int))),(12,.raw (it (l.length:Int))),(11,.dh cN (l.map uD) e),(1,.raw (it (f:Int))),(0,tS c)]/\∃d,look env 7=some d/\jy K4 d rows ((pO c.w f l i).map wrD)) ?_ ?_ ⟨?_,_,?_,.nil⟩
 ·rintro i hi env rows ⟨hh,d,h7,hO⟩ R hR
  simp only[has]at hh
  have e0:((i:Int)<(l.length:Int))=True:=aas (by omega)
  have e1:=cG i (by omega)
  have e2:wz ((f:Int)+(i:Int))=((f+i:Nat):Int):=by rw[bh (by omega)];omega
  have e3:(((f+i:Nat):Int)<64)=True:=aas (by omega)
  have gi:=λrows k=>Ob (s:=cN) (l:=l.map uD) (i:=i) (by omega) e rows k
  have gx:(l.map uD)[i]'(by omega)= .raw (u32 (l.getD i 0#32)):=by simp[List.getD,hi]
  rw[gx]at gi
  have g1:=g0 i (by omega)
  have qm:=oY c.w f l i
  have hps:pO c.w f l (i+1)=pO c.w f l i++Mr c.w f l i:=rfl
  rw[Mr]at hps
  generalize l.getD i 0#32=v at*
  generalize c.w.getD (f+i) 0#32=o at*
  by_cases hv:o|||v=o
  ·have mW:(o|||v=o)=True:=aas hv
   rw[aaJ hv,aaS]at hps
   simp only[↓ag,ah,simprocAttr,aK,hh,h7,e0,e1,e2,e3,gi,h1,kA,g1,mW,abc,aaz,aaD]
   exact hR _ _ ⟨by simp only[has,↓ag,ah,simprocAttr,hh],d,by simp only[↓ag,ah,simprocAttr,h7],by rw[hps];exact hO.push⟩
  ·have mW:(o|||v=o)=False:=aaw hv
   rw[aaC hv]at hps
   simp only[↓ag,ah,simprocAttr,aK,hh,h7,e0,e1,e2,e3,gi,h1,kA,g1,mW,abc,aaz,aaE]
   refine lg hO.push (by rw[aaA];simp[most];omega) (by rw[aaA];simp[most];omega) λd2 aa GV qJ yt _=>?_
   simp only[↓ag,ah,simprocAttr,aK,hh,e1]
   exact hR _ _ ⟨by simp only[has,↓ag,ah,simprocAttr,hh],d2,by simp only[↓ag,ah,simprocAttr],by rw[hps,adi];exact GV⟩
 ·rintro env rows ⟨hh,d,h7,hO⟩ R
  simp only[has]at hh
  have e0:((l.length:Int)<(l.length:Int))=False:=aaw (by omega)
  simp only[↓ag,ah,simprocAttr,hh,h7,e0,hO.qc]
  have:=jy.VK hO rfl
  rw[aaA]at this
  exact this
 ·simp only[has,↓ag,ah,simprocAttr]
 ·simp only[↓ag,ah,simprocAttr]
theorem kPlan{rows:Rows}{d:D}(c:pj)(f:Nat)(fi:Int)(hf:fi=(f:Int)){l:List (BitVec 32)}(h:bY rows (qu cN uD) d l)(hc:c.ws.length=64)(hl:f+l.length<=64)(k:D->Rows->Prop):
  aG Mt rows k [tS c,.raw (it fi),d]=k (.sl K4 (0+rows.length) [] 0 (jP c.w f l).length false) (rows++[some ⟨K4,(jP c.w f l).map wrD⟩]):=by
 subst hf
 refine(gP (.tS c) (.int _) h (by simp[hc];omega) rfl k).trans ?_
 simp[QK,shift,af,Sh.pure]
noncomputable def Dq:Fn:=zy (cj tS) u9 (λc n=>decide (c.ws.length=64)&&decide (1<=n)&&decide (n<=4)&&decide ((eB c:Int)<n)) λc n=>
 (.cd [.sl K4 0 [] 0 (jP c.w 0 [255#32<<<(8*(n.toNat-1))]).length false,.raw (it 0)],(QK (jP c.w 0 [255#32<<<(8*(n.toNat-1))])).2)
theorem Yp(C:aU)(hC:aI C P)(h1:C.fn 63=some Mq)(h2:C.fn 66=some Mt):aQ C.aZ P 25 (Fn.run Dq):=by
 refine aJ (BZ C hC) λds rows r h=>?_
 obtain⟨d,e,c,n,rfl,rfl,hd,he,hp,rfl⟩:=dS h
 cases aH hd
 cases bX he
 simp only[aan,aaq]at hp
 obtain⟨⟨⟨hc,hn1⟩,TY⟩,hl⟩:=hp
 obtain⟨m,rfl⟩:∃m:Nat,n=((m+1:Nat):Int):=⟨n.toNat-1,by omega⟩
 refine⟨rfl,ae rfl ?_⟩
 clear h hd he
 unfold sY sZ
 have nb:Np (tS c) (.raw (.pointer none))=some false:=rfl
 have kL:=λrows k=>kLife (.tS (rows:=rows) c) hc k
 have e1:(((m+1:Nat):Int)<1)=False:=aaw (by omega)
 have e2:((4:Int)<((m+1:Nat):Int))=False:=aaw (by omega)
 have e3:(((m+1:Nat):Int)<=(eB c:Int))=False:=aaw (by omega)
 have e4:wz (((m+1:Nat):Int)-1)=(m:Int):=by rw[bh (by omega)];omega
 have e5:wz (8*(m:Int))=((8*m:Nat):Int):=by rw[bh (by omega)];omega
 have kP:=λk=>kPlan (rows:=[some ⟨cN,us [255#32<<<(8*m)]⟩]) (d:= .sl cN 0 [] 0 1 true) c 0 0 rfl (l:=[255#32<<<(8*m)]) (bY.us (l:=[255#32<<<(8*m)]) rfl (by simp)) hc (by simp) k
 simp only[us,abm,adJ]at kP
 simp only[aaz,Nat.add_sub_cancel]
 simp only[↓ag,ah,simprocAttr,aK,nb,h1,h2,kL,e1,e2,e3,e4,e5,kP,abc,aaz]
 exact .Nl _ _ _ _ _ _ _ _ rfl rfl rfl (λh=>by cases h)
theorem VV{rows:Rows}{d:D}{c:pj}(h:bY rows (cj tS) d c)(hc:c.ws.length=64)(m:Nat)(hm:m<4)(hl:eB c<=m)(k:D->Rows->Prop):
  aG Dq rows k [d,.raw (it ((m+1:Nat):Int))]=k (.cd [.sl K4 (0+rows.length) [] 0 (jP c.w 0 [255#32<<<(8*m)]).length false,.raw (it 0)]) (rows++[some ⟨K4,(jP c.w 0 [255#32<<<(8*m)]).map wrD⟩]):=by
 refine(lY h (.int _) (by simp[hc];omega) rfl k).trans ?_
 simp[QK,shift,bD,af,Sh.pure]
def oZ(n:Nat):List (BitVec 32):=(List.range 8).map λj=>BitVec.ofNat 32 (2^(min (n-32*j) 32)-1)
noncomputable def Oc:Fn:=zy (cj tS) u9 (λc n=>decide (c.ws.length=64)&&decide (0<=n)&&decide (n<=255)&&decide ((mO c:Int)<=n)) λc n=>
 (.cd [.sl K4 0 [] 0 (jP c.w 1 (oZ n.toNat)).length false,.raw (it 0)],(QK (jP c.w 1 (oZ n.toNat))).2)
theorem jM(n:Nat):(oZ n).length=8:=by simp[oZ]
theorem Yq:∀n,n<256->(oZ n).set (n/32) ((oZ n).getD (n/32) 0#32|||1#32<<<(n %32))=oZ (n+1):=by decide
theorem toctr_ok(C:aU)(hC:aI C P)(h1:C.fn 176=some fCtr)(h2:C.fn 66=some Mt):aQ C.aZ P 116 (Fn.run Oc):=by
 refine aJ (xV C hC) λds rows r h=>?_
 obtain⟨d,e,c,n,rfl,rfl,hd,he,hp,rfl⟩:=dS h
 cases aH hd
 cases bX he
 simp only[aan,aaq]at hp
 obtain⟨⟨⟨hc,hn1⟩,TY⟩,hl⟩:=hp
 obtain⟨m,rfl⟩:=aaH hn1
 refine⟨rfl,ae rfl ?_⟩
 clear h hd he
 unfold pL pM
 have nb:Np (tS c) (.raw (.pointer none))=some false:=rfl
 have kL:=λrows k=>kCtr (.tS (rows:=rows) c) hc k
 have e1:((m:Int)<0)=False:=aaw (by omega)
 have e2:((255:Int)<(m:Int))=False:=aaw (by omega)
 have e3:((m:Int)<(mO c:Int))=False:=aaw (by omega)
 have hz:List.replicate 8 (D.raw (u32 0#32))=us (oZ 0):=rfl
 rw[aaz]
 simp only[hz]
 simp only[↓ag,ah,simprocAttr,aK,nb,h1,kL,e1,e2,e3]
 refine bx m (λi env rows=>has env [(24,.raw (it (i:Int))),(23,.raw (it (m:Int))),(6,.ptr (.ar 8 cN) 0 [0]),(0,tS c)]/\rows=[some ⟨.ar 8 cN,[.agg (.ar 8 cN) (us (oZ i))]⟩]) ?_ ?_ ⟨?_,rfl⟩
 ·rintro i hi env rows ⟨hh,rfl⟩ R hR
  simp only[has]at hh
  have e0:((i:Int)<(m:Int))=True:=aas (by omega)
  have e1:=cG i (by omega)
  have e2:wz (Int.tdiv (i:Int) 32)=((i/32:Nat):Int):=tdivN i 32 (by omega)
  have e3:Int.tmod (i:Int) 32=((i %32:Nat):Int):=rfl
  have e4:(((i/32:Nat):Int)<8)=True:=aas (by omega)
  have g:=lM (l:=oZ i) (i:=i/32) (by rw[jM];omega)
  have hs:=Yq i (by omega)
  simp only[↓ag,ah,simprocAttr,aK,hh,e0,e1,e2,e3,e4,g,NT,hs,abc,aaz]
  exact hR _ _ ⟨by simp only[has,↓ag,ah,simprocAttr,hh],rfl⟩
 ·rintro env rows ⟨hh,rfl⟩ R
  simp only[has]at hh
  have e0:((m:Int)<(m:Int))=False:=aaw (by omega)
  have kP:=λex k=>kPlan (rows:=[some ⟨.ar 8 cN,[.agg (.ar 8 cN) (us (oZ m))]⟩]) (d:= .sl cN 0 [0] 0 8 ex) c 1 1 rfl (l:=oZ m) (bY.usA (n:=8) rfl rfl (jM m)) hc (by rw[jM];decide) k
  simp only[↓ag,ah,simprocAttr,aK,hh,e0,h2,kP]
  exact .Nl _ _ _ _ _ _ _ _ rfl rfl rfl (λh=>by cases h)
 ·simp only[has,↓ag,ah,simprocAttr]
theorem kToCtr{rows:Rows}{d:D}{c:pj}(h:bY rows (cj tS) d c)(hc:c.ws.length=64)(m:Nat)(hm:m<=255)(hl:mO c<=m)(k:D->Rows->Prop):
  aG Oc rows k [d,.raw (it (m:Int))]=k (.cd [.sl K4 (0+rows.length) [] 0 (jP c.w 1 (oZ m)).length false,.raw (it 0)]) (rows++[some ⟨K4,(jP c.w 1 (oZ m)).map wrD⟩]):=by
 refine(lY h (.int _) (by simp[hc];omega) rfl k).trans ?_
 simp[QK,shift,bD,af,Sh.pure]
def Sd:List (BitVec 8):=2#8::List.replicate 15 0#8
noncomputable def Jj:Fn:=Kx (cj tS) eP (cj Ar) (λc p n=>decide (c.ws.length=64)&&decide (p.length=56)&&decide (n.length=16)&&decide (eB c=0)&&(c.w.drop 9).all λw=>decide (w=0#32)) λc p n=>
 (.cd [.sl K4 0 [] 0 (jP c.w 9 (words 14 p++words 4 n)).length false,.raw (it 0)],(QK (jP c.w 9 (words 14 p++words 4 n))).2)
theorem tokey_ok(C:aU)(hC:aI C P)(h0:C.fn 65=some Dn)(h1:C.fn 63=some Mq)(h2:C.fn 66=some Mt)(h3:C.fn 64=some VU):aQ C.aZ P 21 (Fn.run Jj):=by
 refine cA (Es C hC) λds rows r h=>?_
 obtain⟨d0,d1,d2,c,p,n,rfl,rfl,hd,he,hf,hp,rfl⟩:=fV h
 cases aH hd
 cases aH hf
 obtain⟨e,hx⟩:=cF he
 simp only[aan,aaq]at hp
 obtain⟨⟨⟨⟨hc,hp56⟩,hn⟩,hl⟩,hz⟩:=hp
 refine⟨rfl,_,.cons (.refl _) (.cons hx (.cons (.refl _) .nil)),ae rfl ?_⟩
 clear h hd he hf hx
 unfold ui uj
 have nb:Np (tS c) (.raw (.pointer none))=some false:=rfl
 have hm:c.w.length=64:=by rw[aaA,hc]
 have kA:=λrows k=>Mp rows k c hc
 have kL:=λrows k=>kLife (.tS (rows:=rows) c) hc k
 rw[hl]at kL
 have w14:=fH 14 p
 have w4:=fH 4 n
 have kN1:=λrows k=>kNumb rows k (.dh L8 (bs p) e) p (eC.to (.inr ⟨e,rfl⟩)) (by omega)
 have kN2:=λex k=>kNumb [some ⟨.ar 16 L8,[.agg (.ar 16 L8) (bs n)]⟩,some ⟨cN,us (words 14 p)⟩] k (.sl L8 0 [0] 0 16 ex) n (aY.uL (n:=16) rfl rfl hn) (by omega)
 rw[hp56]at kN1
 rw[hn]at kN2
 have hsr:(us (words 4 n)).take 4=us (words 4 n):=aar (by rw[oV,w4];exact aax _)
 have hu4:(us (words 4 n)).length=4:=by rw[oV,w4]
 have hu14:(us (words 14 p)).take 14=us (words 14 p):=aar (by rw[oV,w14];exact aax _)
 have hv14:(us (words 14 p)).length=14:=by rw[oV,w14]
 have hwl:(words 14 p++words 4 n).length=18:=by rw[aap,w14,w4]
 have hW:∀i,i<18->(us c.w)[9+i]?=some (.raw (u32 0#32)):=λi hi=>by
  have h2:(c.w.drop 9)[i]'(by rw[aat];omega)=0#32:=acs (aa4.1 hz _ (abJ _))
  rw[lM (by omega),aay,aao (by omega)]
  rw[List.getElem_drop]at h2
  simp[h2]
 simp only[Ar,↓ag,ah,simprocAttr,aK,nb,h1,kL,hp56,aE,h3,kN1,kN2,hsr,hu4,hu14,hv14]
 rw[TC]
 generalize words 14 p++words 4 n=l at*
 refine bx 18 (λi env rows=>has env [(29,.raw (it (i:Int))),(28,.raw (it 18)),(27,.sl cN 3 [] 0 18 false),(8,.sl cN 3 [] 0 18 false),(0,tS c)]/\live rows 3=some ⟨cN,us l⟩) ?_ ?_ ⟨?_,rfl⟩
 ·rintro i hi env rows ⟨hh,hq⟩ R hR
  simp only[has]at hh
  have e0:((i:Int)<18)=True:=aas (by omega)
  have e1:=cG i (by omega)
  have e2:wz (9+(i:Int))=((9+i:Nat):Int):=by rw[bh (by omega)];omega
  have e3:(((9+i:Nat):Int)<64)=True:=aas (by omega)
  have g:=lM (l:=l) (i:=i) (by omega)
  have g2:=hW i hi
  have z:∀v:BitVec 32,0#32&&&~~~v=0#32:=λv=>BitVec.zero_and
  simp only[↓ag,ah,simprocAttr,aK,hh,hq,e0,e1,e2,e3,g,g2,z,h0,kA,abc,aaz]
  exact hR _ _ ⟨by simp only[has,↓ag,ah,simprocAttr,hh],ab hq _⟩
 ·rintro env rows ⟨hh,hq⟩ R
  simp only[has]at hh
  have e0:((18:Int)<18)=False:=aaw (by omega)
  have hr:=bY.us (rows:=rows) (r:=3) (off:=0) (len:=18) (ex:=false) hq (by omega)
  rw[abz,aar (by omega)]at hr
  have kP:=λk=>kPlan c 9 9 rfl hr hc (by omega) k
  simp only[↓ag,ah,simprocAttr,aK,hh,e0,h2,kP]
  exact .Nl _ _ _ _ _ _ _ _ (by rw[a9];rfl) rfl rfl (λh=>by cases h)
 ·simp only[has,↓ag,ah,simprocAttr]
theorem kToKey{rows:Rows}{d e:D}{c:pj}{p n:List (BitVec 8)}(iv:n.length=16)(h:bY rows (cj tS) d c)(hc:c.ws.length=64)(hb:aY rows e p)(hp:p.length=56)(hl:eB c=0)(hz:∀w∈c.w.drop 9,w=0#32)(k:D->Rows->Prop):
  aG Jj rows k [d,e,.agg (.ar 16 L8) (bs n)]=k (.cd [.sl K4 (0+rows.length) [] 0 (jP c.w 9 (words 14 p++words 4 n)).length false,.raw (it 0)]) (rows++[some ⟨K4,(jP c.w 9 (words 14 p++words 4 n)).map wrD⟩]):=by
 refine(gP h (.bs hb) (Hd n) (by simp[hc,hp,hl,iv];simpa using hz) rfl k).trans ?_
 simp[QK,shift,bD,af,Sh.pure]
end kj
end Go.Am

namespace Go.Am
attribute [local congr] cJ bI cK bJ bK b6 bw bN bO b7 bi b8 bP cI
namespace kj
open Go.Am.F
def E3(t:Nat)(s:Site)(c msg:List (BitVec 8)):List Nat:=gu t (mi s.id s.q c msg)
theorem Od(t:Nat)(s:Site)(c msg:List (BitVec 8)):(E3 t s c msg).length=pT t:=by simp[E3,gu,yp]
theorem Oe{t:Nat}(h:vi t=true)(d:List (BitVec 8))(i:Nat):(gu t d).getD i 0<=2^wT t-1:=by
 by_cases c:i<(gu t d).length
 ·have hc:=c
  simp only[gu,yp,aaA,acY]at hc
  simp only[gu,yp,List.getD,abl,adx hc,acu,adt]
  exact QJ _ _ _ (mI h).1
 ·rw[List.getD,abv (by omega)];exact acm _
def lO(t:Nat)(s:Site)(aM c msg:List (BitVec 8))(n:Nat):List (List (BitVec 8)):=(List.range n).map λi=>KZ s.id s.q i ((E3 t s c msg).getD i 0) 0 (GU s.id s.q i aM)
theorem E4(t:Nat)(s:Site)(aM c msg:List (BitVec 8))(n:Nat):∀x∈lO t s aM c msg n,x.length=32:=by
 intro x hx
 obtain⟨i,-,rfl⟩:=acL.1 hx
 exact zf _ _ _ _ _ _ (qT _ _ _ _ _)
def nh(t:BitVec 32)(s:Site)(aM c msg:List (BitVec 8)):List (BitVec 8):=bz t++c++(lO t.toNat s aM c msg (pT t.toNat)).flatten
theorem uP(t:BitVec 32)(s:Site)(aM c msg:List (BitVec 8))(hc:c.length=32):(nh t s aM c msg).length=36+32*pT t.toNat:=by
 rw[nh,aap,aap,uK (E4 _ _ _ _ _ _),hc,lO,aaA,acY];rfl
noncomputable def VW:Fn:=gn5 ry (cj fJ) (cj aV) (cj aV) eP (λ_ s x c _=>decide (s.id.length=16)&&decide (x.length=32)&&decide (c.length=32)) λt s x c m=>bif vi t.toNat then(.cd [.sl L8 0 [] 0 (36+32*pT t.toNat) false,.raw (it 0)],[some ⟨L8,bs (nh t s x c m)⟩])else(.cd [.raw (.slice none 0 0),.raw (it 6)],[])
theorem sign_ok(C:aU)(hC:aI C P)(h1:C.fn 49=some nS)(h2:C.fn 190=some Au)(h3:C.fn 120=some Dj)(h4:C.fn 118=some EY)(h5:C.fn 76=some Mn)(h6:C.fn 75=some zh):aQ C.aZ P 136 (Fn.run VW):=by
 refine aJ (Tr C hC) λds rows r h=>?_
 obtain⟨d0,d1,d2,d3,d4,t,s,aM,c,msg,rfl,rfl,g0,g1,g2,g3,g4,hp,rfl⟩:=QB h
 cases dY g0
 cases aH g1
 cases aH g2
 cases aH g3
 have gm:=fC g4
 simp only[aan,aaq]at hp
 obtain⟨⟨iv,ri⟩,jt⟩:=hp
 clear h g0 g1 g2 g3 g4
 have hz:D.agg si [.raw (it 0),.raw (it 0),.raw (it 0)]=kq ⟨0,0,0⟩:=rfl
 have kP:=λrows k=>pi rows k t
 cases hk:vi t.toNat
 ·rw[hk]at kP
  refine⟨rfl,ae rfl ?_⟩
  unfold AV AW
  simp only[hz,eu]
  simp only[↓ag,ah,simprocAttr,aK,aV,h1,kP,dC,ey,abT,aaK]
  exact .val _ rfl
 ·have hpt:pT t.toNat<=265:=(mI hk).2.2.1
  have hpw:2^wT t.toNat<=256:=TS (mI hk).1
  have hsg:nh t s aM c msg=bz t++c++(lO t.toNat s aM c msg (pT t.toNat)).flatten:=rfl
  have zH:=Oe hk (mi s.id s.q c msg)
  have tR:=Od t.toNat s c msg
  have hml:(mi s.id s.q c msg).length=32:=dk _
  have kD:=λrows k=>N8 rows k t (mi s.id s.q c msg) hml hk
  have Sx:∀i,(lO t.toNat s aM c msg i).flatten++KZ s.id s.q i ((E3 t.toNat s c msg).getD i 0-0) 0 (GU s.id s.q i aM)=(lO t.toNat s aM c msg (i+1)).flatten:=λi=>by simp[lO,abL]
  have qj:∀i,(bz t++c++(lO t.toNat s aM c msg i).flatten).length=36+32*i:=λi=>by
   rw[aap,aap,uK (E4 _ _ _ _ _ _),jt,lO,aaA,acY];rfl
  rw[hk]at kP
  refine⟨rfl,ae rfl ?_⟩
  unfold AV AW
  simp only[hz,eu]
  simp only[↓ag,ah,simprocAttr,aK,aV,h1,kP,dC,ey,h2,QD,abw,aaU]
  rw[qS (n:=32) rfl rfl jt]
  have tk:List.take 4 (bs (bz t))=bs (bz t):=rfl
  refine⟨by rw[aE];exact jt,rfl,by rw[aE];omega,by rw[aE];omega,?_⟩
  rw[tk,qe,aE,jt]
  simp only[↓ag,ah,simprocAttr,aK,h5]
  refine Eq.mpr (kMash _ _ s c msg d4 (gm.to) iv jt) ?_
  simp only[↓ag,ah,simprocAttr,aK,h6,kD]
  have hf0:bz t++c++(lO t.toNat s aM c msg 0).flatten=bz t++c:=by simp[lO]
  refine bx (pT t.toNat) (λi env rows=>has env [(36,.raw (it (i:Int))),(35,.raw (it (pT t.toNat:Int))),(34,.sl LI 6 [] 0 (pT t.toNat) false),(7,.ptr (.ar 32 L8) 1 [0]),(6,.ptr yo 0 [0])]/\
   live rows 0=some ⟨yo,[fJ s]⟩/\live rows 1=some ⟨.ar 32 L8,[.agg (.ar 32 L8) (bs aM)]⟩/\live rows 6=some ⟨LI,(gu t.toNat (mi s.id s.q c msg)).map yq⟩/\
   ∃d',look env 14=some d'/\jy L8 d' rows (bs (bz t++c++(lO t.toNat s aM c msg i).flatten))) ?_ ?_ ⟨?_,rfl,rfl,rfl,.sl L8 5 [] 0 36 false,?_,.inr ⟨5,false,by rw[aE,qj 0],by rw[hf0];rfl⟩⟩
  ·rintro i hi env rows ⟨hh,r0,r1,r6,d',h14,hO⟩ R hR
   simp only[has]at hh
   have e0:((i:Int)<(pT t.toNat:Int))=True:=aas (by omega)
   have e1:=cG i (by omega)
   have b0:∀n:Nat,((0:Int)<=(n:Int))=True:=λn=>aas (by omega)
   have hai:=zH i
   have gi:((gu t.toNat (mi s.id s.q c msg)).map yq)[i]?=some (.raw (it ((E3 t.toNat s c msg).getD i 0:Int))):=by
    have hl:i<(gu t.toNat (mi s.id s.q c msg)).length:=by rw[show(gu t.toNat (mi s.id s.q c msg)).length=pT t.toNat from tR];exact hi
    simp[yq,E3,List.getD,hl]
   have hai:(E3 t.toNat s c msg).getD i 0<=255:=by have:(E3 t.toNat s c msg).getD i 0<=2^wT t.toNat-1:=hai;omega
   have hs:=Sx i
   generalize (E3 t.toNat s c msg).getD i 0=ai at*
   have kS:=λrows k=>VI rows k s i aM iv (by omega) ri
   have kC:=λrows k=>TR rows k s i 0 ai (GU s.id s.q i aM) iv (by omega) (by decide) (by omega) (qT _ _ _ _ _)
   have hx:=zf s.id s.q i (ai-0) 0 (GU s.id s.q i aM) (qT _ _ _ _ _)
   rw[show((0:Nat):Int)=0 from rfl]at kC
   generalize KZ s.id s.q i (ai-0) 0 (GU s.id s.q i aM)=xi at*
   have ea:∀ex,elems (rows++[some ⟨.ar 32 L8,[.agg (.ar 32 L8) (bs xi)]⟩]) (.sl L8 rows.length [0] 0 32 ex)=some (bs xi):=λex=>qS (n:=32) (by rw[a9];rfl) rfl hx
   simp only[↓ag,ah,simprocAttr,aK,hh,e0,e1,b0,h14,ey,r0,r1,r6,gi,h3,kS,h4,kC,ea,aE,hx]
   refine lg hO.push (by rw[aE,aE,hx,qj];simp[most];omega) (by rw[aE,aE,hx,qj];simp[most];omega) λd2 aa GV qJ yt _=>?_
   rw[qe,aaB _ _ xi,hs]at GV
   have r0':=qJ 0 _ (ab r0 _) (λex=>ia hO r0 (by decide) ex _)
   have r1':=qJ 1 _ (ab r1 _) (λex=>ia hO r1 (by decide) ex _)
   have r6':=qJ 6 _ (ab r6 _) (λex=>ia hO r6 (by decide) ex _)
   simp only[↓ag,ah,simprocAttr,aK,hh,e1]
   exact hR _ _ ⟨by simp only[has,↓ag,ah,simprocAttr,hh],r0',r1',r6',d2,by simp only[↓ag,ah,simprocAttr],GV⟩
  ·rintro env rows ⟨hh,r0,r1,r6,d',h14,hO⟩ R
   simp only[has]at hh
   have e0:((pT t.toNat:Int)<(pT t.toNat:Int))=False:=aaw (by omega)
   rw[<-hsg]at hO
   simp only[↓ag,ah,simprocAttr,aK,hh,e0,h14,hO.qc]
   have hl:=uP t s aM c msg jt
   rcases hO with⟨h,_⟩|⟨r,ex,rfl,hlv⟩
   ·have:=ach List.length h;rw[aE,hl]at this;simp at this
   ·rw[aE,hl]
    exact .Nl L8 r 0 _ ex false _ _ hlv rfl rfl (λh=>by cases h)
  ·simp only[has,↓ag,ah,simprocAttr]
  ·simp only[↓ag,ah,simprocAttr]
theorem kSign(rows:Rows)(k:D->Rows->Prop)(t:BitVec 32)(s:Site)(x c m:List (BitVec 8))(d:D)(hd:aY rows d m)(iv:s.id.length=16)(hx:x.length=32)(hc:c.length=32)(ht:vi t.toNat=true):
  aG VW rows k [.raw (u32 t),fJ s,.agg (.ar 32 L8) (bs x),.agg (.ar 32 L8) (bs c),d]=k (.cd [.sl L8 (0+rows.length) [] 0 (36+32*pT t.toNat) false,.raw (it 0)]) (rows++[some ⟨L8,bs (nh t s x c m)⟩]):=by
 refine(QC (bY.raw (fL t)) (lZ s rows) (ko x) (ko c) (.bs hd) (by simp[iv,hx,hc]) (by simp[ht,cv,lc,aV,Sh.pure,bf]) k).trans ?_
 simp[ht,shift,bD,af,Sh.pure]
def dU(p:List (BitVec 8)):BitVec 32:=dZ p
def ij(p:List (BitVec 8)):Int:=if p.length<4 then 2 else bif !vi (dU p).toNat then 6 else if p.length=36+32*pT (dU p).toNat then 0 else 2
def chunk(p:List (BitVec 8))(i:Nat):List (BitVec 8):=(p.drop (36+32*i)).take 32
def chunks(p:List (BitVec 8))(n:Nat):List (List (BitVec 8)):=(List.range n).map (chunk p)
def ny(p:List (BitVec 8)):List (BitVec 8):=(p.drop 4).take 32
def Jk:Fn:=nv eP (λp=>decide (p.length<=1099511627776)) λp=>if ij p=0 then(.cd [.raw (u32 (dU p)),aV (ny p),.sl (.ar 32 L8) 0 [] 0 (pT (dU p).toNat) false,.raw (it 0)],[some ⟨.ar 32 L8,(chunks p (pT (dU p).toNat)).map aV⟩])
 else(.cd [.raw (u32 0#32),aV sO,.raw (.slice none 0 0),.raw (it (ij p))],[])
theorem split_ok(C:aU)(hC:aI C P)(h1:C.fn 49=some nS):aQ C.aZ P 286 (Fn.run Jk):=by
 refine cA (Qq C hC) λds rows r h=>?_
 obtain⟨d,p,rfl,rfl,g0,hp,rfl⟩:=bd h
 obtain⟨ex,hx⟩:=cF g0
 simp only[aaq]at hp
 refine⟨rfl,_,.cons hx .nil,ae rfl ?_⟩
 clear h g0 hx
 have hz:D.agg si [.raw (it 0),.raw (it 0),.raw (it 0)]=kq ⟨0,0,0⟩:=rfl
 unfold Gc Gd
 simp only[hz,eu]
 by_cases c4:p.length<4
 ·have c4':((p.length:Int)<4)=True:=aas (by omega)
  have he:ij p=2:=by rw[ij,aaJ c4]
  rw[he,aaC (by decide)]
  simp only[↓ag,ah,simprocAttr,aK,aE,c4',aaD]
  exact .val _ rfl
 have c4':((p.length:Int)<4)=False:=aaw (by omega)
 have b0:∀n:Nat,((0:Int)<=(n:Int))=True:=λn=>aas (by omega)
 have b1:((1:Int)<(p.length:Int))=True:=aas (by omega)
 have b2:((2:Int)<(p.length:Int))=True:=aas (by omega)
 have b3:((3:Int)<(p.length:Int))=True:=aas (by omega)
 have b4:((0:Int)<(p.length:Int))=True:=aas (by omega)
 have t0:(bs p)[0]?=some (.raw (u8 (p.getD 0 0#8))):=tJ (by omega)
 have t1:(bs p)[1]?=some (.raw (u8 (p.getD 1 0#8))):=tJ (by omega)
 have t2:(bs p)[2]?=some (.raw (u8 (p.getD 2 0#8))):=tJ (by omega)
 have t3:(bs p)[3]?=some (.raw (u8 (p.getD 3 0#8))):=tJ (by omega)
 have hsT:(p.getD 0 0#8).setWidth 32<<<24|||(p.getD 1 0#8).setWidth 32<<<16|||(p.getD 2 0#8).setWidth 32<<<8|||(p.getD 3 0#8).setWidth 32=dU p:=rfl
 have kP:=λrows k=>pi rows k (dU p)
 cases hk:vi (dU p).toNat
 ·have he:ij p=6:=by rw[ij,aaC c4,hk];rfl
  rw[he,aaC (by decide)]
  rw[hk]at kP
  simp only[↓ag,ah,simprocAttr,aK,aE,c4',b0,b1,b2,b3,b4,t0,t1,t2,t3,aaE,h1,hsT,kP,dC,abT]
  exact .val _ rfl
 have hpt:pT (dU p).toNat<=265:=(mI hk).2.2.1
 have g1:(kq (wX (dU p).toNat)).get [1]=some (.raw (it (pT (dU p).toNat:Int))):=rfl
 have q1:wz ((pT (dU p).toNat:Int)+1)=((pT (dU p).toNat+1:Nat):Int):=cG _ (by omega)
 have q2:wz (32*((pT (dU p).toNat+1:Nat):Int))=((32*(pT (dU p).toNat+1):Nat):Int):=by rw[bh (by omega)];omega
 have q3:wz (4+((32*(pT (dU p).toNat+1):Nat):Int))=((36+32*pT (dU p).toNat:Nat):Int):=by rw[bh (by omega)];omega
 rw[hk]at kP
 by_cases cl:p.length=36+32*pT (dU p).toNat
 ·have cl':((p.length:Int)=((36+32*pT (dU p).toNat:Nat):Int))=True:=aas (by omega)
  have he:ij p=0:=by rw[ij,aaC c4,hk,aaJ cl];rfl
  rw[aaJ he]
  have g36:((36:Int)<=(p.length:Int))=True:=aas (by omega)
  simp only[↓ag,ah,simprocAttr,aK,aE,c4',b0,b1,b2,b3,b4,t0,t1,t2,t3,aaE,aaD,h1,hsT,kP,dC,abw,g1,q1,q2,q3,cl',g36,hU,fM]
  have hd0:(p.drop 36).take (p.length-36)=p.drop 36:=aar (by rw[aat];omega)
  rw[hd0]
  generalize qB none p.length p.length p.length ex=ex0
  have hp0:1<=pT (dU p).toNat:=by rcases Mm hk with e|e|e|e<;>rw[e]<;>decide
  generalize pT (dU p).toNat=NP at*
  generalize dU p=T at*
  have jt:∀i,i<NP->(chunk p i).length=32:=λi hi=>by rw[chunk,aau,aat];omega
  have hds:∀i,(chunks p i).map aV++[.agg (.ar 32 L8) (bs (chunk p i))]=(chunks p (i+1)).map aV:=λi=>by simp[chunks,abL,aV]
  have tR:∀i,(chunks p i).length=i:=λi=>by simp[chunks]
  refine bx NP (λi env rows=>has env [(6,.raw (u32 T)),(0,.dh L8 (bs p) ex),(3,.ptr (.ar 32 L8) 0 [0])]/\live rows 0=some ⟨.ar 32 L8,[.agg (.ar 32 L8) (bs sO)]⟩/\
   (∃e',look env 10=some (.dh L8 (bs (p.drop (36+32*i))) e'))/\∃d',look env 9=some d'/\jy (.ar 32 L8) d' rows ((chunks p i).map aV)/\(∀r ex n,d'= .sl (.ar 32 L8) r [] 0 n ex->1<=r)) ?_ ?_ ⟨?_,rfl,⟨ex0,?_⟩,.raw (.slice none 0 0),?_,.inl ⟨rfl,rfl⟩,λr ex n h=>?_⟩
  ·rintro i hi env rows ⟨hh,r0,⟨e',h10⟩,d',h9,hO,hne⟩ R hR
   simp only[has]at hh
   have yx:(p.drop (36+32*i)).length=32*(NP-i):=by rw[aat];omega
   have e0:((0:Int)<((32*(NP-i):Nat):Int))=True:=aas (by omega)
   have e1:((32:Int)<=((32*(NP-i):Nat):Int))=True:=aas (by omega)
   have lt0:=aR r0
   simp only[↓ag,ah,simprocAttr,aK,hh,h10,h9,aE,yx,e0,e1,hU,fM,aaD]
   have E5:List.take 32 (List.drop (36+32*i) p)=chunk p i:=rfl
   have hch2:List.take 32 (chunk p i)=chunk p i:=aar (by rw[jt i hi];exact aax _)
   simp only[E5,hch2]
   refine⟨by rw[jt i hi];exact aax _,yj hO.push (by rw[aaA,tR];simp[most];omega) (by rw[aaA,tR];simp[most];omega) λaa nA qJ yt=>?_⟩
   rw[hds,aap]at nA
   have nA:live aa (rows.length+1)=_:=nA
   have r0':=qJ 0 _ (ab r0 _) (λex n e=>by have:=hne _ _ _ e;omega)
   have PL:List.take (32*(NP-i)-32) (List.drop 32 (List.drop (36+32*i) p))=p.drop (36+32*(i+1)):=by
    rw[abr,show 36+32*i+32=36+32*(i+1) by omega,aar (by rw[aat];omega)]
   simp only[↓ag,ah,simprocAttr,aK,hh,h10,aE,yx,e1,hU,fM,PL]
   refine hR _ _ ⟨by simp only[has,↓ag,ah,simprocAttr,hh],r0',⟨qB none (32*(NP-i)) (32*(NP-i)) (32*(NP-i)) e',by simp only[↓ag,ah,simprocAttr]⟩,.sl (.ar 32 L8) (rows.length+1) [] 0 ((chunks p i).length+1) false,by simp only[↓ag,ah,simprocAttr,aaA],.inr ⟨_,false,by rw[aaA,tR,tR],nA⟩,λr ex n e=>by injection e with _ e;omega⟩
  ·rintro env rows ⟨hh,r0,⟨e',h10⟩,d',h9,hO,hne⟩ R
   simp only[has]at hh
   have yx:(p.drop (36+32*NP)).length=0:=by rw[aat];omega
   have g36:((36:Int)<=(p.length:Int))=True:=aas (by omega)
   have w0:=λy=>aD (y:=y) r0
   simp only[↓ag,ah,simprocAttr,aK,hh,h10,h9,aE,yx,g36,hU,fM,hO.qc,r0]
   have hsc:List.take 32 (List.drop 4 p)=ny p:=rfl
   have mH:(ny p).length=32:=by rw[ny,aau,aat];omega
   have hsc2:List.take 32 (ny p)=ny p:=aar (by rw[mH];exact aax _)
   simp only[hsc,hsc2,w0]
   refine⟨by rw[mH];exact aax _,?_⟩
   rcases hO with⟨h,_⟩|⟨r,ex1,rfl,hlv⟩
   ·have:=ach List.length h;rw[aaA,tR]at this;simp at this;omega
   ·have hr0:=hne r ex1 _ rfl
    have hlv2:=dH (y:=⟨.ar 32 L8,[.agg (.ar 32 L8) (bs (ny p))]⟩) hlv (q:=0) (by omega)
    rw[aaA,tR]
    exact .ownU [.raw (u32 T),aV (ny p)] (.ar 32 L8) r 0 _ ex1 false _ [.raw (it 0)] hlv2 rfl rfl rfl (λh=>by cases h)
  ·simp only[has,↓ag,ah,simprocAttr]
  ·simp only[↓ag,ah,simprocAttr]
  ·simp only[↓ag,ah,simprocAttr]
  ·cases h
 ·have cl':((p.length:Int)=((36+32*pT (dU p).toNat:Nat):Int))=False:=aaw (by omega)
  have he:ij p=2:=by rw[ij,aaC c4,hk,aaC cl];rfl
  rw[he,aaC (by decide)]
  simp only[↓ag,ah,simprocAttr,aK,aE,c4',b0,b1,b2,b3,b4,t0,t1,t2,t3,aaE,h1,hsT,kP,dC,abw,g1,q1,q2,q3,cl']
  exact .val _ rfl
theorem kSplit(rows:Rows)(k:D->Rows->Prop)(d:D)(p:List (BitVec 8))(hd:aY rows d p)(hp:p.length<=1099511627776)(he:ij p=0):
  aG Jk rows k [d]=k (.cd [.raw (u32 (dU p)),.agg (.ar 32 L8) (bs (ny p)),.sl (.ar 32 L8) (0+rows.length) [] 0 (pT (dU p).toNat) false,.raw (it 0)]) (rows++[some ⟨.ar 32 L8,(chunks p (pT (dU p).toNat)).map aV⟩]):=by
 refine(cL (.bs hd) (by simp[hp]) (by simp[he,cv,lc,aV,Sh.pure,bf]) k).trans ?_
 simp[he,aV,shift,bD,af,Sh.pure]
theorem kSplitE(rows:Rows)(k:D->Rows->Prop)(d:D)(p:List (BitVec 8))(hd:aY rows d p)(hp:p.length<=1099511627776)(he:¬ij p=0):
  aG Jk rows k [d]=k (.cd [.raw (u32 0#32),.agg (.ar 32 L8) (bs sO),.raw (.slice none 0 0),.raw (it (ij p))]) rows:=by
 refine(cL (.bs hd) (by simp[hp]) (by simp[he,cv,lc,aV,Sh.pure,bf]) k).trans ?_
 simp[he,aV,shift,bD,af,Sh.pure]
theorem split_0{p:List (BitVec 8)}(h:ij p=0):4<=p.length/\vi (dU p).toNat=true/\p.length=36+32*pT (dU p).toNat:=by
 unfold ij at h
 split at h
 ·cases h
 ·cases hk:vi (dU p).toNat with
  |false=>rw[hk]at h;cases h
  |true=>
   rw[hk]at h
   simp only[abw,aaK]at h
   split at h
   ·exact⟨by omega,rfl,by assumption⟩
   ·cases h
def clE(s:Site)(p msg:List (BitVec 8))(i:Nat):List (BitVec 8):=
 KZ s.id s.q i (2^wT (dU p).toNat-1-(E3 (dU p).toNat s (ny p) msg).getD i 0) ((E3 (dU p).toNat s (ny p) msg).getD i 0) (chunk p i)
def O5(s:Site)(p msg:List (BitVec 8))(n i:Nat):List (List (BitVec 8)):=(List.range n).map λj=>if j<i then clE s p msg j else chunk p j
def sq(s:Site)(p msg:List (BitVec 8)):List (BitVec 8):=Gg s.id s.q ((List.range (pT (dU p).toNat)).map (clE s p msg))
theorem clL_0(s:Site)(p msg:List (BitVec 8))(n:Nat):O5 s p msg n 0=chunks p n:=by simp[O5,chunks]
theorem clL_n(s:Site)(p msg:List (BitVec 8))(n:Nat):O5 s p msg n n=(List.range n).map (clE s p msg):=by
 apply ac4
 intro j hj
 rw[aaJ (adq.1 hj)]
theorem clL_set(s:Site)(p msg:List (BitVec 8))(n i:Nat)(h:i<n):(O5 s p msg n i).set i (clE s p msg i)=O5 s p msg n (i+1):=by
 apply ac7 (by simp[O5])
 intro j h1 h2
 have hj:j<n:=by simpa[O5]using h2
 rw[List.getElem_set]
 by_cases c:i=j
 ·subst c;simp[O5]
 ·rw[aaC c]
  simp only[O5,adu,List.getElem_range]
  by_cases c2:j<i
  ·rw[aaJ c2,aaJ (by omega)]
  ·rw[aaC c2,aaC (by omega)]
theorem clE_len{s:Site}{p msg:List (BitVec 8)}{i:Nat}(h:(chunk p i).length=32):(clE s p msg i).length=32:=zf _ _ _ _ _ _ h
noncomputable def Of:Fn:=Kx (cj fJ) eP eP (λs p m=>decide (s.id.length=16)&&decide (p.length<=1099511627776)) λs p m=>if ij p=0 then(.cd [aV (sq s p m),.raw (it 0)],[])else(.cd [aV sO,.raw (it (ij p))],[])
theorem claim_ok(C:aU)(hC:aI C P)(h1:C.fn 49=some nS)(h2:C.fn 119=some Yf)(h4:C.fn 118=some EY)(h5:C.fn 76=some Mn)(h6:C.fn 75=some zh)(h7:C.fn 286=some Jk)(h8:C.fn 121=some QF):aQ C.aZ P 269 (Fn.run Of):=by
 refine aJ (Qp C hC) λds rows r h=>?_
 obtain⟨d0,d1,d2,s,p,msg,rfl,rfl,g0,g1,g2,hp,rfl⟩:=fV h
 cases aH g0
 have gp:=fC g1
 have gm:=fC g2
 simp only[aan,aaq]at hp
 obtain⟨iv,qm⟩:=hp
 clear h g0 g1 g2
 have hz:D.agg si [.raw (it 0),.raw (it 0),.raw (it 0)]=kq ⟨0,0,0⟩:=rfl
 refine⟨rfl,ae rfl ?_⟩
 unfold Ga Gb
 simp only[hz,eu]
 by_cases he:ij p=0
 ·rw[aaJ he]
  obtain⟨h4l,hk,hl⟩:=split_0 he
  have kSp:=λrows k=>kSplit rows k d1 p gp.to qm he
  have hcS:sq s p msg=Gg s.id s.q (O5 s p msg (pT (dU p).toNat) (pT (dU p).toNat)):=by rw[clL_n,sq]
  have pz:=clL_set s p msg (pT (dU p).toNat)
  have h00:=clL_0 s p msg (pT (dU p).toNat)
  have hcE:∀i,clE s p msg i=KZ s.id s.q i (2^wT (dU p).toNat-1-(E3 (dU p).toNat s (ny p) msg).getD i 0) ((E3 (dU p).toNat s (ny p) msg).getD i 0) (chunk p i):=λi=>rfl
  have hpt:pT (dU p).toNat<=265:=(mI hk).2.2.1
  have hpw:2^wT (dU p).toNat<=256:=TS (mI hk).1
  have kP:=λrows k=>pi rows k (dU p)
  have kE:=λrows k=>kEnd rows k (wX (dU p).toNat) (mI hk).1
  have hew:(wX (dU p).toNat).w=wT (dU p).toNat:=rfl
  rw[hk]at kP
  rw[hew]at kE
  have hc32:(ny p).length=32:=by rw[ny,aau,aat];omega
  have E5:∀i,i<pT (dU p).toNat->(chunk p i).length=32:=λi hi=>by rw[chunk,aau,aat];omega
  have kM:=λrows k=>kMash rows k s (ny p) msg d2 (gm.to) iv hc32
  have hml:(mi s.id s.q (ny p) msg).length=32:=dk _
  have kD:=λrows k=>N8 rows k (dU p) (mi s.id s.q (ny p) msg) hml hk
  have tR:=Od (dU p).toNat s (ny p) msg
  have zH:=Oe hk (mi s.id s.q (ny p) msg)
  simp only[↓ag,ah,simprocAttr,aK,aV,ey,dC,h7,kSp,h1,kP,h5,kM,h6,kD]
  rw[<-h00]
  have lp:∀i,i<pT (dU p).toNat->((O5 s p msg (pT (dU p).toNat) i).map aV)[i]?=some (.agg (.ar 32 L8) (bs (chunk p i))):=λi hi=>by
   simp[O5,aV,hi]
  have Lr:∀i,(O5 s p msg (pT (dU p).toNat) i).length=pT (dU p).toNat:=λi=>by simp[O5]
  have hsm:∀i,i<pT (dU p).toNat->((O5 s p msg (pT (dU p).toNat) i).map aV).set i (.agg (.ar 32 L8) (bs (clE s p msg i)))=(O5 s p msg (pT (dU p).toNat) (i+1)).map aV:=λi hi=>by
   rw[<-pz i hi,acr];rfl
  have uO:∀x∈O5 s p msg (pT (dU p).toNat) (pT (dU p).toNat),x.length=32:=by
   intro x hx
   rw[clL_n]at hx
   obtain⟨i,hi,rfl⟩:=acL.1 hx
   exact clE_len (E5 i (adq.1 hi))
  have g0':∀i,i<pT (dU p).toNat->((gu (dU p).toNat (mi s.id s.q (ny p) msg)).map yq)[i]?=some (.raw (it ((E3 (dU p).toNat s (ny p) msg).getD i 0:Int))):=λi hi=>by
   have hl:i<(gu (dU p).toNat (mi s.id s.q (ny p) msg)).length:=by rw[show(gu (dU p).toNat (mi s.id s.q (ny p) msg)).length=pT (dU p).toNat from tR];exact hi
   simp[yq,E3,List.getD,hl]
  have b0:∀n:Nat,((0:Int)<=(n:Int))=True:=λn=>aas (by omega)
  have hdg':∀i,(E3 (dU p).toNat s (ny p) msg).getD i 0<=2^wT (dU p).toNat-1:=zH
  generalize gu (dU p).toNat (mi s.id s.q (ny p) msg)=DG at*
  generalize pT (dU p).toNat=n at*
  refine bx n (λi env rows=>has env [(39,.raw (it (i:Int))),(38,.raw (it (n:Int))),(37,.sl LI 5 [] 0 n false),(12,.ptr si 4 [0]),(10,.sl (.ar 32 L8) 2 [] 0 n false),(6,.ptr (.ar 32 L8) 1 [0]),(3,.ptr yo 0 [0])]/\
   rows=[some ⟨yo,[fJ s]⟩,some ⟨.ar 32 L8,[.agg (.ar 32 L8) (bs sO)]⟩,some ⟨.ar 32 L8,(O5 s p msg n i).map aV⟩,some ⟨.ar 32 L8,[.agg (.ar 32 L8) (bs (ny p))]⟩,some ⟨si,[kq (wX (dU p).toNat)]⟩,some ⟨LI,DG.map yq⟩]) ?_ ?_ ⟨?_,rfl⟩
  ·rintro i hi env rows ⟨hh,rfl⟩ R hR
   simp only[has]at hh
   have e0:((i:Int)<(n:Int))=True:=aas (by omega)
   have e1:=cG i (by omega)
   have hx:=E5 i hi
   have kC:=λrows k=>TR rows k s i ((E3 (dU p).toNat s (ny p) msg).getD i 0) (2^wT (dU p).toNat-1) (chunk p i) iv (by omega) (by have:=hdg' i;omega) (by omega) hx
   rw[<-hcE i]at kC
   have gi:=g0' i hi
   have gl:=lp i hi
   have gs:=hsm i hi
   simp only[↓ag,ah,simprocAttr,aK,hh,e0,e1,b0,ey,dC,gi,h2,kE,gl,h4,kC,gs]
   exact hR _ _ ⟨by simp only[has,↓ag,ah,simprocAttr,hh],rfl⟩
  ·rintro env rows ⟨hh,rfl⟩ R
   simp only[has]at hh
   have e0:((n:Int)<(n:Int))=False:=aaw (by omega)
   simp only[↓ag,ah,simprocAttr,aK,hh,e0,ey,h8]
   refine Eq.mpr (kFold _ _ s _ _ (bY.dl rfl (Lr n)) iv uO (by rw[Lr];omega)) ?_
   rw[<-hcS]
   simp only[↓ag,ah,simprocAttr,aK,hh]
   exact .val _ rfl
  ·simp only[has,↓ag,ah,simprocAttr]
 ·rw[aaC he]
  have kSp:=λrows k=>kSplitE rows k d1 p gp.to qm he
  have he':(ij p=0)=False:=aaw he
  simp only[↓ag,ah,simprocAttr,aK,aV,ey,h7,kSp,he',aaE,abT]
  exact .val _ rfl
theorem kClaim(rows:Rows)(k:D->Rows->Prop)(s:Site)(d e:D)(p m:List (BitVec 8))(hd:aY rows d p)(hm:aY rows e m)(iv:s.id.length=16)(hp:p.length<=1099511627776)(he:ij p=0):
  aG Of rows k [fJ s,d,e]=k (.cd [.agg (.ar 32 L8) (bs (sq s p m)),.raw (it 0)]) rows:=by
 refine(gP (lZ s rows) (.bs hd) (.bs hm) (by simp[iv,hp]) (by simp[he,cv,lc,aV,Sh.pure,bf]) k).trans ?_
 simp[he,aV,shift,bD,af,Sh.pure]
theorem Jl(t:BitVec 32):dZ (bz t)=t:=by
 apply aaL
 have h:=Ya ((t>>>24).setWidth 8) ((t>>>16).setWidth 8) ((t>>>8).setWidth 8) (t.setWidth 8)
 rw[show dZ (bz t)=dZ [(t>>>24).setWidth 8,(t>>>16).setWidth 8,(t>>>8).setWidth 8,t.setWidth 8]from rfl,<-h]
 exact TM t
theorem Jm{l:List (List (BitVec 8))}(h:∀x∈l,x.length=32):∀i (hi:i<l.length),(l.flatten.drop (32*i)).take 32=l[i]:=by
 induction l with
 |nil=>intro i hi;simp at hi
 | cons x l ih =>
  intro i hi
  have hx:=h x (by simp)
  cases i with
  |zero=>rw[Nat.mul_zero,abz,abZ,<-hx,aaW];rfl
  |succ i=>
   rw[abZ,show 32*(i+1)=x.length+32*i by omega,ad1]
   exact ih (λy hy=>h y (by simp[hy])) i (by simpa using hi)
section
variable (t:BitVec 32) (s:Site) (aM c m:List (BitVec 8))
theorem sig_T:dU (nh t s aM c m)=t:=by
 rw[dU,<-qR _ 4 (by decide),nh,aaB]
 show dZ (bz t)=t
 exact Jl t
variable (hc:c.length=32)
include hc
theorem sig_C:ny (nh t s aM c m)=c:=by
 rw[ny,nh,aaB]
 show(c++(lO t.toNat s aM c m (pT t.toNat)).flatten).take 32=c
 have h:=aaW (l₁:=c) (l₂:=(lO t.toNat s aM c m (pT t.toNat)).flatten)
 rw[hc]at h
 exact h
theorem Yr(i:Nat)(hi:i<pT t.toNat):chunk (nh t s aM c m) i=KZ s.id s.q i ((E3 t.toNat s c m).getD i 0) 0 (GU s.id s.q i aM):=by
 have h36:(bz t++c).length=36:=by rw[aap,hc];rfl
 have qm:(lO t.toNat s aM c m (pT t.toNat)).length=pT t.toNat:=by simp[lO]
 rw[chunk,nh,show 36+32*i=(bz t++c).length+32*i by omega,ad1,Jm (E4 _ _ _ _ _ _) i (by omega)]
 simp[lO]
theorem TZ(ht:vi t.toNat=true):sq s (nh t s aM c m) m=GW t.toNat s aM:=by
 have hT:=sig_T t s aM c m
 have hC:=sig_C t s aM c m hc
 rw[sq,hT,GW,ym]
 congr 1
 apply ac4
 intro i hi
 have hi:=adq.1 hi
 have hle:(E3 t.toNat s c m).getD i 0<=2^wT t.toNat-1:=Oe ht _ i
 rw[clE,hT,hC,Yr t s aM c m hc i hi]
 generalize (E3 t.toNat s c m).getD i 0=a at*
 have:=N5 s.id s.q i (2^wT t.toNat-1-a) a 0 (GU s.id s.q i aM)
 rw[abk]at this
 rw[<-this]
 congr 1
 omega
end
abbrev K5:Sh:= .cons cN (.cons cN (.cons (.ar 16 L8) (.cons (.ar 32 L8) .nil)))
noncomputable def Jn:Fn:=nv eP (λa=>Nat.ble 4 a.length) λa=>(.raw (u32 (dZ a)),[])
theorem lnum_ok(C:aU)(hC:aI C P):aQ C.aZ P 268 (Fn.run Jn):=by
 refine aJ (XU C hC) λds rows r h=>?_
 obtain⟨d,a,rfl,rfl,hd,hp,rfl⟩:=bd h
 have ha:=fC hd
 simp only[abD]at hp
 refine⟨rfl,ae rfl ?_⟩
 unfold L9 Ma
 have e0:∀(k:D->Rows->Prop) rows,pC (.leaf (.int .u8)) 0 rows k d=k (.cb (.raw (u8 (a.getD 0 0#8)))) rows:=λk rows=>by have:=hJ (k:=k) (rows:=rows) (n:=0) ha (by omega);simpa using this
 have e1:∀(k:D->Rows->Prop) rows,pC (.leaf (.int .u8)) 1 rows k d=k (.cb (.raw (u8 (a.getD 1 0#8)))) rows:=λk rows=>by have:=hJ (k:=k) (rows:=rows) (n:=1) ha (by omega);simpa using this
 have e2:∀(k:D->Rows->Prop) rows,pC (.leaf (.int .u8)) 2 rows k d=k (.cb (.raw (u8 (a.getD 2 0#8)))) rows:=λk rows=>by have:=hJ (k:=k) (rows:=rows) (n:=2) ha (by omega);simpa using this
 have e3:∀(k:D->Rows->Prop) rows,pC (.leaf (.int .u8)) 3 rows k d=k (.cb (.raw (u8 (a.getD 3 0#8)))) rows:=λk rows=>by have:=hJ (k:=k) (rows:=rows) (n:=3) ha (by omega);simpa using this
 simp only[↓ag,ah,simprocAttr,e0,e1,e2,e3]
 exact .val _ rfl
theorem kLNum(rows:Rows)(k:D->Rows->Prop)(d:D)(p:List (BitVec 8))(h:aY rows d p)(hp:4<=p.length):aG Jn rows k [d]=k (.raw (u32 (dZ p))) rows:=by
 refine(cL (bY.bs h) (by simpa using hp) rfl k).trans ?_
 simp[shift,af]
def hT(t:Nat):Nat:=if 5<=t/\t<=9 then 5*(t-4)else if 3758096384<t/\t<=3758096388 then t-3758096384 else 0
def KA(t:Nat):Bool:=decide (5<=t/\t<=9\/3758096384<t/\t<=3758096388)
theorem hT_le(t:Nat):hT t<=25:=by
 unfold hT;split
 ·omega
 ·split<;>omega
theorem Ys{t:BitVec 32}(h:KA t.toNat=true):t=5#32\/t=6#32\/t=7#32\/t=8#32\/t=9#32\/t=3758096385#32\/t=3758096386#32\/t=3758096387#32\/t=3758096388#32:=by
 simp only[KA,aaq]at h
 have:t.toNat=5\/t.toNat=6\/t.toNat=7\/t.toNat=8\/t.toNat=9\/t.toNat=3758096385\/t.toNat=3758096386\/t.toNat=3758096387\/t.toNat=3758096388:=by omega
 have g:∀n,n<4294967296->t.toNat=n->t=BitVec.ofNat 32 n:=λn hn e=>aaL (by rw[e,aa2,abo hn])
 rcases this with h|h|h|h|h|h|h|h|h<;>have:=g _ (by decide) h<;>simp[this]
def zj:Fn:=nv ry (λ_=>true) λt=>(.cd [.raw (it (hT t.toNat:Int)),.raw (.bool (KA t.toNat))],[])
theorem Yt(C:aU)(hC:aI C P):aQ C.aZ P 48 (Fn.run zj):=by
 refine aJ (Nz C hC) λds rows r h=>?_
 obtain⟨d,t,rfl,rfl,hd,hp,rfl⟩:=bd h
 cases dY hd
 refine⟨rfl,ae rfl ?_⟩
 clear h hd
 unfold B7 B8
 cases hk:KA t.toNat
 ·have hz:hT t.toNat=0:=by
   simp only[KA,ab0]at hk
   unfold hT;split
   ·omega
   ·split<;>omega
  rw[hz]
  simp only[KA,ab0]at hk
  have a1:(5#32<=t)=(5<=t.toNat):=propext abx
  have a2:(t<=9#32)=(t.toNat<=9):=propext abx
  have a3:(3758096384#32<t)=(3758096384<t.toNat):=propext aci
  have a4:(t<=3758096388#32)=(t.toNat<=3758096388):=propext abx
  by_cases c1:5<=t.toNat<;>by_cases c2:t.toNat<=9<;>by_cases c3:3758096384<t.toNat<;>by_cases c4:t.toNat<=3758096388<;>
   first
   |omega
   |(simp only[↓ag,ah,simprocAttr,a1,a2,a3,a4,c1,c2,c3,c4,aaD,aaE];exact .val _ rfl)
 ·rcases Ys hk with rfl|rfl|rfl|rfl|rfl|rfl|rfl|rfl|rfl<;>
  ·simp only[↓ag,ah,simprocAttr,BitVec.reduceLT,BitVec.reduceLE,BitVec.reduceSub,BitVec.reduceToNat,aaD,aaE]
   exact .val _ rfl
theorem Hg(rows:Rows)(k:D->Rows->Prop)(t:BitVec 32):aG zj rows k [.raw (u32 t)]=k (.cd [.raw (it (hT t.toNat:Int)),.raw (.bool (KA t.toNat))]) rows:=by
 refine(cL (bY.raw (fL t)) rfl rfl k).trans ?_
 simp[shift,bD,af]
structure Key where
 t:BitVec 32
 o:BitVec 32
 id:List (BitVec 8)
 root:List (BitVec 8)
def E6(k:Key):D:= .agg K5 [.raw (u32 k.t),.raw (u32 k.o),.agg (.ar 16 L8) (bs k.id),.agg (.ar 32 L8) (bs k.root)]
def Yu:Key:=⟨0#32,0#32,List.replicate 16 0#8,List.replicate 32 0#8⟩
def keyOf(p:List (BitVec 8)):Key:=⟨dZ p,dZ (p.drop 4),(p.drop 8).take 16,p.drop 24⟩
def fc(p:List (BitVec 8)):Key×Int:=
 bif decide (p.length=56)then
  (bif KA (dZ p).toNat&&vi (dZ (p.drop 4)).toNat then(keyOf p,0)else(Yu,6))
 else(Yu,2)
noncomputable def Jo:Fn:=nv eP (λa=>Nat.ble a.length most) λp=>(.cd [E6 (fc p).1,.raw (it (fc p).2)],[])
theorem Jp(rows:Rows)(k:D->Rows->Prop)(x:List (BitVec 8))(e:Bool)(h:4<=x.length):aG Jn rows k [.dh L8 (bs x) e]=k (.raw (u32 (dZ x))) rows:=by
 refine(bk rfl (fa (BU x e) (by simpa using h))).trans ?_
 simp[shift,af]
theorem readK_ok(C:aU)(hC:aI C P)(h1:C.fn 268=some Jn)(h2:C.fn 48=some zj)(h3:C.fn 49=some nS):aQ C.aZ P 249 (Fn.run Jo):=by
 refine cA (Ty C hC) λds rows r h=>?_
 obtain⟨d,p,rfl,rfl,hd,hp,rfl⟩:=bd h
 obtain⟨x,hx⟩:=cF hd
 refine⟨rfl,_,.cons hx .nil,ae rfl ?_⟩
 simp only[abD]at hp
 unfold most at hp
 clear h hx hd
 unfold I4 I5
 have hz:D.fits (.agg K5 [.raw (u32 0#32),.raw (u32 0#32),.agg (.ar 16 L8) (List.replicate 16 (.raw (u8 0#8))),.agg (.ar 32 L8) (List.replicate 32 (.raw (u8 0#8)))]) K5=true:=rfl
 by_cases hl:p.length=56
 ·have d0:4<=p.length:=by omega
  have d4:4<=(p.drop 4).length:=by rw[aat];omega
  have tk4:(bs (p.drop 4)).take 52=bs (p.drop 4):=aar (by rw[aE,aat];omega)
  have tk8:(bs (p.drop 8)).take 16=bs ((p.drop 8).take 16):=fM _ _
  have tkk:(bs ((p.drop 8).take 16)).take 16=bs ((p.drop 8).take 16):=aar (by rw[aE,aau];omega)
  have tk24:(bs (p.drop 24)).take 32=bs (p.drop 24):=aar (by rw[aE,aat];omega)
  simp only[↓ag,ah,simprocAttr,aE,hl,h1,Jp _ _ _ _ d0,Jp _ _ _ _ d4,hU,tk4,tk8,tkk,tk24,aat,hz]
  have l16:(List.take 16 (List.drop 8 p)).length=16:=by rw[aau,aat];omega
  have l32:(List.drop 24 p).length=32:=by rw[aat];omega
  refine⟨by omega,?_⟩
  simp only[↓ag,ah,simprocAttr,aK,l16,l32,h2,h3,Hg,pi,hz,kq,tkk,tk24]
  have hq:fc p=if KA (dZ p).toNat&&vi (dZ (p.drop 4)).toNat then(keyOf p,0)else(Yu,6):=by
   simp only[fc,hl,aaD,aaU]
   cases KA (dZ p).toNat&&vi (dZ (p.drop 4)).toNat<;>rfl
  rw[hq]
  cases g1:KA (dZ p).toNat<;>cases g2:vi (dZ (p.drop 4)).toNat<;>
  ·simp only[↓ag,ah,simprocAttr,abw,abT,acM,ado,acQ,abR,ade,abP,D.fits]
   try exact .val _ rfl
 ·have zw:((p.length:Int)=56)=False:=aaw (by omega)
  have hq:fc p=(Yu,2):=by simp[fc,hl]
  rw[hq]
  simp only[↓ag,ah,simprocAttr,aE,zw]
  exact .val _ rfl
theorem lfour_ok(C:aU)(hC:aI C P):aQ C.aZ P 67 (Fn.run Au):=by
 refine aJ (Tj C hC) λds rows r h=>?_
 obtain⟨d,n,rfl,rfl,hd,hp,rfl⟩:=bd h
 cases dY hd
 refine⟨rfl,ae rfl ?_⟩
 clear h hd
 unfold Ix Iy
 simp only[↓ag,ah,simprocAttr]
 exact .own _ 0 0 4 true false _ rfl rfl (λh=>by cases h)
def Mu(id:List (BitVec 8))(r:BitVec 32)(kd:Nat)(l:List (List (BitVec 8))):List (BitVec 8):=eY (id++bz r++xb kd++l.flatten)
def uQ(id:List (BitVec 8))(r:BitVec 32)(a b:List (BitVec 8)):List (BitVec 8):=Mu id r 33667 [a,b]
def pP(id:List (BitVec 8))(r:BitVec 32)(k:List (BitVec 8)):List (BitVec 8):=Mu id r 33410 [k]
theorem Mv(id:List (BitVec 8))(r:BitVec 32)(a b:List (BitVec 8)):(uQ id r a b).length=32:=dk _
theorem E7(id:List (BitVec 8))(r:BitVec 32)(a:List (BitVec 8)):(pP id r a).length=32:=dk _
noncomputable def QL:Fn:=gn4 (cj Ar) ry u9 (qu (.ar 32 L8) aV) (λid _ n l=>decide (id.length=16)&&Yd n 65536&&Ml l&&decide (l.length<=1000000)) λid r n l=>(aV (Mu id r n.toNat l),[])
theorem hash_ok(C:aU)(hC:aI C P)(h1:C.fn 185=some Qz)(h2:C.fn 67=some Au)(h3:C.fn 134=some tu)(h4:C.fn 135=some vO):aQ C.aZ P 122 (Fn.run QL):=by
 refine cA (Tp C hC) λds rows r h=>?_
 obtain⟨d0,d1,d2,d3,id,r,n,l,rfl,rfl,g0,g1,g2,g3,hp,rfl⟩:=uN h
 cases aH g0
 cases dY g1
 cases bX g2
 obtain⟨ex,hx⟩:=zd g3
 simp only[aan,aaq,uM,N7]at hp
 obtain⟨⟨⟨iv,hn⟩,uO⟩,Lr⟩:=hp
 refine⟨rfl,_,.cons (.refl _) (.cons (.refl _) (.cons (.refl _) (.cons hx .nil))),ae rfl ?_⟩
 clear h g0 g1 g2 g3 hx
 obtain⟨m,rfl⟩:=aaH hn.1
 have hm:m<65536:=by omega
 unfold IE IF
 have e8:∀k,cm .shr (it (m:Int)) (u64 8#64) k=k (.raw (it ((m/256:Nat):Int))):=λk=>shr_n m 8 .u64 (by decide) k
 have e1:BitVec.ofInt 8 ((m/256:Nat):Int)=BitVec.ofNat 8 (m/256):=abb _ _
 have e2:BitVec.ofInt 8 (m:Int)=BitVec.ofNat 8 m:=abb _ _
 have id_fits:(Ar id).fits (.ar 16 L8)=true:=rfl
 simp only[eu,TP]
 simp only[↓ag,ah,simprocAttr,aK,Ar,nQ,h1,TJ,h3]
 refine Eq.mpr (mh _ _ _ _ id (aY.uL (n:=16) rfl rfl iv) oW) ?_
 have o0:=fp id Ky oW
 simp only[↓ag,ah,simprocAttr,aK,h2,QD,h3]
 refine Eq.mpr (mh _ _ _ _ (bz r) (aY.own rfl _ rfl) o0) ?_
 have o1:=fp (bz r) _ o0
 simp only[↓ag,ah,simprocAttr,aK,e8,e1,e2,h3]
 refine Eq.mpr (mh _ _ _ _ (xb m) (aY.own rfl _ rfl) o1) ?_
 have o2:=fp (xb m) _ o1
 simp only[↓ag,ah,simprocAttr,aK,nQ,aaA]
 have hok:∀i,(feed (feed (feed (feed Ky id) (bz r)) (xb m)) (l.take i).flatten).ok=true:=λi=>fp _ _ o2
 have e:qw (feed (feed (feed (feed Ky id) (bz r)) (xb m)) (l.take l.length).flatten)=Mu id r m l:=by
  rw[aa8,Mu,eY,<-fo,<-fo,<-fo]
  simp only[aaB]
 have hst:feed (feed (feed (feed Ky id) (bz r)) (xb m)) (l.take 0).flatten=feed (feed (feed Ky id) (bz r)) (xb m):=by rw[acF];rfl
 rw[<-hst]
 have hsucc:∀i (h:i<l.length),feed (feed (feed (feed (feed Ky id) (bz r)) (xb m)) (l.take i).flatten) l[i]=feed (feed (feed (feed Ky id) (bz r)) (xb m)) (l.take (i+1)).flatten:=λi h=>by
  rw[<-fo,aaX h,abW];simp
 generalize feed (feed (feed Ky id) (bz r)) (xb m)=B at*
 refine bx l.length (λi env rows=>has env [(27,.raw (it (i:Int))),(26,.raw (it (l.length:Int))),(25,.dh (.ar 32 L8) (l.map aV) ex),(9,.ptr O4 4 [0]),(8,.ptr (.ar 32 L8) 1 [0])]/\
  live rows 4=some ⟨O4,[uJ (feed B (l.take i).flatten)]⟩/\live rows 1=some ⟨.ar 32 L8,[.agg (.ar 32 L8) (bs sO)]⟩) ?_ ?_ ⟨?_,rfl,rfl⟩
 ·rintro i hi env rows ⟨hh,r3,r1⟩ R hR
  simp only[has]at hh
  have e0:((i:Int)<(l.length:Int))=True:=aas (by omega)
  have b0:∀n:Nat,((0:Int)<=(n:Int))=True:=λn=>aas (by omega)
  have e1:=cG i (by omega)
  have hx:=uO _ (abJ hi)
  have g:(l.map aV)[i]?=some (.agg (.ar 32 L8) (bs l[i])):=by simp[aV,hi]
  have hs:=hsucc i hi
  generalize l[i]=xi at*
  have r3A:=λL=>ab r3 L
  simp only[↓ag,ah,simprocAttr,aK,hh,e0,e1,b0,aaA,g,r3A,h3]
  refine Eq.mpr (mh _ _ _ _ xi (aY.uL (n:=32) (by rw[a9];rfl) rfl hx) (hok i)) ?_
  rw[hs]
  simp only[↓ag,ah,simprocAttr,aK,hh,e1,r3A,nQ]
  exact hR _ _ ⟨by simp only[has,↓ag,ah,simprocAttr,hh],aD (r3A _),dH (ab r1 _) (by decide)⟩
 ·rintro env rows ⟨hh,r3,r1⟩ R
  simp only[has]at hh
  have e0:((l.length:Int)<(l.length:Int))=False:=aaw (by omega)
  have w1:=λx=>aD (y:=x) r1
  simp only[↓ag,ah,simprocAttr,aK,hh,e0,r3,r1,h4,Bd _ _ _ (hok _),e,w1]
  exact .val _ rfl
 ·simp only[has,↓ag,ah,simprocAttr]
theorem kHash(rows:Rows)(k:D->Rows->Prop)(id:List (BitVec 8))(r:BitVec 32)(m:Nat)(d:D)(l:List (List (BitVec 8)))(hd:bY rows (qu (.ar 32 L8) aV) d l)(iv:id.length=16)(hm:m<65536)(uO:∀x∈l,x.length=32)(Lr:l.length<=1000000):
  aG QL rows k [.agg (.ar 16 L8) (bs id),.raw (u32 r),.raw (it (m:Int)),d]=k (.agg (.ar 32 L8) (bs (Mu id r m l))) rows:=by
 refine(yn (Hd id) (bY.raw (fL r)) (bY.int _) hd (by simp[iv,uM.2 uO,Lr,Yd];omega) rfl k).trans ?_
 simp[aV,shift,af,Sh.pure]
noncomputable def QM:Fn:=Kx (cj Ar) ry (cj aV) (λid _ x=>decide (id.length=16)&&decide (x.length=32)) λid r x=>(aV (pP id r x),[])
theorem leaf_ok(C:aU)(hC:aI C P)(h1:C.fn 122=some QL):aQ C.aZ P 53 (Fn.run QM):=by
 refine aJ (Tg C hC) λds rows r h=>?_
 obtain⟨d0,d1,d2,id,r,x,rfl,rfl,g0,g1,g2,hp,rfl⟩:=fV h
 cases aH g0
 cases dY g1
 cases aH g2
 simp only[aan,aaq]at hp
 refine⟨rfl,ae rfl ?_⟩
 clear h g0 g1 g2
 unfold Iq Ir
 simp only[eu]
 have kH:=λrows k d hd=>kHash rows k id r 33410 d [x] hd hp.1 (by decide) (by simp[hp.2]) (by simp)
 rw[show((33410:Nat):Int)=33410 from rfl]at kH
 simp only[↓ag,ah,simprocAttr,aK,Ar,aV,h1]
 refine Eq.mpr (kH _ _ _ (bY.dl (l:=[x]) rfl rfl)) ?_
 simp only[↓ag,ah,simprocAttr,aK]
 exact .val _ rfl
theorem kLeaf(rows:Rows)(k:D->Rows->Prop)(id:List (BitVec 8))(r:BitVec 32)(x:List (BitVec 8))(iv:id.length=16)(hx:x.length=32):
  aG QM rows k [.agg (.ar 16 L8) (bs id),.raw (u32 r),.agg (.ar 32 L8) (bs x)]=k (.agg (.ar 32 L8) (bs (pP id r x))) rows:=by
 refine(gP (Hd id) (bY.raw (fL r)) (ko x) (by simp[iv,hx]) rfl k).trans ?_
 simp[aV,shift,af,Sh.pure]
noncomputable def QN:Fn:=gn4 (cj Ar) ry (cj aV) (cj aV) (λid _ x y=>decide (id.length=16)&&decide (x.length=32)&&decide (y.length=32)) λid r x y=>(aV (uQ id r x y),[])
theorem node_ok(C:aU)(hC:aI C P)(h1:C.fn 122=some QL):aQ C.aZ P 54 (Fn.run QN):=by
 refine aJ (Th C hC) λds rows r h=>?_
 obtain⟨d0,d1,d2,d3,id,r,x,y,rfl,rfl,g0,g1,g2,g3,hp,rfl⟩:=uN h
 cases aH g0
 cases dY g1
 cases aH g2
 cases aH g3
 simp only[aan,aaq]at hp
 refine⟨rfl,ae rfl ?_⟩
 clear h g0 g1 g2 g3
 unfold Is It
 simp only[eu]
 have kH:=λrows k d hd=>kHash rows k id r 33667 d [x,y] hd hp.1.1 (by decide) (by simp[hp.1.2,hp.2]) (by simp)
 rw[show((33667:Nat):Int)=33667 from rfl]at kH
 simp only[↓ag,ah,simprocAttr,aK,Ar,aV,h1]
 refine Eq.mpr (kH _ _ _ (bY.dl (l:=[x,y]) rfl rfl)) ?_
 simp only[↓ag,ah,simprocAttr,aK]
 exact .val _ rfl
theorem kNode(rows:Rows)(k:D->Rows->Prop)(id:List (BitVec 8))(r:BitVec 32)(x y:List (BitVec 8))(iv:id.length=16)(hx:x.length=32)(hy:y.length=32):
  aG QN rows k [.agg (.ar 16 L8) (bs id),.raw (u32 r),.agg (.ar 32 L8) (bs x),.agg (.ar 32 L8) (bs y)]=k (.agg (.ar 32 L8) (bs (uQ id r x y))) rows:=by
 refine(yn (Hd id) (bY.raw (fL r)) (ko x) (ko y) (by simp[iv,hx,hy]) rfl k).trans ?_
 simp[aV,shift,af,Sh.pure]
theorem kReadK(rows:Rows)(k:D->Rows->Prop)(d:D)(p:List (BitVec 8))(h:aY rows d p)(hp:p.length<=1099511627776):aG Jo rows k [d]=k (.cd [E6 (fc p).1,.raw (it (fc p).2)]) rows:=by
 refine(cL (bY.bs h) (by simpa[most]using hp) rfl k).trans ?_
 simp[shift,bD,af,E6,Sh.pure]
def Og:Fn:=nv u9 (λ_=>true) λe=>(.cd [.raw (u32 0#32),.raw (.slice none 0 0),.raw (u32 0#32),.raw (.slice none 0 0),.raw (it e)],[])
theorem nonep_ok(C:aU)(hC:aI C P):aQ C.aZ P 284 (Fn.run Og):=by
 refine aJ (KX C hC) λds rows r h=>?_
 obtain⟨d,t,rfl,rfl,hd,hp,rfl⟩:=bd h
 cases bX hd
 refine⟨rfl,ae rfl ?_⟩
 clear h hd
 unfold Ap Aq
 simp only[↓ag,ah,simprocAttr]
 exact .val _ rfl
theorem tO(rows:Rows)(k:D->Rows->Prop)(e:Int):aG Og rows k [.raw (it e)]=k (.cd [.raw (u32 0#32),.raw (.slice none 0 0),.raw (u32 0#32),.raw (.slice none 0 0),.raw (it e)]) rows:=by
 refine(cL (bY.int e) rfl rfl k).trans ?_
 simp[shift,bD,af]
theorem readS_le(p:List (BitVec 8)):(fc p).2=0\/(fc p).2=6\/(fc p).2=2:=by
 unfold fc
 cases decide (p.length=56)
 ·exact .inr (.inr rfl)
 ·cases KA (dZ p).toNat&&vi (dZ (p.drop 4)).toNat
  ·exact .inr (.inl rfl)
  ·exact .inl rfl
end kj
end Go.Am

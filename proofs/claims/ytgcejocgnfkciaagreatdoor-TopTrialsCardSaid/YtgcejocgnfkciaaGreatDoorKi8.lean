import Derived.Test.YtgcejocgnfkciaaGreatDoorKi7
set_option linter.unusedSimpArgs false
set_option linter.unusedVariables false
set_option maxRecDepth 10000
set_option maxHeartbeats 4000000
namespace Go.Am
attribute [local congr] cN bP cO bQ bT ca bC bU bV cb bk cd bW cM
namespace iZ
open Go.Am.F
theorem OC(m b:Nat)(kd:IntKind)(hb:b<=64)(hm:m*2^b<9223372036854775808)(k:D->Prop):cz .shl (it (m:Int)) (.int kd (b:Int)) k=k (.raw (it ((m*2^b:Nat):Int))):=by
 have e:IntKind.i64.wrap ((m:Int)*2^(min (b:Int).toNat IntKind.i64.bits))=((m*2^b:Nat):Int):=by
  have:min (b:Int).toNat IntKind.i64.bits=b:=by show min (b:Int).toNat 64=b;omega
  rw[this,show((2:Int)^b)=((2^b:Nat):Int) by simp,<-ads]
  exact be (by omega)
 simp only[cz,it]
 rw[e]
 simp
def w4(w:Nat):Bool:=decide (w=1)||decide (w=2)||decide (w=4)||decide (w=8)
theorem Kr{w:Nat}:w4 w=true↔w=1\/w=2\/w=4\/w=8:=by simp[w4];omega
noncomputable def V0:Fn:=mc (bE jx) (λx=>w4 x.w) λx=>(.raw (it ((2^x.w-1:Nat):Int)),[])
theorem end_ok(C:aX)(hC:aJ C P):aP C.aY P 99 (Fn.run V0):=by
 refine aH (Fm C hC) λds rows r h=>?_
 obtain⟨d,x,rfl,rfl,hd,hp,rfl⟩:=aZ h
 cases aF hd
 have hp:=Kr.1 hp
 refine⟨rfl,ae rfl ?_⟩
 clear h hd
 unfold vk vl
 obtain⟨w,p,l⟩:=x
 have hf:∀x,(jx x).fits qI=true:=λx=>rfl
 have Qb:∀w p l,(jx ⟨w,p,l⟩).get [0]=some (.raw (it (w:Int))):=λw p l=>rfl
 have s1:∀k,cz .shl (it 1) (it 1) k=k (.raw (it 2)):=λk=>OC 1 1 .i64 (by decide) (by decide) k
 have s2:∀k,cz .shl (it 1) (it 2) k=k (.raw (it 4)):=λk=>OC 1 2 .i64 (by decide) (by decide) k
 have s4:∀k,cz .shl (it 1) (it 4) k=k (.raw (it 16)):=λk=>OC 1 4 .i64 (by decide) (by decide) k
 have s8:∀k,cz .shl (it 1) (it 8) k=k (.raw (it 256)):=λk=>OC 1 8 .i64 (by decide) (by decide) k
 rcases hp with rfl|rfl|rfl|rfl
 ·simp only[↓ag,ah,simprocAttr,aQ,hf,Qb,s1]
  exact .val _ rfl
 ·simp only[↓ag,ah,simprocAttr,aQ,hf,Qb,s2]
  exact .val _ rfl
 ·simp only[↓ag,ah,simprocAttr,aQ,hf,Qb,s4]
  exact .val _ rfl
 ·simp only[↓ag,ah,simprocAttr,aQ,hf,Qb,s8]
  exact .val _ rfl
theorem kEnd(rows:Rows)(k:D->Rows->Prop)(x:Par)(h:w4 x.w=true):aK V0 rows k [jx x]=k (.raw (it ((2^x.w-1:Nat):Int))) rows:=by
 refine(cw (ZF x) h rfl k).trans ?_
 simp[shift,ab]
def rU(p:List (BitVec 8))(i w:Nat):Nat:=((p.getD (i/(8/w)) 0#8>>>(8-w*(i %(8/w))-w))&&&BitVec.ofNat 8 (2^w-1)).toNat
def gS(p:List (BitVec 8))(i w:Int):Int:=if(w=1\/w=2\/w=4\/w=8)/\0<=i/\i<(p.length*(8/w.toNat):Nat)then(rU p i.toNat w.toNat:Int)else 0
def OD:Fn:=I0 dq s6 s6 (λp _ _=>decide (p.length<=1099511627776)) λp i w=>(.raw (it (gS p i w)),[])
theorem coef_ok(C:aX)(hC:aJ C P):aP C.aY P 166 (Fn.run OD):=by
 refine aH (Q3 C hC) λds rows r h=>?_
 obtain⟨d,d1,d2,p,i,w,rfl,rfl,g0,g1,g2,hp,rfl⟩:=fS h
 have gb:=fx g0
 cases bK g1
 cases bK g2
 simp only[aaA]at hp
 refine⟨rfl,ae rfl ?_⟩
 clear h g0 g1 g2
 have j7:=gb.dP
 unfold HA HB
 have hfit:d.fits .ref=true:=by rcases gb with⟨rfl,_⟩|⟨e,rfl⟩<;>rfl
 by_cases c4:w=4
 ·subst c4
  by_cases h0:i<0
  ·have BY:(i<0)=True:=aaz h0
   have hz:gS p i 4=0:=by rw[gS,aaE (λh=>by omega)]
   rw[hz]
   simp only[↓ag,ah,simprocAttr,j7,BY,aaG]
   exact .val _ rfl
  have BY:(i<0)=False:=aaI h0
  obtain⟨i,rfl⟩:=aaO (aer.1 h0)
  have h84:wz (Int.tdiv 8 4)=2:=by decide
  have hm:wz ((p.length:Int)*2)=((p.length*2:Nat):Int):=by rw[be (by omega)];omega
  by_cases hc:i<p.length*2
  ·have eI:(((p.length*2:Nat):Int)<=(i:Int))=False:=aaI (by omega)
   have hz:gS p (i:Int) 4=(rU p i 4:Int):=by
    rw[gS,aaM ⟨by decide,by omega,by show(i:Int)<((p.length*2:Nat):Int);omega⟩]
    rfl
   have hr:i %2<2:=ade _ (by decide)
   have q1:wz ((i:Int).tdiv 2)=((i/2:Nat):Int):=by rw[acH (by omega),be (by omega)];omega
   have q2:(i:Int).tmod 2=((i %2:Nat):Int):=by rw[abY (by omega)];omega
   have q3:wz (4*((i %2:Nat):Int))=((4*(i %2):Nat):Int):=by rw[be (by omega)];omega
   have q4:wz (8-((4*(i %2):Nat):Int))=((8-4*(i %2):Nat):Int):=by rw[be (by omega)];omega
   have q5:wz (((8-4*(i %2):Nat):Int)-4)=((8-4*(i %2)-4:Nat):Int):=by rw[be (by omega)];omega
   have b0:∀n:Nat,((0:Int)<=(n:Int))=True:=λn=>aaz (by omega)
   have ki:=λk=>gP (k:=k) (rows:=([]:Rows)) (n:=((i/2:Nat):Int)) gb (by have:i/2<p.length:=ac7 (by rw[ado];exact hc);omega)
   rw[hz]
   simp only[↓ag,ah,simprocAttr,j7,BY,h84,hm,eI,q1,q2,q3,q4,q5,b0,ki,aaH,aaK]
   exact .val _ rfl
  ·have eI:(((p.length*2:Nat):Int)<=(i:Int))=True:=aaz (by omega)
   have hz:gS p (i:Int) 4=0:=by
    rw[gS,aaE (λh=>by have h2:(i:Int)<((p.length*2:Nat):Int):=h.2.2;omega)]
   rw[hz]
   simp only[↓ag,ah,simprocAttr,j7,BY,h84,hm,eI,aaG,aaH]
   exact .val _ rfl
 have n4:(w=4)=False:=aaI c4
 by_cases c1:w=1
 ·subst c1
  by_cases h0:i<0
  ·have BY:(i<0)=True:=aaz h0
   have hz:gS p i 1=0:=by rw[gS,aaE (λh=>by omega)]
   rw[hz]
   simp only[↓ag,ah,simprocAttr,j7,BY,aaG]
   exact .val _ rfl
  have BY:(i<0)=False:=aaI h0
  obtain⟨i,rfl⟩:=aaO (aer.1 h0)
  have h81:wz (Int.tdiv 8 1)=8:=by decide
  have hm:wz ((p.length:Int)*8)=((p.length*8:Nat):Int):=by rw[be (by omega)];omega
  by_cases hc:i<p.length*8
  ·have eI:(((p.length*8:Nat):Int)<=(i:Int))=False:=aaI (by omega)
   have hz:gS p (i:Int) 1=(rU p i 1:Int):=by
    rw[gS,aaM ⟨by decide,by omega,by show(i:Int)<((p.length*8:Nat):Int);omega⟩]
    rfl
   have hr:i %8<8:=ade _ (by decide)
   have q1:wz ((i:Int).tdiv 8)=((i/8:Nat):Int):=by rw[acH (by omega),be (by omega)];omega
   have q2:(i:Int).tmod 8=((i %8:Nat):Int):=by rw[abY (by omega)];omega
   have q3:wz (1*((i %8:Nat):Int))=((1*(i %8):Nat):Int):=by rw[be (by omega)];omega
   have q4:wz (8-((1*(i %8):Nat):Int))=((8-1*(i %8):Nat):Int):=by rw[be (by omega)];omega
   have q5:wz (((8-1*(i %8):Nat):Int)-1)=((8-1*(i %8)-1:Nat):Int):=by rw[be (by omega)];omega
   have b0:∀n:Nat,((0:Int)<=(n:Int))=True:=λn=>aaz (by omega)
   have ki:=λk=>gP (k:=k) (rows:=([]:Rows)) (n:=((i/8:Nat):Int)) gb (by have:i/8<p.length:=ac7 (by rw[ado];exact hc);omega)
   rw[hz]
   simp only[↓ag,ah,simprocAttr,j7,BY,h81,hm,eI,q1,q2,q3,q4,q5,b0,ki,aaH,aaK]
   exact .val _ rfl
  ·have eI:(((p.length*8:Nat):Int)<=(i:Int))=True:=aaz (by omega)
   have hz:gS p (i:Int) 1=0:=by
    rw[gS,aaE (λh=>by have h2:(i:Int)<((p.length*8:Nat):Int):=h.2.2;omega)]
   rw[hz]
   simp only[↓ag,ah,simprocAttr,j7,BY,h81,hm,eI,aaG,aaH]
   exact .val _ rfl
 have n1:(w=1)=False:=aaI c1
 by_cases c2:w=2
 ·subst c2
  by_cases h0:i<0
  ·have BY:(i<0)=True:=aaz h0
   have hz:gS p i 2=0:=by rw[gS,aaE (λh=>by omega)]
   rw[hz]
   simp only[↓ag,ah,simprocAttr,j7,BY,aaG]
   exact .val _ rfl
  have BY:(i<0)=False:=aaI h0
  obtain⟨i,rfl⟩:=aaO (aer.1 h0)
  have h82:wz (Int.tdiv 8 2)=4:=by decide
  have hm:wz ((p.length:Int)*4)=((p.length*4:Nat):Int):=by rw[be (by omega)];omega
  by_cases hc:i<p.length*4
  ·have eI:(((p.length*4:Nat):Int)<=(i:Int))=False:=aaI (by omega)
   have hz:gS p (i:Int) 2=(rU p i 2:Int):=by
    rw[gS,aaM ⟨by decide,by omega,by show(i:Int)<((p.length*4:Nat):Int);omega⟩]
    rfl
   have hr:i %4<4:=ade _ (by decide)
   have q1:wz ((i:Int).tdiv 4)=((i/4:Nat):Int):=by rw[acH (by omega),be (by omega)];omega
   have q2:(i:Int).tmod 4=((i %4:Nat):Int):=by rw[abY (by omega)];omega
   have q3:wz (2*((i %4:Nat):Int))=((2*(i %4):Nat):Int):=by rw[be (by omega)];omega
   have q4:wz (8-((2*(i %4):Nat):Int))=((8-2*(i %4):Nat):Int):=by rw[be (by omega)];omega
   have q5:wz (((8-2*(i %4):Nat):Int)-2)=((8-2*(i %4)-2:Nat):Int):=by rw[be (by omega)];omega
   have b0:∀n:Nat,((0:Int)<=(n:Int))=True:=λn=>aaz (by omega)
   have ki:=λk=>gP (k:=k) (rows:=([]:Rows)) (n:=((i/4:Nat):Int)) gb (by have:i/4<p.length:=ac7 (by rw[ado];exact hc);omega)
   rw[hz]
   simp only[↓ag,ah,simprocAttr,j7,BY,h82,hm,eI,q1,q2,q3,q4,q5,b0,ki,aaH,aaK]
   exact .val _ rfl
  ·have eI:(((p.length*4:Nat):Int)<=(i:Int))=True:=aaz (by omega)
   have hz:gS p (i:Int) 2=0:=by
    rw[gS,aaE (λh=>by have h2:(i:Int)<((p.length*4:Nat):Int):=h.2.2;omega)]
   rw[hz]
   simp only[↓ag,ah,simprocAttr,j7,BY,h82,hm,eI,aaG,aaH]
   exact .val _ rfl
 have n2:(w=2)=False:=aaI c2
 by_cases c8:w=8
 ·subst c8
  by_cases h0:i<0
  ·have BY:(i<0)=True:=aaz h0
   have hz:gS p i 8=0:=by rw[gS,aaE (λh=>by omega)]
   rw[hz]
   simp only[↓ag,ah,simprocAttr,j7,BY,aaG]
   exact .val _ rfl
  have BY:(i<0)=False:=aaI h0
  obtain⟨i,rfl⟩:=aaO (aer.1 h0)
  have h88:wz (Int.tdiv 8 8)=1:=by decide
  have hm:wz ((p.length:Int)*1)=((p.length*1:Nat):Int):=by rw[be (by omega)];omega
  by_cases hc:i<p.length*1
  ·have eI:(((p.length*1:Nat):Int)<=(i:Int))=False:=aaI (by omega)
   have hz:gS p (i:Int) 8=(rU p i 8:Int):=by
    rw[gS,aaM ⟨by decide,by omega,by show(i:Int)<((p.length*1:Nat):Int);omega⟩]
    rfl
   have hr:i %1<1:=ade _ (by decide)
   have q1:wz ((i:Int).tdiv 1)=((i/1:Nat):Int):=by rw[acH (by omega),be (by omega)];omega
   have q2:(i:Int).tmod 1=((i %1:Nat):Int):=by rw[abY (by omega)];omega
   have q3:wz (8*((i %1:Nat):Int))=((8*(i %1):Nat):Int):=by rw[be (by omega)];omega
   have q4:wz (8-((8*(i %1):Nat):Int))=((8-8*(i %1):Nat):Int):=by rw[be (by omega)];omega
   have q5:wz (((8-8*(i %1):Nat):Int)-8)=((8-8*(i %1)-8:Nat):Int):=by rw[be (by omega)];omega
   have b0:∀n:Nat,((0:Int)<=(n:Int))=True:=λn=>aaz (by omega)
   have ki:=λk=>gP (k:=k) (rows:=([]:Rows)) (n:=((i/1:Nat):Int)) gb (by have:i/1<p.length:=ac7 (by rw[ado];exact hc);omega)
   rw[hz]
   simp only[↓ag,ah,simprocAttr,j7,BY,h88,hm,eI,q1,q2,q3,q4,q5,b0,ki,aaH,aaK]
   exact .val _ rfl
  ·have eI:(((p.length*1:Nat):Int)<=(i:Int))=True:=aaz (by omega)
   have hz:gS p (i:Int) 8=0:=by
    rw[gS,aaE (λh=>by have h2:(i:Int)<((p.length*1:Nat):Int):=h.2.2;omega)]
   rw[hz]
   simp only[↓ag,ah,simprocAttr,j7,BY,h88,hm,eI,aaG,aaH]
   exact .val _ rfl
 have n8:(w=8)=False:=aaI c8
 have hz:gS p i w=0:=by rw[gS,aaE (λh=>by omega)]
 rw[hz]
 simp only[↓ag,ah,simprocAttr,n1,n2,n4,n8,aaH,abC]
 exact .val _ rfl
theorem V1{p:List (BitVec 8)}{i w:Nat}(hw:w4 w=true)(hi:i<p.length*(8/w)):gS p (i:Int) (w:Int)=(rU p i w:Int):=by
 have h:=Kr.1 hw
 rw[gS,aaM ⟨by omega,by omega,by rw[aaK];omega⟩]
 simp
theorem kCoef(rows:Rows)(k:D->Rows->Prop)(d:D)(p:List (BitVec 8))(i w:Int)(hd:bd rows d p)(hp:p.length<=1099511627776):aK OD rows k [d,.raw (it i),.raw (it w)]=k (.raw (it (gS p i w))) rows:=by
 refine(gI (.bs hd) (bF.int i) (bF.int w) (by simp[hp]) rfl k).trans ?_
 simp[shift,ab]
theorem ZL(rows:Rows)(k:D->Rows->Prop)(d:D)(p:List (BitVec 8))(i w:Nat)(hd:bd rows d p)(hp:p.length<=1099511627776)(hw:w4 w=true)(hi:i<p.length*(8/w)):aK OD rows k [d,.raw (it (i:Int)),.raw (it (w:Int))]=k (.raw (it (rU p i w:Int))) rows:=by
 rw[kCoef rows k d p i w hd hp,V1 hw hi]
theorem OE(p:List (BitVec 8))(i w:Nat)(hw:w4 w=true):rU p i w<=2^w-1:=by
 have h:∀x:BitVec 8,(x&&&BitVec.ofNat 8 (2^w-1)).toNat<=2^w-1:=λx=>by
  rw[aeo,aa7]
  refine abg Nat.and_le_right ?_
  exact Nat.mod_le _ _
 exact h _
def BZ(d:List (BitVec 8))(w:Nat):Nat->Nat
 |0=>0
 |n+1=>BZ d w n+(2^w-1-rU d n w)
theorem TD(d:List (BitVec 8))(w n:Nat):BZ d w n<=n*(2^w-1):=by
 induction n with
 |zero=>simp[BZ]
 |succ n ih=>rw[BZ,adI];omega
def HZ(x:Par)(d:List (BitVec 8)):List (BitVec 8):=d++ud (BZ d x.w (256/x.w)*2^x.l)
def xD(x:Par)(d:List (BitVec 8))(n:Nat):List Nat:=(List.range n).map λi=>rU (HZ x d) i x.w
def fK(t:Nat)(d:List (BitVec 8)):List Nat:=xD (vV t) d (pT t)
def vW(n:Nat):D:= .raw (it (n:Int))
def outI(l:List Nat):D×Rows:=(.sl LI 0 [] 0 l.length false,[some ⟨LI,l.map vW⟩])
def parOK(x:Par):Prop:=w4 x.w=true/\x.p<=34*(8/x.w)/\x.p<=265/\256/x.w*(2^x.w-1)*2^x.l<65536/\x.l<=7/\256/x.w<=32*(8/x.w)
theorem lN{t:Nat}(h:tM t=true):parOK (vV t):=by
 simp only[tM,aav,aaA]at h
 have:t=1\/t=2\/t=3\/t=4:=by omega
 rcases this with rfl|rfl|rfl|rfl<;>exact⟨by decide,by decide,by decide,by decide,by decide,by decide⟩
theorem tdivN(a b:Nat)(ha:a<9223372036854775808):wz ((a:Int).tdiv (b:Int))=((a/b:Nat):Int):=by
 have h:a/b<=a:=adD _ _
 rw[acH (by omega),<-adV]
 generalize a/b=c at*
 exact be (by omega)
theorem jg.TE{s:Sh}{d:D}{rows:Rows}{els:List D}(h:jg s d rows els)(hs:s.pure=true):yE rows d (.sl s 0 [] 0 els.length false) [some ⟨s,els⟩]:=by
 rcases h with⟨rfl,rfl⟩|⟨r,ex,rfl,h⟩
 ·exact .YD s
 ·exact .own s r 0 _ ex false _ h hs (λh=>by cases h)
theorem app_arr{rows:Rows}{r i len:Nat}{q:List Nat}{old news:List D}{k:D->Rows->Prop}(he:elems rows (.sl L8 r (i::q) 0 len true)=some old)(hn:old.length=len)(hne:news.length≠0)(hb:len+news.length<=most)
  (hk:k (.sl L8 rows.length [] 0 (len+news.length) false) (rows++[some ⟨L8,old++news⟩])):wj rows L8 1 (.sl L8 r (i::q) 0 len true) news k:=by
 unfold wj
 rw[he]
 refine⟨rfl,hn,by rw[aeB];exact hb,hb,?_⟩
 exact⟨rfl,λh=>absurd h hne,λ_=>hk⟩
noncomputable def uK:Fn:=ux qc (bE aU) (λ_ d=>decide (d.length=32)) λt d=>outI (bif tM t.toNat then fK t.toNat d else[])
theorem V2(C:aX)(hC:aJ C P)(h1:C.fn 37=some ko)(h2:C.fn 99=some V0)(h3:C.fn 166=some OD)(h4:C.fn 162=some Rj):aP C.aY P 110 (Fn.run uK):=by
 refine aH (LD C hC) λds rows r h=>?_
 obtain⟨d0,d1,t,d,rfl,rfl,g0,g1,hp,rfl⟩:=dE h
 cases eh g0
 cases aF g1
 simp only[aaA]at hp
 refine⟨rfl,ae rfl ?_⟩
 clear h g0 g1
 unfold Bv Bw
 have hz:D.agg qI [.raw (it 0),.raw (it 0),.raw (it 0)]=jx ⟨0,0,0⟩:=rfl
 simp only[hz]
 cases hk:tM t.toNat
 ·have kP:=λrows k=>oh rows k t
  rw[hk]at kP
  simp only[↓ag,ah,simprocAttr,aQ,aU,h1,kP,cY,abC,aaR]
  exact .YD _
 ·have kP:=λrows k=>oh rows k t
  have hx:=lN hk
  have hpt:pT t.toNat=(vV t.toNat).p:=rfl
  rw[fK,hpt]
  rw[hk]at kP
  generalize vV t.toNat=x at*
  obtain⟨hw,Kk,tZ,hs,hl,rf⟩:=hx
  have kE:=λrows k=>kEnd rows k x hw
  have g0:(jx x).get [0]=some (.raw (it (x.w:Int))):=rfl
  have g1:(jx x).get [1]=some (.raw (it (x.p:Int))):=rfl
  have g2:(jx x).get [2]=some (.raw (it (x.l:Int))):=rfl
  have q1:wz (Int.tdiv 256 (x.w:Int))=((256/x.w:Nat):Int):=tdivN 256 x.w (by decide)
  have hw0:((x.w:Int)=0)=False:=aaI (by have:=Kr.1 hw;omega)
  have hw0':((x.w:Int)≠0)=True:=aaz (by have:=Kr.1 hw;omega)
  simp only[↓ag,ah,simprocAttr,aQ,aU,h1,kP,cY,g0,q1,hw0,hw0',abn,aaY]
  have hpw:2^x.w<=256:=by rcases Kr.1 hw with h|h|h|h<;>rw[h]<;>decide
  have h256:256/x.w<=256:=adD _ _
  have b0:∀n:Nat,((0:Int)<=(n:Int))=True:=λn=>aaz (by omega)
  refine bg (256/x.w) (λi env rows=>has env [(22,.raw (it (i:Int))),(21,.raw (it ((256/x.w:Nat):Int))),(7,.raw (it (BZ d x.w i:Int))),(5,.ptr qI 1 [0]),(3,.ptr (.ar 32 L8) 0 [0])]/\
   rows=[some ⟨.ar 32 L8,[.agg (.ar 32 L8) (bs d)]⟩,some ⟨qI,[jx x]⟩]) ?_ ?_ ⟨?_,rfl⟩
  ·rintro i hi env rows ⟨hh,rfl⟩ R hR
   simp only[has]at hh
   have e0:((i:Int)<((256/x.w:Nat):Int))=True:=aaz (by omega)
   have e1:=cj i (by omega)
   have hc:=OE d i x.w hw
   have j7:=TD d x.w i
   have hsl2:i*(2^x.w-1)<=256*255:=Nat.mul_le_mul (by omega) (by omega)
   have kc:=λk=>ZL [some ⟨.ar 32 L8,[.agg (.ar 32 L8) (bs d)]⟩,some ⟨qI,[jx x]⟩] k (.sl L8 0 [0] 0 32 true) d i x.w (bd.tJ (n:=32) rfl rfl hp) (by omega) hw (by rw[hp];omega)
   have q2:wz (((2^x.w-1:Nat):Int)-(rU d i x.w:Int))=((2^x.w-1-rU d i x.w:Nat):Int):=by rw[be (by omega)];omega
   have q3:wz ((BZ d x.w i:Int)+((2^x.w-1-rU d i x.w:Nat):Int))=(BZ d x.w (i+1):Int):=by rw[be (by omega),BZ];omega
   simp only[↓ag,ah,simprocAttr,aQ,hh,e0,e1,cY,h2,kE,g0,h3,kc,q2,q3]
   exact hR _ _ ⟨by simp only[has,↓ag,ah,simprocAttr,hh],rfl⟩
  ·rintro env rows ⟨hh,rfl⟩ R
   simp only[has]at hh
   have e0:(((256/x.w:Nat):Int)<((256/x.w:Nat):Int))=False:=aaI (by omega)
   have j7:=TD d x.w (256/x.w)
   have hbd:BZ d x.w (256/x.w)*2^x.l<65536:=Nat.lt_of_le_of_lt (abH _ j7) hs
   have kS:=λk=>OC (BZ d x.w (256/x.w)) x.l .i64 (by omega) (by omega) k
   have kS':∀k,cz .shl (it (BZ d x.w (256/x.w):Int)) (it (x.l:Int)) k=k (.raw (it ((BZ d x.w (256/x.w)*2^x.l:Nat):Int))):=kS
   have kT:=λrows k=>kTwo rows k _ hbd
   have my:(HZ x d).length=34:=by rw[HZ,aax,hp];rfl
   have hfd:bs d++bs (ud (BZ d x.w (256/x.w)*2^x.l))=bs (HZ x d):=oW _ _
   have ea:∀L ex,elems ([some ⟨.ar 32 L8,[.agg (.ar 32 L8) (bs d)]⟩,some ⟨qI,[jx x]⟩]++L) (.sl L8 0 [0] 0 32 ex)=some (bs d):=λL ex=>pM (n:=32) rfl rfl hp
   simp only[↓ag,ah,simprocAttr,aQ,hh,e0,cY,g2,kS',h4,kT]
   have tk:∀m,List.take 2 (bs (ud m))=bs (ud m):=λm=>rfl
   have bl:∀m,(bs (ud m)).length=2:=λm=>rfl
   rw[tk]
   refine⟨rfl,app_arr (pM (n:=32) rfl rfl hp) (by rw[aB];exact hp) (by rw[bl];decide) (by rw[bl];decide) ?_⟩
   rw[hfd,bl]
   simp only[↓ag,ah,simprocAttr,aQ,hh,cY,g1]
   refine⟨by omega,by omega,by omega,?_⟩
   have qZ:∀i,(xD x d i).length=i:=λi=>by simp[xD]
   have hds:∀i,(xD x d i).map vW++[.raw (it (rU (HZ x d) i x.w:Int))]=(xD x d (i+1)).map vW:=λi=>by simp[xD,abM,vW]
   refine bg x.p (λi env rows=>has env [(48,.raw (it (i:Int))),(47,.raw (it (x.p:Int))),(9,.sl L8 3 [] 0 34 false),(5,.ptr qI 1 [0])]/\
    live rows 3=some ⟨L8,bs (HZ x d)⟩/\live rows 1=some ⟨qI,[jx x]⟩/\∃d',look env 10=some d'/\jg LI d' rows ((xD x d i).map vW)) ?_ ?_ ⟨?_,rfl,rfl,.sl LI 4 [] 0 0 (decide (0=(x.p:Int))),?_,.inr ⟨4,_,rfl,rfl⟩⟩
   ·clear hh
    rintro i hi env rows ⟨hh,r3,r1,d',h10,hO⟩ R hR
    simp only[has]at hh
    have e0:((i:Int)<(x.p:Int))=True:=aaz (by omega)
    have e1:=cj i (by omega)
    have kc:=λk=>ZL rows k (.sl L8 3 [] 0 34 false) (HZ x d) i x.w (bd.own r3 _ my.symm) (by omega) hw (by rw[my];omega)
    have eb:∀v ex,elems (rows++[some ⟨LI,[.raw (it v)]⟩]) (.sl LI rows.length [] 0 1 ex)=some [.raw (it v)]:=λv ex=>by
     have:live (rows++[some ⟨LI,[.raw (it v)]⟩]) rows.length=some ⟨LI,[.raw (it v)]⟩:=by rw[bx];rfl
     simp only[elems,this];rfl
    simp only[↓ag,ah,simprocAttr,aQ,hh,e0,e1,h10,cY,r1,g0,h3,kc,eb]
    refine jG hO.push (by rw[aaC,qZ];simp[most];omega) (by rw[aaC,qZ];simp[most];omega) λd2 aa H0 pI xE _=>?_
    rw[hds]at H0
    have r3':=pI 3 _ (aj r3 _) (λex=>gQ hO r3 (by decide) ex _)
    have r1':=pI 1 _ (aj r1 _) (λex=>gQ hO r1 (by decide) ex _)
    simp only[↓ag,ah,simprocAttr,aQ,hh,e1]
    exact hR _ _ ⟨by simp only[has,↓ag,ah,simprocAttr,hh],r3',r1',d2,by simp only[↓ag,ah,simprocAttr],H0⟩
   ·clear hh
    rintro env rows ⟨hh,r3,r1,d',h10,hO⟩ R
    simp only[has]at hh
    have e0:((x.p:Int)<(x.p:Int))=False:=aaI (by omega)
    simp only[↓ag,ah,simprocAttr,aQ,hh,e0,h10,hO.oz]
    have:=jg.TE hO rfl
    rw[aaC]at this
    exact this
   ·simp only[has,↓ag,ah,simprocAttr,hh]
   ·simp only[↓ag,ah,simprocAttr]
  ·simp only[has,↓ag,ah,simprocAttr]
   rfl
theorem L9(rows:Rows)(k:D->Rows->Prop)(t:BitVec 32)(d:List (BitVec 8))(hd:d.length=32)(ht:tM t.toNat=true):
  aK uK rows k [.raw (u32 t),.agg (.ar 32 L8) (bs d)]=k (.sl LI (0+rows.length) [] 0 (pT t.toNat) false) (rows++[some ⟨LI,(fK t.toNat d).map vW⟩]):=by
 refine(kn (bF.raw (gA t)) (ju d) (by simp[hd]) rfl k).trans ?_
 have hl:(fK t.toNat d).length=pT t.toNat:=by simp[fK,xD]
 simp[ht,outI,shift,ab,Sh.pure,hl]
def Fz(t:Nat)(s:Site)(aI:List (BitVec 8)):List (BitVec 8):=ER s.id s.q (xB s.id s.q aI (2^wT t-1) (pT t))
theorem bF.dlOwn{rows:Rows}{d:D}{l:List (List (BitVec 8))}(h:jg (.ar 32 L8) d rows (l.map aU)):bF rows (oG (.ar 32 L8) aU) d l:=by
 rcases h with⟨h,rfl⟩|⟨r,ex,rfl,h⟩
 ·have:l=[]:=by cases l with|nil=>rfl|cons x l=>cases h
  subst this
  exact bF.raw (by rfl)
 ·exact bF.dl h (by rw[aaC])
theorem Rn{w:Nat}(h:w4 w=true):2^w<=256:=by rcases Kr.1 h with h|h|h|h<;>rw[h]<;>decide
theorem V3{s:Sh}{rows:Rows}{d:D}(ex:Bool):elems (rows++[some ⟨s,[d]⟩]) (.sl s rows.length [] 0 1 ex)=some [d]:=by
 have:live (rows++[some ⟨s,[d]⟩]) rows.length=some ⟨s,[d]⟩:=by rw[bx];rfl
 simp only[elems,this];rfl
noncomputable def B0:Fn:=I0 qc (bE fg) (bE aU) (λ_ s x=>decide (s.id.length=16)&&decide (x.length=32)) λt s x=>bif tM t.toNat then(.cB [aU (Fz t.toNat s x),.raw (it 0)],[])else(.cB [aU uc,.raw (it 6)],[])
theorem V4(C:aX)(hC:aJ C P)(h1:C.fn 37=some ko)(h2:C.fn 99=some V0)(h3:C.fn 100=some BX)(h4:C.fn 98=some Av)(h5:C.fn 101=some OB):aP C.aY P 39 (Fn.run B0):=by
 refine aH (Lv C hC) λds rows r h=>?_
 obtain⟨d0,d1,d2,t,s,aI,rfl,rfl,g0,g1,g2,hp,rfl⟩:=fS h
 cases eh g0
 cases aF g1
 cases aF g2
 simp only[aav,aaA]at hp
 obtain⟨iD,sJ⟩:=hp
 clear h g0 g1 g2
 have hz:D.agg qI [.raw (it 0),.raw (it 0),.raw (it 0)]=jx ⟨0,0,0⟩:=rfl
 have kP:=λrows k=>oh rows k t
 cases hk:tM t.toNat
 ·rw[hk]at kP
  refine⟨rfl,ae rfl ?_⟩
  unfold uy uz
  simp only[hz,eG]
  simp only[↓ag,ah,simprocAttr,aQ,aU,h1,kP,cY,dM,abC,aaR]
  exact .val _ rfl
 ·have hx:=lN hk
  have ew:wT t.toNat=(vV t.toNat).w:=rfl
  have ep:pT t.toNat=(vV t.toNat).p:=rfl
  have hps:Fz t.toNat s aI=ER s.id s.q (xB s.id s.q aI (2^(vV t.toNat).w-1) (vV t.toNat).p):=rfl
  rw[hps]
  rw[hk]at kP
  refine⟨rfl,ae rfl ?_⟩
  unfold uy uz
  simp only[hz,eG]
  generalize vV t.toNat=x at*
  obtain⟨hw,Kk,tZ,hs,hl,rf⟩:=hx
  have hpw:=Rn hw
  have kE:=λrows k=>kEnd rows k x hw
  have g1:(jx x).get [1]=some (.raw (it (x.p:Int))):=rfl
  simp only[↓ag,ah,simprocAttr,aQ,aU,h1,kP,cY,dM,g1,abn,aaY]
  refine⟨by omega,by omega,by omega,?_⟩
  have hds:∀i,(xB s.id s.q aI (2^x.w-1) i).map aU++[.agg (.ar 32 L8) (bs (HX s.id s.q i (2^x.w-1-0) 0 (BW s.id s.q i aI)))]=(xB s.id s.q aI (2^x.w-1) (i+1)).map aU:=λi=>by simp[xB,abM,aU]
  have qZ:∀i,(xB s.id s.q aI (2^x.w-1) i).length=i:=λi=>by simp[xB]
  refine bg x.p (λi env rows=>has env [(25,.raw (it (i:Int))),(24,.raw (it (x.p:Int))),(8,.ptr qI 3 [0]),(6,.ptr (.ar 32 L8) 2 [0]),(5,.ptr (.ar 32 L8) 1 [0]),(4,.ptr vG 0 [0])]/\
   live rows 0=some ⟨vG,[fg s]⟩/\live rows 1=some ⟨.ar 32 L8,[.agg (.ar 32 L8) (bs aI)]⟩/\live rows 2=some ⟨.ar 32 L8,[.agg (.ar 32 L8) (bs uc)]⟩/\live rows 3=some ⟨qI,[jx x]⟩/\
   ∃d',look env 10=some d'/\jg (.ar 32 L8) d' rows ((xB s.id s.q aI (2^x.w-1) i).map aU)/\(∀r ex n,d'= .sl (.ar 32 L8) r [] 0 n ex->4<=r)) ?_ ?_ ⟨?_,rfl,rfl,rfl,rfl,.sl (.ar 32 L8) 4 [] 0 0 (decide (0=(x.p:Int))),?_,.inr ⟨4,_,rfl,rfl⟩,λr ex n h=>?_⟩
  ·rintro i hi env rows ⟨hh,r0,r1,r2,r3,d',h10,hO,hne⟩ R hR
   simp only[has]at hh
   have e0:((i:Int)<(x.p:Int))=True:=aaz (by omega)
   have e1:=cj i (by omega)
   have kS:=λrows k=>TC rows k s i aI iD (by omega) sJ
   have kC:=λrows k=>Rm rows k s i 0 (2^x.w-1) (BW s.id s.q i aI) iD (by omega) (by decide) (by omega) (pN _ _ _ _ _)
   rw[show((0:Nat):Int)=0 from rfl]at kC
   have lt3:=a9 r3
   simp only[↓ag,ah,simprocAttr,aQ,hh,e0,e1,h10,cY,dM,r0,r1,r3,h2,kE,h3,kS,h4,kC,V3]
   refine tG hO.push (by rw[aaC,qZ];simp[most];omega) (by rw[aaC,qZ];simp[most];omega) λaa mC pI xE=>?_
   rw[hds,aax]at mC
   have mC:live aa (rows.length+1)=_:=mC
   have hfr':∀r row,r<4->live rows r=some row->live aa r=some row:=λr row hr hl=>pI r row (aj hl _) (λex n e=>by have:=hne _ _ _ e;omega)
   simp only[↓ag,ah,simprocAttr,aQ,hh,e1]
   exact hR _ _ ⟨by simp only[has,↓ag,ah,simprocAttr,hh],hfr' 0 _ (by omega) r0,hfr' 1 _ (by omega) r1,hfr' 2 _ (by omega) r2,hfr' 3 _ (by omega) r3,.sl (.ar 32 L8) (rows.length+1) [] 0 ((xB s.id s.q aI (2^x.w-1) i).length+1) false,by simp only[↓ag,ah,simprocAttr],.inr ⟨_,false,by rw[aaC,qZ,qZ],mC⟩,λr ex n e=>by injection e with _ e;omega⟩
  ·rintro env rows ⟨hh,r0,r1,r2,r3,d',h10,hO,hne⟩ R
   simp only[has]at hh
   have e0:((x.p:Int)<(x.p:Int))=False:=aaI (by omega)
   have w2:=λy=>aE (y:=y) r2
   simp only[↓ag,ah,simprocAttr,aQ,hh,e0,h10,r0,dM,h5]
   refine Eq.mpr (kFold _ _ s _ _ (bF.dlOwn hO) iD (ZC _ _ _ _ _) (by rw[qZ];omega)) ?_
   simp only[↓ag,ah,simprocAttr,aQ,hh,r2,w2]
   exact .val _ rfl
  ·simp only[has,↓ag,ah,simprocAttr]
  ·simp only[↓ag,ah,simprocAttr]
  ·injection h with _ h;omega
theorem kPublic(rows:Rows)(k:D->Rows->Prop)(t:BitVec 32)(s:Site)(x:List (BitVec 8))(iD:s.id.length=16)(hx:x.length=32)(ht:tM t.toNat=true):
  aK B0 rows k [.raw (u32 t),fg s,.agg (.ar 32 L8) (bs x)]=k (.cB [.agg (.ar 32 L8) (bs (Fz t.toNat s x)),.raw (it 0)]) rows:=by
 refine(gI (bF.raw (gA t)) (kq s rows) (ju x) (by simp[iD,hx]) (by simp[ht,b8,je,aU,Sh.pure,a8]) k).trans ?_
 simp[ht,aU,shift,bu,ab,Sh.pure]
def DO:Fn:=ux dq dq (λa b=>Nat.ble a.length most&&Nat.ble b.length most) λa b=>(.raw (.bool (decide (a=b))),[])
theorem ZM(C:aX)(hC:aJ C P):aP C.aY P 94 (Fn.run DO):=by
 refine cv (Jg C hC) λds rows r h=>?_
 obtain⟨d,e,a,b,rfl,rfl,hd,he,hp,rfl⟩:=dE h
 obtain⟨x,hx⟩:=cy hd
 obtain⟨y,hy⟩:=cy he
 refine⟨rfl,_,.cons hx (.cons hy .nil),ae rfl ?_⟩
 unfold zg zh
 simp only[↓ag,ah,simprocAttr,amC]
 refine⟨eB.fh (.inr ⟨x,rfl⟩),?_⟩
 simp only[Tw,↓ag,ah,simprocAttr]
 refine⟨eB.fh (.inr ⟨y,rfl⟩),?_⟩
 simp only[ByteArray.toList_eq,List.toList_toArray,Zn]
 exact .val _ rfl
theorem Ro(rows:Rows)(k:D->Rows->Prop)(d e:D)(p q:List (BitVec 8))(h:bd rows d p)(h':bd rows e q)(hp:p.length<=1099511627776)(hq:q.length<=1099511627776):aK DO rows k [d,e]=k (.raw (.bool (decide (p=q)))) rows:=by
 refine(Dl h h' (by simpa[most]using⟨hp,hq⟩) rfl).trans ?_
 simp[shift,ab]
structure JS where
 q:BitVec 32
 a:Int
 t:Int
 n:Int
 deriving DecidableEq
abbrev SJ:Sh:= .cons dk (.cons LI (.cons LI (.cons LI .nil)))
def jD(s:JS):D:= .agg SJ [.raw (u32 s.q),.raw (it s.a),.raw (it s.t),.raw (it s.n)]
theorem Aw(x y:JS)(h:jD x=jD y):x=y:=by
 obtain⟨a,b,c,d⟩:=x
 obtain⟨a',b',c',d'⟩:=y
 simp only[jD,D.agg.injEq,abL,D.raw.injEq,G3,A9,aci,aa9]at h
 obtain⟨rfl,rfl,rfl,rfl⟩:=h
 rfl
theorem Rp(s:JS):aT (jD s)=false:=rfl
theorem bY(s:JS):(jD s).fits SJ=true:=rfl
theorem H2(n:Nat)(s:JS):shift n (jD s)=jD s:=by simp[jD,shift,Sh.pure]
theorem H3(s:JS):(jD s).get [0]=some (.raw (u32 s.q)):=rfl
theorem zz(s:JS):(jD s).get [1]=some (.raw (it s.a)):=rfl
theorem Ks(s:JS):(jD s).get [2]=some (.raw (it s.t)):=rfl
theorem TF(s:JS):(jD s).get [3]=some (.raw (it s.n)):=rfl
theorem Rq(a b:JS):eqA SJ (jD a) (jD b)=some (decide (a=b)):=by
 obtain⟨q,x,y,z⟩:=a
 obtain⟨q',x',y',z'⟩:=b
 have rf:∀p p':BitVec 32,(p.toNat:Int)=(p'.toNat:Int)↔p=p':=λp p'=>⟨λh=>aaS (by omega),λh=>by rw[h]⟩
 simp only[jD,eqA,adh,acZ,aaY,CR,zG,jA,u32,it,JS.mk.injEq]
 by_cases h1:q=q'<;>by_cases h2:x=x'<;>by_cases h3:y=y'<;>by_cases h4:z=z'<;>simp[h1,h2,h3,h4,rf]
def jK(i:Int):Bool:=decide (i=0)||decide (i=1)
def B1:Fn:=mc s6 (λ_=>true) λi=>(.raw (.bool (jK i)),[])
theorem slot_ok(C:aX)(hC:aJ C P):aP C.aY P 120 (Fn.run B1):=by
 refine aH (Hr C hC) λds rows r h=>?_
 obtain⟨d,i,rfl,rfl,hd,hp,rfl⟩:=aZ h
 cases bK hd
 refine⟨rfl,ae rfl ?_⟩
 clear h hd
 unfold xf xg jK
 by_cases c:i=0
 ·have c1:(i=0)=True:=aaz c
  simp only[↓ag,ah,simprocAttr,c1,aaG,adN]
  exact .val _ rfl
 ·have c1:(i=0)=False:=aaI c
  simp only[↓ag,ah,simprocAttr,c1,aaH,acA]
  exact .val _ rfl
theorem ZN(rows:Rows)(k:D->Rows->Prop)(i:Int):aK B1 rows k [.raw (it i)]=k (.raw (.bool (jK i))) rows:=by
 refine(bh rfl (eQ (oV i) rfl)).trans ?_
 simp[shift,ab]
def cR(s:JS):Bool:=jK s.a&&(jK s.t||(decide (s.t=-1)&&decide (s.n=0)))&&decide (0<=s.n)&&decide (s.n<=3)
noncomputable def pD:Fn:=mc (bE jD) (λ_=>true) λs=>(.raw (.bool (cR s)),[])
theorem V5(C:aX)(hC:aJ C P)(hs:C.fn 120=some B1):aP C.aY P 59 (Fn.run pD):=by
 refine aH (vO C hC) λds rows r h=>?_
 obtain⟨d,s,rfl,rfl,hd,hp,rfl⟩:=aZ h
 cases aF hd
 refine⟨rfl,ae rfl ?_⟩
 clear h hd
 obtain⟨q,a,t,n⟩:=s
 unfold nC nD
 rcases ac8 (t=-1)with c1|c1<;>rcases ac8 (n=0)with c2|c2<;>rcases ac8 (0<=n)with c3|c3<;>rcases ac8 (n<=3)with c4|c4<;>
  (have e1:=c1;have e2:=c2;have e3:=c3;have e4:=c4
   first|replace e1:=aaI e1|replace e1:=aaz e1
   first|replace e2:=aaI e2|replace e2:=aaz e2
   first|replace e3:=aaI e3|replace e3:=aaz e3
   first|replace e4:=aaI e4|replace e4:=aaz e4
   clear c1 c2 c3 c4
   cases h1:jK t<;>cases h2:jK a<;>
    (simp only[↓ag,ah,simprocAttr,jD,cR,hs,ZN,h1,h2,e1,e2,e3,e4,aaG,aaH];exact .val _ rfl))
theorem Rr(C:aX)(hC:aJ C P):aP C.aY P 16 (Fn.run pD):=by
 refine aH (Ja C hC) λds rows r h=>?_
 obtain⟨d,s,rfl,rfl,hd,hp,rfl⟩:=aZ h
 cases aF hd
 refine⟨rfl,ae rfl ?_⟩
 clear h hd
 obtain⟨q,a,t,n⟩:=s
 unfold y6 y7
 rcases ac8 (a<0)with c0|c0
 ·have e0:=aaz c0
  have h2:jK a=false:=by unfold jK;rw[aaX (by omega),aaX (by omega)];rfl
  simp only[↓ag,ah,simprocAttr,jD,cR,h2,e0,aaG,aaH]
  exact .val _ rfl
 rcases ac8 (1<a)with c1|c1
 ·have e0:=aaI c0
  have e1:=aaz c1
  have h2:jK a=false:=by unfold jK;rw[aaX (by omega),aaX (by omega)];rfl
  simp only[↓ag,ah,simprocAttr,jD,cR,h2,e0,e1,aaG,aaH]
  exact .val _ rfl
 have e0:=aaI c0
 have e1:=aaI c1
 have h2:jK a=true:=by
  unfold jK
  have:a=0\/a=1:=by omega
  rcases this with rfl|rfl<;>rfl
 rcases ac8 (n<0)with c3|c3
 ·have e3:=aaz c3
  have e4:(0<=n)=False:=aaI (by omega)
  simp only[↓ag,ah,simprocAttr,jD,cR,h2,e0,e1,e3,e4,aaG,aaH]
  try simp only[acG,ace]
  exact .val _ rfl
 rcases ac8 (3<n)with c5|c5
 ·have e3:=aaI c3
  have e4:(0<=n)=True:=aaz (by omega)
  have e5:=aaz c5
  have e6:(n<=3)=False:=aaI (by omega)
  simp only[↓ag,ah,simprocAttr,jD,cR,h2,e0,e1,e3,e4,e5,e6,aaG,aaH]
  try simp only[acG,ace]
  exact .val _ rfl
 have e3:=aaI c3
 have e4:(0<=n)=True:=aaz (by omega)
 have e5:=aaI c5
 have e6:(n<=3)=True:=aaz (by omega)
 have hR:∀b:Bool,((jK t||(decide (t=-1)&&decide (n=0)))=b)->cR ⟨q,a,t,n⟩=b:=λb hb=>by
  simp only[cR,h2,hb]
  rw[abv (by omega:0<=n),abv (by omega:n<=3)]
  cases b<;>rfl
 rcases(by omega:t=-1\/t=0\/t=1\/(t≠-1/\t≠0/\t≠1))with rfl|rfl|rfl|⟨g1,g2,g3⟩
 ·rcases ac8 (n=0)with c2|c2
  ·have f2:=aaz c2
   have:=hR true (by rw[abv c2];rfl)
   simp only[↓ag,ah,simprocAttr,jD,this,e0,e1,e3,e5,f2,aaG,aaH]
   exact .val _ rfl
  ·have f2:=aaI c2
   have:=hR false (by rw[aaX c2];rfl)
   simp only[↓ag,ah,simprocAttr,jD,this,e0,e1,e3,e5,f2,aaG,aaH]
   exact .val _ rfl
 ·have:=hR true rfl
  simp only[↓ag,ah,simprocAttr,jD,this,e0,e1,e3,e5,aaG,aaH]
  exact .val _ rfl
 ·have:=hR true rfl
  simp only[↓ag,ah,simprocAttr,jD,this,e0,e1,e3,e5,aaG,aaH]
  exact .val _ rfl
 ·have f1:=aaI g1
  have f2:=aaI g2
  have f3:=aaI g3
  have:=hR false (by unfold jK;rw[aaX g1,aaX g2,aaX g3];rfl)
  simp only[↓ag,ah,simprocAttr,jD,this,e0,e1,e3,e5,f1,f2,f3,aaG,aaH]
  exact .val _ rfl
theorem TG(rows:Rows)(k:D->Rows->Prop)(s:JS):aK pD rows k [jD s]=k (.raw (.bool (cR s))) rows:=by
 refine(bh (by simp[aV,Rp]) (r:=(.raw (.bool (cR s)),[])) ?_).trans ?_
 ·rw[pD,eQ (bA Aw s) rfl]
 ·simp[shift,ab]
theorem OF{s:JS}(h:cR s=true):∃a t n:Nat,s.a=a/\s.t=(t:Int)-1/\s.n=n/\a<=1/\t<=2/\n<=3:=by
 simp only[cR,jK,aav,abN,aaA]at h
 obtain⟨⟨⟨h1,h2⟩,h3⟩,h4⟩:=h
 exact⟨s.a.toNat,(s.t+1).toNat,s.n.toNat,by omega,by omega,by omega,by omega,by omega,by omega⟩
def bctl:List (BitVec 8):=[66#8,67#8,84#8,76#8]
def tailJ(s:JS):List (BitVec 8):=[BitVec.ofInt 8 s.a,BitVec.ofInt 8 (s.t+1),BitVec.ofInt 8 s.n,0#8]
def B2(s:JS):List (BitVec 8):=bctl++(bt s.q++tailJ s)
def dh(s:JS):List (BitVec 8):=B2 s++(eu (B2 s)).take 20
theorem FW(s:JS):(B2 s).length=12:=rfl
theorem TH(p:List (BitVec 8)):((eu p).take 20).length=20:=by rw[aaF,du];rfl
theorem fB(s:JS):(dh s).length=32:=by rw[dh,aax,FW,TH]
noncomputable def rV:Fn:=mc (bE jD) (λ_=>true) λs=>bif cR s then eJ (dh s) false else(.raw (.slice none 0 0),[])
theorem V6(C:aX)(hC:aJ C P)(hr:C.fn 59=some pD)(hs:C.fn 95=some DJ):aP C.aY P 60 (Fn.run rV):=by
 refine aH (vP C hC) λds rows r h=>?_
 obtain⟨d,s,rfl,rfl,hd,hp,rfl⟩:=aZ h
 cases aF hd
 refine⟨rfl,ae rfl ?_⟩
 clear h hd hp
 unfold nE nF
 have kr:=λrows k=>TG rows k s
 cases hk:cR s
 ·rw[hk]at kr
  simp only[↓ag,ah,simprocAttr,bY,hr,kr,aaR]
  exact .val _ rfl
 ·rw[hk]at kr
  obtain⟨a,t,n,ha,ht,hn,b1,b2,b3⟩:=OF hk
  have w:wz (s.t+1)=s.t+1:=be (by omega)
  simp only[↓ag,ah,simprocAttr,aQ,bY,H3,zz,Ks,TF,w,hr,kr,aaY]
  have hpre:[D.raw (u8 66#8),D.raw (u8 67#8),D.raw (u8 84#8),D.raw (u8 76#8),.raw (u8 ((s.q>>>24).setWidth 8)),.raw (u8 ((s.q>>>16).setWidth 8)),.raw (u8 ((s.q>>>8).setWidth 8)),.raw (u8 (s.q.setWidth 8)),.raw (u8 (BitVec.ofInt 8 s.a)),.raw (u8 (BitVec.ofInt 8 (s.t+1))),.raw (u8 (BitVec.ofInt 8 s.n)),.raw (u8 0#8)]=bs (B2 s):=rfl
  rw[hpre]
  have pl:(bs (B2 s)).length=12:=rfl
  have my:[B2 s].flatten=B2 s:=by simp
  simp only[hs]
  refine Eq.mpr (Rg _ _ 4 1 _ _ [B2 s] rfl rfl (.cons (bd.own (l:=B2 s) rfl 12 rfl) .nil) (by simp) (by rw[my,FW];omega)) ?_
  rw[my]
  have j7:(bs (eu (B2 s))).length=32:=by rw[aB,du]
  have LY:dh s=B2 s++(eu (B2 s)).take 20:=rfl
  have QJ:=fB s
  have hp0:=FW s
  generalize dh s=B at LY QJ⊢
  generalize B2 s=p at LY j7 pl hp0⊢
  have e20:(bs ((eu p).take 20)).length=20:=by rw[aB,TH]
  have t12:p.take 12=p:=aay (by omega)
  simp only[↓ag,ah,simprocAttr,j7,el_sp,On,abu,eK,e20,t12,pl]
  rw[oW,<-LY]
  have hO:eJ B false=(.sl L8 0 [] 0 32 false,[some ⟨L8,bs B⟩]):=by rw[eJ,QJ]
  rw[hO]
  exact .own L8 6 0 32 false false _ rfl rfl id
theorem TI(rows:Rows)(k:D->Rows->Prop)(s:JS)(h:cR s=true):aK rV rows k [jD s]=k (.sl L8 (0+rows.length) [] 0 32 false) (rows++[some ⟨L8,bs (dh s)⟩]):=by
 refine(bh (by simp[aV,Rp]) (r:=eJ (dh s) false) ?_).trans ?_
 ·rw[rV,eQ (bA Aw s) rfl,h];rfl
 ·simp[eJ,shift,ab,fB,Sh.pure]
theorem kBytesN(rows:Rows)(k:D->Rows->Prop)(s:JS)(h:cR s=false):aK rV rows k [jD s]=k (.raw (.slice none 0 0)) rows:=by
 refine(bh (by simp[aV,Rp]) (r:=(.raw (.slice none 0 0),[])) ?_).trans ?_
 ·rw[rV,eQ (bA Aw s) rfl,h];rfl
 ·simp[shift,ab]
abbrev sA:Sh:= .cons dk (.cons LB .nil)
abbrev uL:Sh:= .cons .ref .nil
abbrev Kt:Sh:= .cons .ref (.cons LB .nil)
abbrev Wd:=BitVec 32×Bool
def v8(p:Wd):D:= .agg sA [.raw (u32 p.1),.raw (.bool p.2)]
structure kY where
 ws:List Wd
 e:Bool
 s:Bool
abbrev kY.w(c:kY):List (BitVec 32):=c.ws.map (·.1)
def ZO(c:kY):D:= .b5 (.agg uL [.cD sA (c.ws.map v8) c.e])
def pQ(c:kY):D:= .b5 (.agg Kt [ZO c,.raw (.bool c.s)])
theorem wdD_inj(x y:Wd)(h:v8 x=v8 y):x=y:=by
 unfold v8 at h
 injection h with _ h
 injection h with h1 h
 injection h with h2 _
 injection h1 with h1
 injection h2 with h2
 injection h2 with h2
 exact Prod.ext (Go.Am.A9.1 h1) h2
theorem TJ{a b:List Wd}(h:a.map v8=b.map v8):a=b:=(adp wdD_inj).1 h
def ZP(x:List Wd×Bool):D:=ZO ⟨x.1,x.2,false⟩
theorem TL(x y:List Wd×Bool)(h:ZP x=ZP y):x=y:=by
 unfold ZP ZO at h
 injection h with h
 injection h with _ h
 injection h with h _
 injection h with _ h1 h2
 exact Prod.ext (TJ h1) h2
theorem B4(x y:kY)(h:pQ x=pQ y):x=y:=by
 obtain⟨xw,xe,xs⟩:=x
 obtain⟨yw,ye,ys⟩:=y
 unfold pQ ZO at h
 injection h with h
 injection h with _ h
 injection h with h1 h
 injection h with h2 _
 injection h1 with h1
 injection h1 with _ h1
 injection h1 with h1 _
 injection h1 with _ h1 h3
 injection h2 with h2
 injection h2 with h2
 cases TJ h1
 subst h2
 subst h3
 rfl
def Ma(l:List (BitVec 32)):D×Rows:=(.sl dk 0 [] 0 l.length false,[some ⟨dk,us l⟩])
theorem Mb{s:Sh}{l:List D}{i:Nat}(h:i<l.length)(e:Bool)(rows:Rows)(k:D->Rows->Prop):oU s (i:Int) rows k (.cD s l e)=k (.b5 l[i]) rows:=by
 simp only[oU,aaK,aaw h,bf,aa9]
 rw[aaz (by omega:(0:Int)<=(i:Int)),aaz (by omega:(i:Int)<(l.length:Int)),aa9,aa9]
theorem us_snoc(l:List (BitVec 32))(i:Nat)(h:i<l.length):us (l.take i)++[.raw (u32 l[i])]=us (l.take (i+1)):=by
 rw[aa2 h,<-Q8]
 rfl
noncomputable def V7:Fn:=mc (bE ZP) (λx=>decide (x.1.length=64)) λx=>Ma (x.1.map (·.1))
theorem wds_ok(C:aX)(hC:aJ C P):aP C.aY P 78 (Fn.run V7):=by
 refine aH (Ad C hC) λds rows r h=>?_
 obtain⟨d,⟨x,e⟩,rfl,rfl,hd,hp,rfl⟩:=aZ h
 cases aF hd
 simp only[aaA]at hp
 refine⟨rfl,ae rfl ?_⟩
 clear h hd
 unfold qo qp
 have hl:(x.map v8).length=64:=by rw[aaC,hp]
 have hm:(x.map (·.1)).length=64:=by rw[aaC,hp]
 simp only[ZP,ZO,↓ag,ah,simprocAttr,hl]
 refine bg 64 (λi env rows=>has env [(13,.raw (it (i:Int))),(12,.raw (it 64)),(11,.cD sA (x.map v8) e)]/\∃d,look env 3=some d/\jg dk d rows (us ((x.map (·.1)).take i))) ?_ ?_ ⟨?_,_,?_,.nil⟩
 ·rintro i hi env rows ⟨hh,d,h3,hO⟩ R hR
  simp only[has]at hh
  have e0:((i:Int)<64)=True:=aaz (by omega)
  have e1:=cj i (by omega)
  have gi:=λrows k=>Mb (s:=sA) (l:=x.map v8) (i:=i) (by omega) e rows k
  have gx:(x.map v8)[i]'(by omega)= .agg sA [.raw (u32 (x[i]'(by omega)).1),.raw (.bool (x[i]'(by omega)).2)]:=by rw[ady];rfl
  rw[gx]at gi
  simp only[↓ag,ah,simprocAttr,aQ,hh,h3,e0,gi]
  refine jG hO.push (by rw[n9,aaF];simp[most];omega) (by rw[n9,aaF];simp[most];omega) λd2 aa H0 pI xE _=>?_
  have hs:=us_snoc (x.map (·.1)) i (by omega)
  rw[ady]at hs
  rw[hs]at H0
  simp only[↓ag,ah,simprocAttr,aQ,hh,e1]
  exact hR _ _ ⟨by simp only[has,↓ag,ah,simprocAttr,hh],d2,by simp only[↓ag,ah,simprocAttr],H0⟩
 ·rintro env rows ⟨hh,d,h3,hO⟩ R
  simp only[has]at hh
  have e0:((64:Int)<64)=False:=aaI (by omega)
  rw[aay (by omega)]at hO
  simp only[↓ag,ah,simprocAttr,hh,h3,e0,hO.oz]
  have:=jg.TE hO rfl
  rw[n9]at this
  exact this
 ·simp only[has,↓ag,ah,simprocAttr]
 ·simp only[↓ag,ah,simprocAttr]
theorem kWds(rows:Rows)(k:D->Rows->Prop)(c:kY)(h:c.ws.length=64):aK V7 rows k [ZO c]=k (.sl dk (0+rows.length) [] 0 64 false) (rows++[some ⟨dk,us c.w⟩]):=by
 refine(bh (by rfl) (eQ (bA TL (c.ws,c.e)) (by simp[h]))).trans ?_
 simp[Ma,shift,ab,Sh.pure,h]
noncomputable def B7:Fn:=mc (bE pQ) (λc=>decide (c.ws.length=64)) λc=>Ma c.w
theorem allc_ok(C:aX)(hC:aJ C P)(h1:C.fn 78=some V7):aP C.aY P 76 (Fn.run B7):=by
 refine aH (Hg C hC) λds rows r h=>?_
 obtain⟨d,c,rfl,rfl,hd,hp,rfl⟩:=aZ h
 cases aF hd
 simp only[aaA]at hp
 refine⟨rfl,ae rfl ?_⟩
 clear h hd
 unfold wV wW
 have hm:c.w.length=64:=by rw[aaC,hp]
 have kW:=λrows k=>kWds rows k c hp
 have f1:(ZO c).fits .ref=true:=rfl
 simp only[pQ,↓ag,ah,simprocAttr,h1,kW,f1]
 rw[Ma,hm]
 exact .own _ _ 0 _ _ _ _ rfl rfl (λh=>by cases h)
theorem Ku(rows:Rows)(k:D->Rows->Prop)(c:kY)(h:c.ws.length=64):aK B7 rows k [pQ c]=k (.sl dk (0+rows.length) [] 0 64 false) (rows++[some ⟨dk,us c.w⟩]):=by
 refine(bh (by rfl) (eQ (bA B4 c) (by simp[h]))).trans ?_
 simp[Ma,shift,ab,Sh.pure,h]
def Jn(x:BitVec 8):Nat:=((List.range 8).filter λi=>x.getLsbD i).length
def TM:Fn:=mc rd8 (λ_=>true) λx=>(.raw (it (Jn x:Int)),[])
def popT:ByteArray:=match gB with
 | .seq _ (.seq (.region _ (_::⟨_,.ue (.const (.string b)) _,_⟩::_)) _)=>b
 | _=>⟨#[]⟩
theorem ZQ:∀n,n<256->popT.data.toList[n]?=some (UInt8.ofNat (Jn (BitVec.ofNat 8 n))):=by decide
theorem ones_ok(C:aX)(hC:aJ C P):aP C.aY P 183 (Fn.run TM):=by
 refine aH (uF C hC) λds rows r h=>?_
 obtain⟨d,x,rfl,rfl,hd,hp,rfl⟩:=aZ h
 cases G2 hd
 refine⟨rfl,ae rfl ?_⟩
 clear h hd
 have hT:=ZQ x.toNat x.isLt
 rw[adF,adG]at hT
 have hle:Jn x<=8:=by
  refine abg (ac3 _ _) ?_
  decide
 have hc:(UInt8.ofNat (Jn x)).toBitVec.toNat=Jn x:=by
  show(BitVec.ofNat 8 (Jn x)).toNat=_
  rw[aa7];omega
 simp only[popT,gB]at hT
 unfold gB mW
 simp only[↓ag,ah,simprocAttr,hT,abj,hc]
 exact .val _ rfl
theorem kOnes(rows:Rows)(k:D->Rows->Prop)(x:BitVec 8):aK TM rows k [.raw (u8 x)]=k (.raw (it (Jn x:Int))) rows:=by
 refine(bh (by rfl) (eQ (Lm x) rfl)).trans ?_
 simp[shift,ab]
def tzL:List (BitVec 8):=[0,1,28,2,29,14,24,3,30,22,20,15,25,17,4,8,31,27,13,23,21,19,16,7,26,12,18,6,11,5,10,9]
def tzD:D:= .agg (.ar 32 L8) (bs tzL)
def tzS(x:BitVec 32):Nat:=if x=0#32 then 32 else(tzL.getD (((x&&&-x)*125613361#32)>>>27).toNat 0#8).toNat
def fTz:Fn:=mc qc (λ_=>true) λx=>(.raw (it (tzS x:Int)),[])
theorem u_neg32(x:BitVec 32)(k:D->Prop):aUn .neg (u32 x) k=k (.raw (u32 (-x))):=by
 have h:(0-(x.toNat:Int)) %4294967296=((-x).toNat:Int):=by rw[BitVec.toNat_neg];omega
 show k (.raw (.int .u32 (IntKind.u32.wrap (0-(x.toNat:Int)))))=_
 rw[Y4,h]
 rfl
theorem tz_ok(C:aX)(hC:aJ C P)(hg:C.aY 1=some tzD):aP C.aY P 77 (Fn.run fTz):=by
 refine aH (pB C hC) λds rows r h=>?_
 obtain⟨d,x,rfl,rfl,hd,hp,rfl⟩:=aZ h
 cases eh hd
 refine⟨rfl,ae rfl ?_⟩
 clear h hd
 unfold jH jJ
 by_cases hx:x=0#32
 ·have hx':(x=0#32)=True:=aaz hx
  simp only[↓ag,ah,simprocAttr,tzS,hx',aaG,ab6]
  exact .val _ rfl
 ·have hx':(x=0#32)=False:=aaI hx
  have hlt:(((x&&&-x)*125613361#32)>>>27).toNat<32:=by
   rw[ab3,abG]
   have:=((x&&&-x)*125613361#32).isLt
   omega
  simp only[tzS,aaE hx]
  generalize hy:((x&&&-x)*125613361#32)>>>27=y at*
  have hl:(((y.toNat:Int))<32)=True:=aaz (by omega)
  have hb:=nX (l:=tzL) (i:=y.toNat) hlt
  simp only[↓ag,ah,simprocAttr,u_neg32,hg,tzD,hx',hy,hl,hb,aaH,abj,aaK]
  exact .val _ rfl
theorem kTz(rows:Rows)(k:D->Rows->Prop)(x:BitVec 32):aK fTz rows k [.raw (u32 x)]=k (.raw (it (tzS x:Int))) rows:=by
 refine(bh (by rfl) (eQ (gA x) rfl)).trans ?_
 simp[shift,ab]
theorem tz_le(x:BitVec 32):tzS x<=32:=by
 have h:∀n,n<32->(tzL.getD n 0#8).toNat<32:=by decide
 unfold tzS
 split
 ·exact aaL _
 ·rcases aa1 (((x&&&-x)*125613361#32)>>>27).toNat 32 with c|c
  ·exact aeq (h _ c)
  ·rw[aaD,abk (by exact c)];decide
def V8(w:BitVec 32)(i:Nat):Bool:=decide (5<=Jn ((w>>>(8*i)).setWidth 8))
def fOn:Fn:=ux qc s6 (λ_ i=>decide (0<=i)&&decide (i<=3)) λw i=>(.raw (.bool (V8 w i.toNat)),[])
theorem on_ok(C:aX)(hC:aJ C P)(h1:C.fn 183=some TM):aP C.aY P 135 (Fn.run fOn):=by
 refine aH (Zg C hC) λds rows r h=>?_
 obtain⟨d,e,w,i,rfl,rfl,hd,he,hp,rfl⟩:=dE h
 cases eh hd
 cases bK he
 simp only[aav,aaA]at hp
 obtain⟨n,rfl⟩:=aaO hp.1
 refine⟨rfl,ae rfl ?_⟩
 clear h hd he
 unfold N9 Oa
 have e1:wz (8*(n:Int))=((8*n:Nat):Int):=by rw[be (by omega)];omega
 have e2:((5:Int)<=(Jn ((w>>>(8*n)).setWidth 8):Int))=(5<=Jn ((w>>>(8*n)).setWidth 8)):=by simp;omega
 simp only[↓ag,ah,simprocAttr,h1,kOnes,e1,e2,abj,aaK,V8]
 exact .val _ rfl
theorem kOn(rows:Rows)(k:D->Rows->Prop)(w:BitVec 32)(i:Nat)(h:i<=3):aK fOn rows k [.raw (u32 w),.raw (it (i:Int))]=k (.raw (.bool (V8 w i))) rows:=by
 refine(bh (by rfl) (lg (gA w) (oV i) (by simp;omega))).trans ?_
 simp[shift,ab]
def ES(w:BitVec 32):Nat->Nat
 |0=>0
 |i+1=>if V8 w i then i+1 else ES w i
def dF(c:kY):Nat:=ES (c.w.getD 0 0#32) 4
noncomputable def H4:Fn:=mc (bE pQ) (λc=>decide (c.ws.length=64)) λc=>(.raw (it (dF c:Int)),[])
theorem life_ok(C:aX)(hC:aJ C P)(h1:C.fn 76=some B7)(h2:C.fn 135=some fOn):aP C.aY P 71 (Fn.run H4):=by
 refine aH (Fl C hC) λds rows r h=>?_
 obtain⟨d,c,rfl,rfl,hd,hp,rfl⟩:=aZ h
 cases aF hd
 simp only[aaA]at hp
 refine⟨rfl,ae rfl ?_⟩
 clear h hd
 unfold vi vj
 have hm:c.w.length=64:=by rw[aaC,hp]
 have kA:=λrows k=>Ku rows k c hp
 have g0:=lh (l:=c.w) (i:=0) (by omega)
 rw[dF]
 generalize c.w.getD 0 0#32=w at*
 simp only[↓ag,ah,simprocAttr]
 refine bg 4 (λi env rows=>has env [(5,.raw (it (i:Int))),(3,.raw (it (ES w i:Int))),(0,pQ c)]) ?_ ?_ ?_
 ·rintro i hi env rows hh R hR
  simp only[has]at hh
  have e0:((i:Int)<4)=True:=aaz (by omega)
  have e1:=cj i (by omega)
  have kO:=λrows k=>kOn rows k w i (by omega)
  cases ho:V8 w i with
  |true=>
   simp only[↓ag,ah,simprocAttr,aQ,hh,e0,e1,h1,h2,kA,g0,kO,ho]
   exact hR _ _ (by simp only[has,↓ag,ah,simprocAttr,hh,ES,ho,ab6])
  |false=>
   simp only[↓ag,ah,simprocAttr,aQ,hh,e0,e1,h1,h2,kA,g0,kO,ho]
   exact hR _ _ (by simp only[has,↓ag,ah,simprocAttr,hh,ES,ho]<;>simp)
 ·rintro env rows hh R
  simp only[has]at hh
  have e0:((4:Int)<4)=False:=aaI (by omega)
  simp only[↓ag,ah,simprocAttr,hh,e0]
  exact .val _ rfl
 ·simp only[has,↓ag,ah,simprocAttr,ES]
theorem V9{α:Type}(l:List α)(i:Nat)(z:α)(h:i<l.length):l.drop i=l.getD i z::l.drop (i+1):=by
 rw[abF h]
 simp[List.getD,h]
def Rs:List (BitVec 32)->Nat
 |[]=>0
 |w::l=>if tzS (~~~w)<32 then tzS (~~~w)else tzS (~~~w)+Rs l
def gy(c:kY):Nat:=min (Rs ((c.w.drop 1).take 8)) 255
noncomputable def OG:Fn:=mc (bE pQ) (λc=>decide (c.ws.length=64)) λc=>(.raw (it (gy c:Int)),[])
theorem ctr_ok(C:aX)(hC:aJ C P)(h1:C.fn 76=some B7)(h2:C.fn 77=some fTz):aP C.aY P 26 (Fn.run OG):=by
 refine aH (Ab C hC) λds rows r h=>?_
 obtain⟨d,c,rfl,rfl,hd,hp,rfl⟩:=aZ h
 cases aF hd
 simp only[aaA]at hp
 refine⟨rfl,ae rfl ?_⟩
 clear h hd
 unfold qg qi
 have hm:c.w.length=64:=by rw[aaC,hp]
 have kA:=λrows k=>Ku rows k c hp
 rw[gy]
 generalize c.w=W at*
 have hl8:((W.drop 1).take 8).length=8:=by simp;omega
 have hgw:∀i,i<8->((W.drop 1).take 8).getD i 0#32=W.getD (1+i) 0#32:=λi hi=>by
  rw[aaD,abm hi,abh,<-aaD]
 generalize (W.drop 1).take 8=V at*
 have fin:∀n:Nat,(bif false then max (n:Int) 255 else min (n:Int) 255)=((min n 255:Nat):Int):=λn=>by simp;omega
 simp only[↓ag,ah,simprocAttr,aQ,h1,kA]
 refine bg 8 (λi env rows=>has env [(11,.raw (it (i:Int))),(10,.raw (it 8)),(9,.sl dk 0 [] 1 8 false)]/\rows=[some ⟨dk,us W⟩]/\∃n:Nat,look env 3=some (.raw (it (n:Int)))/\n<=32*i/\Rs (V)=n+Rs (V.drop i)) ?_ ?_ ⟨?_,rfl,0,?_,by omega,by simp⟩
 ·rintro i hi env rows ⟨hh,rfl,n,h3,hn,hc⟩ R hR
  simp only[has]at hh
  have e0:((i:Int)<8)=True:=aaz (by omega)
  have e1:=cj i (by omega)
  have hw:=V9 V i 0#32 (by omega)
  have gw:(us W)[1+i]?=some (.raw (u32 (V.getD i 0#32))):=by rw[lh (by omega),hgw i hi]
  rw[hw,Rs]at hc
  generalize V.getD i 0#32=v at*
  have ht:=tz_le (~~~v)
  have kT:=λrows k=>kTz rows k (~~~v)
  generalize tzS (~~~v)=t at*
  have e2:wz ((n:Int)+(t:Int))=((n+t:Nat):Int):=by rw[be (by omega)];omega
  by_cases hlt:t<32
  ·have XZ:((t:Int)<32)=True:=aaz (by omega)
   rw[aaM hlt]at hc
   simp only[↓ag,ah,simprocAttr,aQ,hh,h3,e0,gw,h2,kT,e2,XZ,fin,abj,aaK]
   rw[hc]
   exact .val _ rfl
  ·have XZ:((t:Int)<32)=False:=aaI (by omega)
   rw[aaE hlt]at hc
   simp only[↓ag,ah,simprocAttr,aQ,hh,h3,e0,e1,gw,h2,kT,e2,XZ,abj,aaK]
   exact hR _ _ ⟨by simp only[has,↓ag,ah,simprocAttr,hh],rfl,n+t,by simp only[↓ag,ah,simprocAttr],by omega,by omega⟩
 ·rintro env rows ⟨hh,rfl,n,h3,hn,hc⟩ R
  simp only[has]at hh
  have e0:((8:Int)<8)=False:=aaI (by omega)
  rw[acY (aet hl8),Rs,adm]at hc
  simp only[↓ag,ah,simprocAttr,hh,h3,e0,fin]
  rw[hc]
  exact .val _ rfl
 ·simp only[has,↓ag,ah,simprocAttr];rfl
 ·simp only[↓ag,ah,simprocAttr]
abbrev uD(x:BitVec 32):D:= .raw (u32 x)
theorem ZR(x y:BitVec 32)(h:uD x=uD y):x=y:=by
 injection h with h
 exact Go.Am.A9.1 h
theorem TN(l:List (BitVec 32))(n:Nat):(us l).drop n=us (l.drop n):=by simp[us]
theorem TO(l:List (BitVec 32))(n:Nat):(us l).take n=us (l.take n):=by simp[us]
theorem bF.us{rows:Rows}{r off len:Nat}{ex:Bool}{l:List (BitVec 32)}(hl:live rows r=some ⟨dk,us l⟩)(hn:off+len<=l.length):bF rows (oG dk uD) (.sl dk r [] off len ex) ((l.drop off).take len):=by
 refine⟨⟨.cD dk (iZ.us ((l.drop off).take len)) ex,?_,HN ZR _ ex⟩,λh=>by simp[aT]at h⟩
 have:elems rows (.sl dk r [] off len ex)=some (iZ.us ((l.drop off).take len)):=by
  simp only[elems,hl,TN,TO]
 have hL:((l.drop off).take len).length=len:=by rw[aaF,aaB];omega
 simp only[view]
 rw[this]
 simp only[n9,hL]
 simp[Sh.pure]
theorem Wa(l:List (BitVec 32))(i:Nat)(h:i<l.length):lj (l.take i)++bt l[i]=lj (l.take (i+1)):=by
 rw[aa2 h,lj,lj,acg,ab5]
 simp
noncomputable def fOct:Fn:=mc (oG dk uD) (λl=>decide (l.length<=1000)) λl=>eJ (lj l) false
theorem oct_ok(C:aX)(hC:aJ C P):aP C.aY P 132 (Fn.run fOct):=by
 refine cv (LG C hC) λds rows r h=>?_
 obtain⟨d,l,rfl,rfl,hd,hp,rfl⟩:=aZ h
 obtain⟨e,hx⟩:=yf hd
 simp only[aaA]at hp
 refine⟨rfl,_,.cons hx .nil,ae rfl ?_⟩
 clear h hd hx
 unfold BB BC
 have hl:(l.map uD).length=l.length:=by rw[aaC]
 simp only[↓ag,ah,simprocAttr,hl]
 refine bg l.length (λi env rows=>has env [(8,.raw (it (i:Int))),(7,.raw (it (l.length:Int))),(6,.cD dk (l.map uD) e)]/\∃d,look env 3=some d/\jg L8 d rows (bs (lj (l.take i)))) ?_ ?_ ⟨?_,_,?_,.nil⟩
 ·rintro i hi env rows ⟨hh,d,h3,hO⟩ R hR
  simp only[has]at hh
  have e0:((i:Int)<(l.length:Int))=True:=aaz (by omega)
  have e1:=cj i (by omega)
  have gi:=λrows k=>Mb (s:=dk) (l:=l.map uD) (i:=i) (by omega) e rows k
  rw[ady]at gi
  have hs:=Wa l i hi
  generalize l[i]'hi=w at*
  simp only[↓ag,ah,simprocAttr,aQ,hh,h3,e0,gi]
  refine jG hO.push (by rw[aB,oH,aaF];simp[most];omega) (by rw[aB,oH,aaF];simp[most];omega) λd2 aa H0 pI xE _=>?_
  have hO2:jg L8 d2 aa (bs (lj (l.take (i+1)))):=by rw[<-hs,<-oW];exact H0
  simp only[↓ag,ah,simprocAttr,aQ,hh,e1]
  exact hR _ _ ⟨by simp only[has,↓ag,ah,simprocAttr,hh],d2,by simp only[↓ag,ah,simprocAttr],hO2⟩
 ·rintro env rows ⟨hh,d,h3,hO⟩ R
  simp only[has]at hh
  have e0:((l.length:Int)<(l.length:Int))=False:=aaI (by omega)
  rw[aa6]at hO
  simp only[↓ag,ah,simprocAttr,hh,h3,e0,hO.oz]
  exact hO.Li
 ·simp only[has,↓ag,ah,simprocAttr]
 ·simp only[↓ag,ah,simprocAttr]
theorem kOct{rows:Rows}{d:D}{l:List (BitVec 32)}(h:bF rows (oG dk uD) d l)(hl:l.length<=1000)(k:D->Rows->Prop):aK fOct rows k [d]=k (.sl L8 (0+rows.length) [] 0 (lj l).length false) (rows++[some ⟨L8,bs (lj l)⟩]):=by
 refine(cw h (by simp[hl]) rfl k).trans ?_
 simp[eJ,shift,ab,Sh.pure]
def gR(c:kY):List (BitVec 8):=lj ((c.w.drop 9).take 14)
noncomputable def Kv:Fn:=mc (bE pQ) (λc=>decide (c.ws.length=64)) λc=>eJ (gR c) false
theorem keyc_ok(C:aX)(hC:aJ C P)(h1:C.fn 76=some B7)(h2:C.fn 132=some fOct):aP C.aY P 69 (Fn.run Kv):=by
 refine aH (Hf C hC) λds rows r h=>?_
 obtain⟨d,c,rfl,rfl,hd,hp,rfl⟩:=aZ h
 cases aF hd
 simp only[aaA]at hp
 refine⟨rfl,ae rfl ?_⟩
 clear h hd
 unfold wS wU
 have hm:c.w.length=64:=by rw[aaC,hp]
 have kA:=λrows k=>Ku rows k c hp
 rw[gR]
 have hl:((c.w.drop 9).take 14).length<=1000:=by rw[aaF];omega
 have kO:=λex k=>kOct (bF.us (rows:=[some ⟨dk,us c.w⟩]) (r:=0) (off:=9) (len:=14) (ex:=ex) (l:=c.w) rfl (by omega)) hl k
 have nb:GW (pQ c) (.raw (.pointer none))=some false:=rfl
 simp only[↓ag,ah,simprocAttr,aQ,h1,h2,kA,kO,nb]
 exact .own _ _ 0 _ _ _ _ rfl rfl (λh=>by cases h)
theorem kKeyC{rows:Rows}{d:D}{c:kY}(h:bF rows (bE pQ) d c)(hc:c.ws.length=64)(k:D->Rows->Prop):aK Kv rows k [d]=k (.sl L8 (0+rows.length) [] 0 56 false) (rows++[some ⟨L8,bs (gR c)⟩]):=by
 refine(cw h (by simp[hc]) rfl k).trans ?_
 have:(gR c).length=56:=by rw[gR,oH,aaF,aaB,aaC,hc];rfl
 simp[eJ,shift,ab,Sh.pure,this]
theorem ZS{rows:Rows}{d:D}{c:kY}(h:bF rows (bE pQ) d c)(hc:c.ws.length=64)(k:D->Rows->Prop):aK H4 rows k [d]=k (.raw (it (dF c:Int))) rows:=by
 refine(cw h (by simp[hc]) rfl k).trans ?_
 simp[shift,ab]
theorem kCtr{rows:Rows}{d:D}{c:kY}(h:bF rows (bE pQ) d c)(hc:c.ws.length=64)(k:D->Rows->Prop):aK OG rows k [d]=k (.raw (it (gy c:Int))) rows:=by
 refine(cw h (by simp[hc]) rfl k).trans ?_
 simp[shift,ab]
theorem bF.pQ{rows:Rows}(c:kY):bF rows (bE iZ.pQ) (iZ.pQ c) c:=⟨⟨_,rfl,bA B4 c⟩,λ_=>bA B4 c⟩
def TP:Fn:=mc dq (λp=>decide (p.length<=1000)) λp=>Ma (words (p.length/4) p)
theorem numb_ok(C:aX)(hC:aJ C P):aP C.aY P 106 (Fn.run TP):=by
 refine cv (LC C hC) λds rows r h=>?_
 obtain⟨d,p,rfl,rfl,hd,hp,rfl⟩:=aZ h
 obtain⟨e0,hx⟩:=cy hd
 simp only[aaA]at hp
 refine⟨rfl,_,.cons hx .nil,ae rfl ?_⟩
 clear h hd hx
 unfold Br Bs
 simp only[↓ag,ah,simprocAttr]
 refine bg (p.length/4) (λi env rows=>(∃e,look env 0=some (.cD L8 (bs (p.drop (4*i))) e))/\∃d,look env 3=some d/\jg dk d rows (us (words i p))) ?_ ?_ ⟨⟨e0,?_⟩,_,?_,.nil⟩
 ·rintro i hi env rows ⟨⟨e,h0⟩,d,h3,hO⟩ R hR
  have hw:=As i p
  have hq:4<=(p.drop (4*i)).length:=by rw[aaB];omega
  have hdd:p.drop (4*(i+1))=(p.drop (4*i)).drop 4:=by rw[aby];rfl
  have hb:(p.drop (4*i)).length<=1000:=by rw[aaB];omega
  rw[pL _ 4 (aaL _)]at hw
  simp only[hdd]at hR
  clear hdd
  generalize p.drop (4*i)=q at*
  have e0:((4:Int)<=((q.length:Nat):Int))=True:=aaz (by omega)
  have gi:∀j:Nat,j<4->(bs q)[j]?=some (.raw (u8 (q.getD j 0#8))):=λj hj=>nX (by omega)
  have g0:=gi 0 (by decide)
  have g1:=gi 1 (by decide)
  have g2:=gi 2 (by decide)
  have g3:=gi 3 (by decide)
  have l0:((0:Int)<((q.length:Nat):Int))=True:=aaz (by omega)
  have l1:((1:Int)<((q.length:Nat):Int))=True:=aaz (by omega)
  have l2:((2:Int)<((q.length:Nat):Int))=True:=aaz (by omega)
  have l3:((3:Int)<((q.length:Nat):Int))=True:=aaz (by omega)
  have hT:(bs (q.drop 4)).take (q.length-4)=bs (q.drop 4):=aay (by rw[aB,aaB];omega)
  simp only[↓ag,ah,simprocAttr,aQ,h0,h3,aB,e0,g0,g1,g2,g3,l0,l1,l2,l3]
  refine jG hO.push (by rw[n9,fA];simp[most];omega) (by rw[n9,fA];simp[most];omega) λd2 aa H0 pI xE _=>?_
  have hO2:jg dk d2 aa (us (words (i+1) p)):=by
   rw[hw,<-Q8];exact H0
  simp only[↓ag,ah,simprocAttr,aQ,h0,aB,fH,hT,e0,aaK]
  exact hR _ _ ⟨⟨_,rfl⟩,d2,by simp only[↓ag,ah,simprocAttr],hO2⟩
 ·rintro env rows ⟨⟨e,h0⟩,d,h3,hO⟩ R
  have e0:((4:Int)<=(((p.drop (4*(p.length/4))).length:Nat):Int))=False:=aaI (by rw[aaB];omega)
  simp only[↓ag,ah,simprocAttr,h0,h3,aB,e0,hO.oz]
  have:=jg.TE hO rfl
  rw[n9,fA]at this
  rw[Ma,fA]
  exact this
 ·simp only[↓ag,ah,simprocAttr]
 ·simp only[↓ag,ah,simprocAttr]
theorem kNumb(rows:Rows)(k:D->Rows->Prop)(d:D)(p:List (BitVec 8))(h:bd rows d p)(hp:p.length<=1000):aK TP rows k [d]=k (.sl dk (0+rows.length) [] 0 (p.length/4) false) (rows++[some ⟨dk,us (words (p.length/4) p)⟩]):=by
 refine(cw (.bs h) (by simp[hp]) rfl k).trans ?_
 simp[Ma,shift,ab,Sh.pure,fA]
theorem bF.usA{rows:Rows}{r n i:Nat}{q:List Nat}{ex:Bool}{row:Row}{l:List (BitVec 32)}(h:live rows r=some row)(hg:cF row.els (i::q)=some (.agg (.ar n dk) (iZ.us l)))(hl:l.length=n):bF rows (oG dk uD) (.sl dk r (i::q) 0 n ex) l:=by
 refine⟨⟨.cD dk (iZ.us l) ex,?_,HN ZR _ ex⟩,λh=>by simp[aT]at h⟩
 have:elems rows (.sl dk r (i::q) 0 n ex)=some (iZ.us l):=by
  simp only[elems,h,hg]
  simp[aay,n9,hl]
 simp only[view]
 rw[this]
 simp only[n9,hl]
 simp[Sh.pure]
abbrev Jo:Sh:= .cons LI (.cons dk .nil)
abbrev Wr:=Nat×BitVec 32
def wrD(p:Wr):D:= .agg Jo [.raw (it (p.1:Int)),.raw (u32 p.2)]
def OH(W:List (BitVec 32))(f:Nat)(l:List (BitVec 32))(i:Nat):List Wr:=
 if W.getD (f+i) 0#32|||l.getD i 0#32=W.getD (f+i) 0#32 then[]else[(f+i,W.getD (f+i) 0#32|||l.getD i 0#32)]
def qJ(W:List (BitVec 32))(f:Nat)(l:List (BitVec 32)):Nat->List Wr
 |0=>[]
 |n+1=>qJ W f l n++OH W f l n
def jy(W:List (BitVec 32))(f:Nat)(l:List (BitVec 32)):List Wr:=qJ W f l l.length
theorem tN(W:List (BitVec 32))(f:Nat)(l:List (BitVec 32)):∀n,(qJ W f l n).length<=n
 |0=>aaL _
 |n+1=>by
  have:=tN W f l n
  rw[qJ,aax,OH]
  split<;>simp<;>omega
def OI(l:List Wr):D×Rows:=(.sl Jo 0 [] 0 l.length false,[some ⟨Jo,l.map wrD⟩])
noncomputable def Kw:Fn:=I0 (bE pQ) s6 (oG dk uD) (λc f l=>decide (c.ws.length=64)&&decide (0<=f)&&decide (f+l.length<=64)) λc f l=>OI (jy c.w f.toNat l)
theorem plan_ok(C:aX)(hC:aJ C P)(h1:C.fn 76=some B7):aP C.aY P 107 (Fn.run Kw):=by
 refine cv (Fo C hC) λds rows r h=>?_
 obtain⟨d0,d1,d2,c,f0,l,rfl,rfl,hd,he,hf,hp,rfl⟩:=fS h
 cases aF hd
 cases bK he
 obtain⟨e,hx⟩:=yf hf
 simp only[aav,aaA]at hp
 obtain⟨⟨hc,hf0⟩,hl⟩:=hp
 obtain⟨f,rfl⟩:=aaO hf0
 refine⟨rfl,_,.cons (.refl _) (.cons (.refl _) (.cons hx .nil)),ae rfl ?_⟩
 clear h hd he hf hx
 unfold vn vo
 have hm:c.w.length=64:=by rw[aaC,hc]
 have kA:=λrows k=>Ku rows k c hc
 have hle:(l.map uD).length=l.length:=aaC ..
 rw[jy,aaK]
 have g0:=λi (hi:f+i<64)=>lh (l:=c.w) (i:=f+i) (by omega)
 simp only[↓ag,ah,simprocAttr,hle]
 refine bg l.length (λi env rows=>has env [(13,.raw (it (i:Int))),(12,.raw (it (l.length:Int))),(11,.cD dk (l.map uD) e),(1,.raw (it (f:Int))),(0,pQ c)]/\∃d,look env 7=some d/\jg Jo d rows ((qJ c.w f l i).map wrD)) ?_ ?_ ⟨?_,_,?_,.nil⟩
 ·rintro i hi env rows ⟨hh,d,h7,hO⟩ R hR
  simp only[has]at hh
  have e0:((i:Int)<(l.length:Int))=True:=aaz (by omega)
  have e1:=cj i (by omega)
  have e2:wz ((f:Int)+(i:Int))=((f+i:Nat):Int):=by rw[be (by omega)];omega
  have e3:(((f+i:Nat):Int)<64)=True:=aaz (by omega)
  have gi:=λrows k=>Mb (s:=dk) (l:=l.map uD) (i:=i) (by omega) e rows k
  have gx:(l.map uD)[i]'(by omega)= .raw (u32 (l.getD i 0#32)):=by simp[List.getD,hi]
  rw[gx]at gi
  have g1:=g0 i (by omega)
  have pJ:=tN c.w f l i
  have hps:qJ c.w f l (i+1)=qJ c.w f l i++OH c.w f l i:=rfl
  rw[OH]at hps
  generalize l.getD i 0#32=v at*
  generalize c.w.getD (f+i) 0#32=o at*
  by_cases hv:o|||v=o
  ·have lZ:(o|||v=o)=True:=aaz hv
   rw[aaM hv,aa4]at hps
   simp only[↓ag,ah,simprocAttr,aQ,hh,h7,e0,e1,e2,e3,gi,h1,kA,g1,lZ,abj,aaK,aaG]
   exact hR _ _ ⟨by simp only[has,↓ag,ah,simprocAttr,hh],d,by simp only[↓ag,ah,simprocAttr,h7],by rw[hps];exact hO.push⟩
  ·have lZ:(o|||v=o)=False:=aaI hv
   rw[aaE hv]at hps
   simp only[↓ag,ah,simprocAttr,aQ,hh,h7,e0,e1,e2,e3,gi,h1,kA,g1,lZ,abj,aaK,aaH]
   refine jG hO.push (by rw[aaC];simp[most];omega) (by rw[aaC];simp[most];omega) λd2 aa H0 pI xE _=>?_
   simp only[↓ag,ah,simprocAttr,aQ,hh,e1]
   exact hR _ _ ⟨by simp only[has,↓ag,ah,simprocAttr,hh],d2,by simp only[↓ag,ah,simprocAttr],by rw[hps,acg];exact H0⟩
 ·rintro env rows ⟨hh,d,h7,hO⟩ R
  simp only[has]at hh
  have e0:((l.length:Int)<(l.length:Int))=False:=aaI (by omega)
  simp only[↓ag,ah,simprocAttr,hh,h7,e0,hO.oz]
  have:=jg.TE hO rfl
  rw[aaC]at this
  exact this
 ·simp only[has,↓ag,ah,simprocAttr]
 ·simp only[↓ag,ah,simprocAttr]
theorem ZT{rows:Rows}{d:D}(c:kY)(f:Nat)(fi:Int)(hf:fi=(f:Int)){l:List (BitVec 32)}(h:bF rows (oG dk uD) d l)(hc:c.ws.length=64)(hl:f+l.length<=64)(k:D->Rows->Prop):
  aK Kw rows k [pQ c,.raw (it fi),d]=k (.sl Jo (0+rows.length) [] 0 (jy c.w f l).length false) (rows++[some ⟨Jo,(jy c.w f l).map wrD⟩]):=by
 subst hf
 refine(gI (.pQ c) (.int _) h (by simp[hc];omega) rfl k).trans ?_
 simp[OI,shift,ab,Sh.pure]
noncomputable def FX:Fn:=ux (bE pQ) s6 (λc n=>decide (c.ws.length=64)&&decide (1<=n)&&decide (n<=4)&&decide ((dF c:Int)<n)) λc n=>
 (.cB [.sl Jo 0 [] 0 (jy c.w 0 [255#32<<<(8*(n.toNat-1))]).length false,.raw (it 0)],(OI (jy c.w 0 [255#32<<<(8*(n.toNat-1))])).2)
theorem Wb(C:aX)(hC:aJ C P)(h1:C.fn 71=some H4)(h2:C.fn 107=some Kw):aP C.aY P 49 (Fn.run FX):=by
 refine aH (Bi C hC) λds rows r h=>?_
 obtain⟨d,e,c,n,rfl,rfl,hd,he,hp,rfl⟩:=dE h
 cases aF hd
 cases bK he
 simp only[aav,aaA]at hp
 obtain⟨⟨⟨hc,hn1⟩,Rt⟩,hl⟩:=hp
 obtain⟨m,rfl⟩:∃m:Nat,n=((m+1:Nat):Int):=⟨n.toNat-1,by omega⟩
 refine⟨rfl,ae rfl ?_⟩
 clear h hd he
 unfold rE rF
 have nb:GW (pQ c) (.raw (.pointer none))=some false:=rfl
 have kL:=λrows k=>ZS (.pQ (rows:=rows) c) hc k
 have e1:(((m+1:Nat):Int)<1)=False:=aaI (by omega)
 have e2:((4:Int)<((m+1:Nat):Int))=False:=aaI (by omega)
 have e3:(((m+1:Nat):Int)<=(dF c:Int))=False:=aaI (by omega)
 have e4:wz (((m+1:Nat):Int)-1)=(m:Int):=by rw[be (by omega)];omega
 have e5:wz (8*(m:Int))=((8*m:Nat):Int):=by rw[be (by omega)];omega
 have kP:=λk=>ZT (rows:=[some ⟨dk,us [255#32<<<(8*m)]⟩]) (d:= .sl dk 0 [] 0 1 true) c 0 0 rfl (l:=[255#32<<<(8*m)]) (bF.us (l:=[255#32<<<(8*m)]) rfl (by simp)) hc (by simp) k
 simp only[us,abw,adO]at kP
 simp only[aaK,Nat.add_sub_cancel]
 simp only[↓ag,ah,simprocAttr,aQ,nb,h1,h2,kL,e1,e2,e3,e4,e5,kP,abj,aaK]
 exact .I6 _ _ _ _ _ _ _ _ rfl rfl rfl (λh=>by cases h)
theorem kToLife{rows:Rows}{d:D}{c:kY}(h:bF rows (bE pQ) d c)(hc:c.ws.length=64)(m:Nat)(hm:m<4)(hl:dF c<=m)(k:D->Rows->Prop):
  aK FX rows k [d,.raw (it ((m+1:Nat):Int))]=k (.cB [.sl Jo (0+rows.length) [] 0 (jy c.w 0 [255#32<<<(8*m)]).length false,.raw (it 0)]) (rows++[some ⟨Jo,(jy c.w 0 [255#32<<<(8*m)]).map wrD⟩]):=by
 refine(kn h (.int _) (by simp[hc];omega) rfl k).trans ?_
 simp[OI,shift,bu,ab,Sh.pure]
def rj(n:Nat):List (BitVec 32):=(List.range 8).map λj=>BitVec.ofNat 32 (2^(min (n-32*j) 32)-1)
noncomputable def Mc:Fn:=ux (bE pQ) s6 (λc n=>decide (c.ws.length=64)&&decide (0<=n)&&decide (n<=255)&&decide ((gy c:Int)<=n)) λc n=>
 (.cB [.sl Jo 0 [] 0 (jy c.w 1 (rj n.toNat)).length false,.raw (it 0)],(OI (jy c.w 1 (rj n.toNat))).2)
theorem ja(n:Nat):(rj n).length=8:=by simp[rj]
theorem Wc:∀n,n<256->(rj n).set (n/32) ((rj n).getD (n/32) 0#32|||1#32<<<(n %32))=rj (n+1):=by decide
theorem ZU(C:aX)(hC:aJ C P)(h1:C.fn 26=some OG)(h2:C.fn 107=some Kw):aP C.aY P 48 (Fn.run Mc):=by
 refine aH (wO C hC) λds rows r h=>?_
 obtain⟨d,e,c,n,rfl,rfl,hd,he,hp,rfl⟩:=dE h
 cases aF hd
 cases bK he
 simp only[aav,aaA]at hp
 obtain⟨⟨⟨hc,hn1⟩,Rt⟩,hl⟩:=hp
 obtain⟨m,rfl⟩:=aaO hn1
 refine⟨rfl,ae rfl ?_⟩
 clear h hd he
 unfold oC oD
 have nb:GW (pQ c) (.raw (.pointer none))=some false:=rfl
 have kL:=λrows k=>kCtr (.pQ (rows:=rows) c) hc k
 have e1:((m:Int)<0)=False:=aaI (by omega)
 have e2:((255:Int)<(m:Int))=False:=aaI (by omega)
 have e3:((m:Int)<(gy c:Int))=False:=aaI (by omega)
 have hz:List.replicate 8 (D.raw (u32 0#32))=us (rj 0):=rfl
 rw[aaK]
 simp only[hz]
 simp only[↓ag,ah,simprocAttr,aQ,nb,h1,kL,e1,e2,e3]
 refine bg m (λi env rows=>has env [(24,.raw (it (i:Int))),(23,.raw (it (m:Int))),(6,.ptr (.ar 8 dk) 0 [0]),(0,pQ c)]/\rows=[some ⟨.ar 8 dk,[.agg (.ar 8 dk) (us (rj i))]⟩]) ?_ ?_ ⟨?_,rfl⟩
 ·rintro i hi env rows ⟨hh,rfl⟩ R hR
  simp only[has]at hh
  have e0:((i:Int)<(m:Int))=True:=aaz (by omega)
  have e1:=cj i (by omega)
  have e2:wz (Int.tdiv (i:Int) 32)=((i/32:Nat):Int):=tdivN i 32 (by omega)
  have e3:Int.tmod (i:Int) 32=((i %32:Nat):Int):=rfl
  have e4:(((i/32:Nat):Int)<8)=True:=aaz (by omega)
  have g:=lh (l:=rj i) (i:=i/32) (by rw[ja];omega)
  have hs:=Wc i (by omega)
  simp only[↓ag,ah,simprocAttr,aQ,hh,e0,e1,e2,e3,e4,g,LO,hs,abj,aaK]
  exact hR _ _ ⟨by simp only[has,↓ag,ah,simprocAttr,hh],rfl⟩
 ·rintro env rows ⟨hh,rfl⟩ R
  simp only[has]at hh
  have e0:((m:Int)<(m:Int))=False:=aaI (by omega)
  have kP:=λex k=>ZT (rows:=[some ⟨.ar 8 dk,[.agg (.ar 8 dk) (us (rj m))]⟩]) (d:= .sl dk 0 [0] 0 8 ex) c 1 1 rfl (l:=rj m) (bF.usA (n:=8) rfl rfl (ja m)) hc (by rw[ja];decide) k
  simp only[↓ag,ah,simprocAttr,aQ,hh,e0,h2,kP]
  exact .I6 _ _ _ _ _ _ _ _ rfl rfl rfl (λh=>by cases h)
 ·simp only[has,↓ag,ah,simprocAttr]
theorem kToCtr{rows:Rows}{d:D}{c:kY}(h:bF rows (bE pQ) d c)(hc:c.ws.length=64)(m:Nat)(hm:m<=255)(hl:gy c<=m)(k:D->Rows->Prop):
  aK Mc rows k [d,.raw (it (m:Int))]=k (.cB [.sl Jo (0+rows.length) [] 0 (jy c.w 1 (rj m)).length false,.raw (it 0)]) (rows++[some ⟨Jo,(jy c.w 1 (rj m)).map wrD⟩]):=by
 refine(kn h (.int _) (by simp[hc];omega) rfl k).trans ?_
 simp[OI,shift,bu,ab,Sh.pure]
def idL:List (BitVec 8):=2#8::List.replicate 15 0#8
noncomputable def Md:Fn:=I0 (bE pQ) dq (bE zv) (λc p n=>decide (c.ws.length=64)&&decide (p.length=56)&&decide (n.length=16)&&decide (dF c=0)&&(c.w.drop 9).all λw=>decide (w=0#32)) λc p n=>
 (.cB [.sl Jo 0 [] 0 (jy c.w 9 (words 14 p++words 4 n)).length false,.raw (it 0)],(OI (jy c.w 9 (words 14 p++words 4 n))).2)
theorem ZV(C:aX)(hC:aJ C P)(h0:C.fn 76=some B7)(h1:C.fn 71=some H4)(h2:C.fn 107=some Kw)(h3:C.fn 106=some TP):aP C.aY P 46 (Fn.run Md):=by
 refine cv (Dq C hC) λds rows r h=>?_
 obtain⟨d0,d1,d2,c,p,n,rfl,rfl,hd,he,hf,hp,rfl⟩:=fS h
 cases aF hd
 cases aF hf
 obtain⟨e,hx⟩:=cy he
 simp only[aav,aaA]at hp
 obtain⟨⟨⟨⟨hc,hp56⟩,hn⟩,hl⟩,hz⟩:=hp
 refine⟨rfl,_,.cons (.refl _) (.cons hx (.cons (.refl _) .nil)),ae rfl ?_⟩
 clear h hd he hf hx
 unfold tw tx
 have nb:GW (pQ c) (.raw (.pointer none))=some false:=rfl
 have hm:c.w.length=64:=by rw[aaC,hc]
 have kA:=λrows k=>Ku rows k c hc
 have kL:=λrows k=>ZS (.pQ (rows:=rows) c) hc k
 rw[hl]at kL
 have w14:=fA 14 p
 have w4:=fA 4 n
 have kN1:=λrows k=>kNumb rows k (.cD L8 (bs p) e) p (eB.to (.inr ⟨e,rfl⟩)) (by omega)
 have kN2:=λex k=>kNumb [some ⟨.ar 16 L8,[.agg (.ar 16 L8) (bs n)]⟩,some ⟨dk,us (words 14 p)⟩] k (.sl L8 0 [0] 0 16 ex) n (bd.tJ (n:=16) rfl rfl hn) (by omega)
 rw[hp56]at kN1
 rw[hn]at kN2
 have hsr:(us (words 4 n)).take 4=us (words 4 n):=aay (by rw[n9,w4];exact aaL _)
 have hu4:(us (words 4 n)).length=4:=by rw[n9,w4]
 have hu14:(us (words 14 p)).take 14=us (words 14 p):=aay (by rw[n9,w14];exact aaL _)
 have hv14:(us (words 14 p)).length=14:=by rw[n9,w14]
 have hwl:(words 14 p++words 4 n).length=18:=by rw[aax,w14,w4]
 have hW:∀i,i<18->(us c.w)[9+i]?=some (.raw (u32 0#32)):=λi hi=>by
  have h2:(c.w.drop 9)[i]'(by rw[aaB];omega)=0#32:=ac9 (abc.1 hz _ (abQ _))
  rw[lh (by omega),aaD,aaw (by omega)]
  rw[List.getElem_drop]at h2
  simp[h2]
 simp only[zv,↓ag,ah,simprocAttr,aQ,nb,h1,kL,hp56,aB,h3,kN1,kN2,hsr,hu4,hu14,hv14]
 rw[Q8]
 generalize words 14 p++words 4 n=l at*
 refine bg 18 (λi env rows=>has env [(29,.raw (it (i:Int))),(28,.raw (it 18)),(27,.sl dk 3 [] 0 18 false),(8,.sl dk 3 [] 0 18 false),(0,pQ c)]/\live rows 3=some ⟨dk,us l⟩) ?_ ?_ ⟨?_,rfl⟩
 ·rintro i hi env rows ⟨hh,hq⟩ R hR
  simp only[has]at hh
  have e0:((i:Int)<18)=True:=aaz (by omega)
  have e1:=cj i (by omega)
  have e2:wz (9+(i:Int))=((9+i:Nat):Int):=by rw[be (by omega)];omega
  have e3:(((9+i:Nat):Int)<64)=True:=aaz (by omega)
  have g:=lh (l:=l) (i:=i) (by omega)
  have g2:=hW i hi
  have z:∀v:BitVec 32,0#32&&&~~~v=0#32:=λv=>BitVec.zero_and
  simp only[↓ag,ah,simprocAttr,aQ,hh,hq,e0,e1,e2,e3,g,g2,z,h0,kA,abj,aaK]
  exact hR _ _ ⟨by simp only[has,↓ag,ah,simprocAttr,hh],aj hq _⟩
 ·rintro env rows ⟨hh,hq⟩ R
  simp only[has]at hh
  have e0:((18:Int)<18)=False:=aaI (by omega)
  have hr:=bF.us (rows:=rows) (r:=3) (off:=0) (len:=18) (ex:=false) hq (by omega)
  rw[abu,aay (by omega)]at hr
  have kP:=λk=>ZT c 9 9 rfl hr hc (by omega) k
  simp only[↓ag,ah,simprocAttr,aQ,hh,e0,h2,kP]
  exact .I6 _ _ _ _ _ _ _ _ (by rw[bx];rfl) rfl rfl (λh=>by cases h)
 ·simp only[has,↓ag,ah,simprocAttr]
theorem kToKey{rows:Rows}{d e:D}{c:kY}{p:List (BitVec 8)}(h:bF rows (bE pQ) d c)(hc:c.ws.length=64)(hb:bd rows e p)(hp:p.length=56)(hl:dF c=0)(hz:∀w∈c.w.drop 9,w=0#32)(k:D->Rows->Prop):
  aK Md rows k [d,e,.agg (.ar 16 L8) (bs idL)]=k (.cB [.sl Jo (0+rows.length) [] 0 (jy c.w 9 (words 14 p++words 4 idL)).length false,.raw (it 0)]) (rows++[some ⟨Jo,(jy c.w 9 (words 14 p++words 4 idL)).map wrD⟩]):=by
 refine(gI h (.bs hb) (FU idL) (by simp[hc,hp,hl,idL];simpa using hz) rfl k).trans ?_
 simp[OI,shift,bu,ab,Sh.pure]
end iZ
end Go.Am

namespace Go.Am
attribute [local congr] cN bP cO bQ bT ca bC bU bV cb bk cd bW cM
namespace iZ
open Go.Am.F
def zA(t:Nat)(s:Site)(c msg:List (BitVec 8)):List Nat:=fK t (j4 s.id s.q c msg)
theorem Me(t:Nat)(s:Site)(c msg:List (BitVec 8)):(zA t s c msg).length=pT t:=by simp[zA,fK,xD]
theorem Mf{t:Nat}(h:tM t=true)(d:List (BitVec 8))(i:Nat):(fK t d).getD i 0<=2^wT t-1:=by
 by_cases c:i<(fK t d).length
 ·have hc:=c
  simp only[fK,xD,aaC,abV]at hc
  simp only[fK,xD,List.getD,abl,acW hc,acf,adj]
  exact OE _ _ _ (lN h).1
 ·rw[List.getD,abk (by omega)];exact acv _
def j5(t:Nat)(s:Site)(aI c msg:List (BitVec 8))(n:Nat):List (List (BitVec 8)):=(List.range n).map λi=>HX s.id s.q i ((zA t s c msg).getD i 0) 0 (BW s.id s.q i aI)
theorem DP(t:Nat)(s:Site)(aI c msg:List (BitVec 8))(n:Nat):∀x∈j5 t s aI c msg n,x.length=32:=by
 intro x hx
 obtain⟨i,-,rfl⟩:=ac6.1 hx
 exact yh _ _ _ _ _ _ (pN _ _ _ _ _)
def mo(t:BitVec 32)(s:Site)(aI c msg:List (BitVec 8)):List (BitVec 8):=bt t++c++(j5 t.toNat s aI c msg (pT t.toNat)).flatten
theorem tO(t:BitVec 32)(s:Site)(aI c msg:List (BitVec 8))(hc:c.length=32):(mo t s aI c msg).length=36+32*pT t.toNat:=by
 rw[mo,aax,aax,tI (DP _ _ _ _ _ _),hc,j5,aaC,abV];rfl
noncomputable def TQ:Fn:=gn5 qc (bE fg) (bE aU) (bE aU) dq (λ_ s x c _=>decide (s.id.length=16)&&decide (x.length=32)&&decide (c.length=32)) λt s x c m=>bif tM t.toNat then(.cB [.sl L8 0 [] 0 (36+32*pT t.toNat) false,.raw (it 0)],[some ⟨L8,bs (mo t s x c m)⟩])else(.cB [.raw (.slice none 0 0),.raw (it 6)],[])
theorem sign_ok(C:aX)(hC:aJ C P)(h1:C.fn 37=some ko)(h2:C.fn 167=some zy)(h3:C.fn 100=some BX)(h4:C.fn 98=some Av)(h5:C.fn 111=some HY)(h6:C.fn 110=some uK):aP C.aY P 112 (Fn.run TQ):=by
 refine aH (QV C hC) λds rows r h=>?_
 obtain⟨d0,d1,d2,d3,d4,t,s,aI,c,msg,rfl,rfl,g0,g1,g2,g3,g4,hp,rfl⟩:=Ox h
 cases eh g0
 cases aF g1
 cases aF g2
 cases aF g3
 have gm:=fx g4
 simp only[aav,aaA]at hp
 obtain⟨⟨iD,sJ⟩,jF⟩:=hp
 clear h g0 g1 g2 g3 g4
 have hz:D.agg qI [.raw (it 0),.raw (it 0),.raw (it 0)]=jx ⟨0,0,0⟩:=rfl
 have kP:=λrows k=>oh rows k t
 cases hk:tM t.toNat
 ·rw[hk]at kP
  refine⟨rfl,ae rfl ?_⟩
  unfold Ae Af
  simp only[hz,eG]
  simp only[↓ag,ah,simprocAttr,aQ,aU,h1,kP,cY,dM,abC,aaR]
  exact .val _ rfl
 ·have hpt:pT t.toNat<=265:=(lN hk).2.2.1
  have hpw:2^wT t.toNat<=256:=Rn (lN hk).1
  have hsg:mo t s aI c msg=bt t++c++(j5 t.toNat s aI c msg (pT t.toNat)).flatten:=rfl
  have AI:=Mf hk (j4 s.id s.q c msg)
  have qZ:=Me t.toNat s c msg
  have hml:(j4 s.id s.q c msg).length=32:=du _
  have kD:=λrows k=>L9 rows k t (j4 s.id s.q c msg) hml hk
  have Np:∀i,(j5 t.toNat s aI c msg i).flatten++HX s.id s.q i ((zA t.toNat s c msg).getD i 0-0) 0 (BW s.id s.q i aI)=(j5 t.toNat s aI c msg (i+1)).flatten:=λi=>by simp[j5,abM]
  have my:∀i,(bt t++c++(j5 t.toNat s aI c msg i).flatten).length=36+32*i:=λi=>by
   rw[aax,aax,tI (DP _ _ _ _ _ _),jF,j5,aaC,abV];rfl
  rw[hk]at kP
  refine⟨rfl,ae rfl ?_⟩
  unfold Ae Af
  simp only[hz,eG]
  simp only[↓ag,ah,simprocAttr,aQ,aU,h1,kP,cY,dM,h2,Oz,abn,aaY]
  rw[pM (n:=32) rfl rfl jF]
  have tk:List.take 4 (bs (bt t))=bs (bt t):=rfl
  refine⟨by rw[aB];exact jF,rfl,by rw[aB];omega,by rw[aB];omega,?_⟩
  rw[tk,oW,aB,jF]
  simp only[↓ag,ah,simprocAttr,aQ,h5]
  refine Eq.mpr (ZJ _ _ s c msg d4 (gm.to) iD jF) ?_
  simp only[↓ag,ah,simprocAttr,aQ,h6,kD]
  have hf0:bt t++c++(j5 t.toNat s aI c msg 0).flatten=bt t++c:=by simp[j5]
  refine bg (pT t.toNat) (λi env rows=>has env [(36,.raw (it (i:Int))),(35,.raw (it (pT t.toNat:Int))),(34,.sl LI 6 [] 0 (pT t.toNat) false),(7,.ptr (.ar 32 L8) 1 [0]),(6,.ptr vG 0 [0])]/\
   live rows 0=some ⟨vG,[fg s]⟩/\live rows 1=some ⟨.ar 32 L8,[.agg (.ar 32 L8) (bs aI)]⟩/\live rows 6=some ⟨LI,(fK t.toNat (j4 s.id s.q c msg)).map vW⟩/\
   ∃d',look env 14=some d'/\jg L8 d' rows (bs (bt t++c++(j5 t.toNat s aI c msg i).flatten))) ?_ ?_ ⟨?_,rfl,rfl,rfl,.sl L8 5 [] 0 36 false,?_,.inr ⟨5,false,by rw[aB,my 0],by rw[hf0];rfl⟩⟩
  ·rintro i hi env rows ⟨hh,r0,r1,r6,d',h14,hO⟩ R hR
   simp only[has]at hh
   have e0:((i:Int)<(pT t.toNat:Int))=True:=aaz (by omega)
   have e1:=cj i (by omega)
   have b0:∀n:Nat,((0:Int)<=(n:Int))=True:=λn=>aaz (by omega)
   have hai:=AI i
   have gi:((fK t.toNat (j4 s.id s.q c msg)).map vW)[i]?=some (.raw (it ((zA t.toNat s c msg).getD i 0:Int))):=by
    have hl:i<(fK t.toNat (j4 s.id s.q c msg)).length:=by rw[show(fK t.toNat (j4 s.id s.q c msg)).length=pT t.toNat from qZ];exact hi
    simp[vW,zA,List.getD,hl]
   have hai:(zA t.toNat s c msg).getD i 0<=255:=by have:(zA t.toNat s c msg).getD i 0<=2^wT t.toNat-1:=hai;omega
   have hs:=Np i
   generalize (zA t.toNat s c msg).getD i 0=ai at*
   have kS:=λrows k=>TC rows k s i aI iD (by omega) sJ
   have kC:=λrows k=>Rm rows k s i 0 ai (BW s.id s.q i aI) iD (by omega) (by decide) (by omega) (pN _ _ _ _ _)
   have hx:=yh s.id s.q i (ai-0) 0 (BW s.id s.q i aI) (pN _ _ _ _ _)
   rw[show((0:Nat):Int)=0 from rfl]at kC
   generalize HX s.id s.q i (ai-0) 0 (BW s.id s.q i aI)=xi at*
   have ea:∀ex,elems (rows++[some ⟨.ar 32 L8,[.agg (.ar 32 L8) (bs xi)]⟩]) (.sl L8 rows.length [0] 0 32 ex)=some (bs xi):=λex=>pM (n:=32) (by rw[bx];rfl) rfl hx
   simp only[↓ag,ah,simprocAttr,aQ,hh,e0,e1,b0,h14,dM,r0,r1,r6,gi,h3,kS,h4,kC,ea,aB,hx]
   refine jG hO.push (by rw[aB,aB,hx,my];simp[most];omega) (by rw[aB,aB,hx,my];simp[most];omega) λd2 aa H0 pI xE _=>?_
   rw[oW,aaP _ _ xi,hs]at H0
   have r0':=pI 0 _ (aj r0 _) (λex=>gQ hO r0 (by decide) ex _)
   have r1':=pI 1 _ (aj r1 _) (λex=>gQ hO r1 (by decide) ex _)
   have r6':=pI 6 _ (aj r6 _) (λex=>gQ hO r6 (by decide) ex _)
   simp only[↓ag,ah,simprocAttr,aQ,hh,e1]
   exact hR _ _ ⟨by simp only[has,↓ag,ah,simprocAttr,hh],r0',r1',r6',d2,by simp only[↓ag,ah,simprocAttr],H0⟩
  ·rintro env rows ⟨hh,r0,r1,r6,d',h14,hO⟩ R
   simp only[has]at hh
   have e0:((pT t.toNat:Int)<(pT t.toNat:Int))=False:=aaI (by omega)
   rw[<-hsg]at hO
   simp only[↓ag,ah,simprocAttr,aQ,hh,e0,h14,hO.oz]
   have hl:=tO t s aI c msg jF
   rcases hO with⟨h,_⟩|⟨r,ex,rfl,hlv⟩
   ·have:=abt List.length h;rw[aB,hl]at this;simp at this
   ·rw[aB,hl]
    exact .I6 L8 r 0 _ ex false _ _ hlv rfl rfl (λh=>by cases h)
  ·simp only[has,↓ag,ah,simprocAttr]
  ·simp only[↓ag,ah,simprocAttr]
theorem kSign(rows:Rows)(k:D->Rows->Prop)(t:BitVec 32)(s:Site)(x c m:List (BitVec 8))(d:D)(hd:bd rows d m)(iD:s.id.length=16)(hx:x.length=32)(hc:c.length=32)(ht:tM t.toNat=true):
  aK TQ rows k [.raw (u32 t),fg s,.agg (.ar 32 L8) (bs x),.agg (.ar 32 L8) (bs c),d]=k (.cB [.sl L8 (0+rows.length) [] 0 (36+32*pT t.toNat) false,.raw (it 0)]) (rows++[some ⟨L8,bs (mo t s x c m)⟩]):=by
 refine(Oy (bF.raw (gA t)) (kq s rows) (ju x) (ju c) (.bs hd) (by simp[iD,hx,hc]) (by simp[ht,b8,je,aU,Sh.pure,a8]) k).trans ?_
 simp[ht,shift,bu,ab,Sh.pure]
def dB(p:List (BitVec 8)):BitVec 32:=dt p
def gV(p:List (BitVec 8)):Int:=if p.length<4 then 2 else bif !tM (dB p).toNat then 6 else if p.length=36+32*pT (dB p).toNat then 0 else 2
def chunk(p:List (BitVec 8))(i:Nat):List (BitVec 8):=(p.drop (36+32*i)).take 32
def chunks(p:List (BitVec 8))(n:Nat):List (List (BitVec 8)):=(List.range n).map (chunk p)
def lJ(p:List (BitVec 8)):List (BitVec 8):=(p.drop 4).take 32
def DQ:Fn:=mc dq (λp=>decide (p.length<=1099511627776)) λp=>if gV p=0 then(.cB [.raw (u32 (dB p)),aU (lJ p),.sl (.ar 32 L8) 0 [] 0 (pT (dB p).toNat) false,.raw (it 0)],[some ⟨.ar 32 L8,(chunks p (pT (dB p).toNat)).map aU⟩])
 else(.cB [.raw (u32 0#32),aU uc,.raw (.slice none 0 0),.raw (it (gV p))],[])
theorem ZW(C:aX)(hC:aJ C P)(h1:C.fn 37=some ko):aP C.aY P 147 (Fn.run DQ):=by
 refine cv (Ob C hC) λds rows r h=>?_
 obtain⟨d,p,rfl,rfl,g0,hp,rfl⟩:=aZ h
 obtain⟨ex,hx⟩:=cy g0
 simp only[aaA]at hp
 refine⟨rfl,_,.cons hx .nil,ae rfl ?_⟩
 clear h g0 hx
 have hz:D.agg qI [.raw (it 0),.raw (it 0),.raw (it 0)]=jx ⟨0,0,0⟩:=rfl
 unfold EF EG
 simp only[hz,eG]
 by_cases c4:p.length<4
 ·have c4':((p.length:Int)<4)=True:=aaz (by omega)
  have he:gV p=2:=by rw[gV,aaM c4]
  rw[he,aaE (by decide)]
  simp only[↓ag,ah,simprocAttr,aQ,aB,c4',aaG]
  exact .val _ rfl
 have c4':((p.length:Int)<4)=False:=aaI (by omega)
 have b0:∀n:Nat,((0:Int)<=(n:Int))=True:=λn=>aaz (by omega)
 have b1:((1:Int)<(p.length:Int))=True:=aaz (by omega)
 have b2:((2:Int)<(p.length:Int))=True:=aaz (by omega)
 have b3:((3:Int)<(p.length:Int))=True:=aaz (by omega)
 have b4:((0:Int)<(p.length:Int))=True:=aaz (by omega)
 have t0:(bs p)[0]?=some (.raw (u8 (p.getD 0 0#8))):=nX (by omega)
 have t1:(bs p)[1]?=some (.raw (u8 (p.getD 1 0#8))):=nX (by omega)
 have t2:(bs p)[2]?=some (.raw (u8 (p.getD 2 0#8))):=nX (by omega)
 have t3:(bs p)[3]?=some (.raw (u8 (p.getD 3 0#8))):=nX (by omega)
 have hsT:(p.getD 0 0#8).setWidth 32<<<24|||(p.getD 1 0#8).setWidth 32<<<16|||(p.getD 2 0#8).setWidth 32<<<8|||(p.getD 3 0#8).setWidth 32=dB p:=rfl
 have kP:=λrows k=>oh rows k (dB p)
 cases hk:tM (dB p).toNat
 ·have he:gV p=6:=by rw[gV,aaE c4,hk];rfl
  rw[he,aaE (by decide)]
  rw[hk]at kP
  simp only[↓ag,ah,simprocAttr,aQ,aB,c4',b0,b1,b2,b3,b4,t0,t1,t2,t3,aaH,h1,hsT,kP,cY,abC]
  exact .val _ rfl
 have hpt:pT (dB p).toNat<=265:=(lN hk).2.2.1
 have g1:(jx (vV (dB p).toNat)).get [1]=some (.raw (it (pT (dB p).toNat:Int))):=rfl
 have q1:wz ((pT (dB p).toNat:Int)+1)=((pT (dB p).toNat+1:Nat):Int):=cj _ (by omega)
 have q2:wz (32*((pT (dB p).toNat+1:Nat):Int))=((32*(pT (dB p).toNat+1):Nat):Int):=by rw[be (by omega)];omega
 have q3:wz (4+((32*(pT (dB p).toNat+1):Nat):Int))=((36+32*pT (dB p).toNat:Nat):Int):=by rw[be (by omega)];omega
 rw[hk]at kP
 by_cases cl:p.length=36+32*pT (dB p).toNat
 ·have cl':((p.length:Int)=((36+32*pT (dB p).toNat:Nat):Int))=True:=aaz (by omega)
  have he:gV p=0:=by rw[gV,aaE c4,hk,aaM cl];rfl
  rw[aaM he]
  have g36:((36:Int)<=(p.length:Int))=True:=aaz (by omega)
  simp only[↓ag,ah,simprocAttr,aQ,aB,c4',b0,b1,b2,b3,b4,t0,t1,t2,t3,aaH,aaG,h1,hsT,kP,cY,abn,g1,q1,q2,q3,cl',g36,fH,eK]
  have X5:(p.drop 36).take (p.length-36)=p.drop 36:=aay (by rw[aaB];omega)
  rw[X5]
  generalize po none p.length p.length p.length ex=ex0
  have hp0:1<=pT (dB p).toNat:=by rcases Kp hk with e|e|e|e<;>rw[e]<;>decide
  generalize pT (dB p).toNat=NP at*
  generalize dB p=T at*
  have jF:∀i,i<NP->(chunk p i).length=32:=λi hi=>by rw[chunk,aaF,aaB];omega
  have hds:∀i,(chunks p i).map aU++[.agg (.ar 32 L8) (bs (chunk p i))]=(chunks p (i+1)).map aU:=λi=>by simp[chunks,abM,aU]
  have qZ:∀i,(chunks p i).length=i:=λi=>by simp[chunks]
  refine bg NP (λi env rows=>has env [(6,.raw (u32 T)),(0,.cD L8 (bs p) ex),(3,.ptr (.ar 32 L8) 0 [0])]/\live rows 0=some ⟨.ar 32 L8,[.agg (.ar 32 L8) (bs uc)]⟩/\
   (∃e',look env 10=some (.cD L8 (bs (p.drop (36+32*i))) e'))/\∃d',look env 9=some d'/\jg (.ar 32 L8) d' rows ((chunks p i).map aU)/\(∀r ex n,d'= .sl (.ar 32 L8) r [] 0 n ex->1<=r)) ?_ ?_ ⟨?_,rfl,⟨ex0,?_⟩,.raw (.slice none 0 0),?_,.inl ⟨rfl,rfl⟩,λr ex n h=>?_⟩
  ·rintro i hi env rows ⟨hh,r0,⟨e',h10⟩,d',h9,hO,hne⟩ R hR
   simp only[has]at hh
   have AJ:(p.drop (36+32*i)).length=32*(NP-i):=by rw[aaB];omega
   have e0:((0:Int)<((32*(NP-i):Nat):Int))=True:=aaz (by omega)
   have e1:((32:Int)<=((32*(NP-i):Nat):Int))=True:=aaz (by omega)
   have lt0:=a9 r0
   simp only[↓ag,ah,simprocAttr,aQ,hh,h10,h9,aB,AJ,e0,e1,fH,eK,aaG]
   have CP:List.take 32 (List.drop (36+32*i) p)=chunk p i:=rfl
   have hch2:List.take 32 (chunk p i)=chunk p i:=aay (by rw[jF i hi];exact aaL _)
   simp only[CP,hch2]
   refine⟨by rw[jF i hi];exact aaL _,tG hO.push (by rw[aaC,qZ];simp[most];omega) (by rw[aaC,qZ];simp[most];omega) λaa mC pI xE=>?_⟩
   rw[hds,aax]at mC
   have mC:live aa (rows.length+1)=_:=mC
   have r0':=pI 0 _ (aj r0 _) (λex n e=>by have:=hne _ _ _ e;omega)
   have NL:List.take (32*(NP-i)-32) (List.drop 32 (List.drop (36+32*i) p))=p.drop (36+32*(i+1)):=by
    rw[aby,show 36+32*i+32=36+32*(i+1) by omega,aay (by rw[aaB];omega)]
   simp only[↓ag,ah,simprocAttr,aQ,hh,h10,aB,AJ,e1,fH,eK,NL]
   refine hR _ _ ⟨by simp only[has,↓ag,ah,simprocAttr,hh],r0',⟨po none (32*(NP-i)) (32*(NP-i)) (32*(NP-i)) e',by simp only[↓ag,ah,simprocAttr]⟩,.sl (.ar 32 L8) (rows.length+1) [] 0 ((chunks p i).length+1) false,by simp only[↓ag,ah,simprocAttr,aaC],.inr ⟨_,false,by rw[aaC,qZ,qZ],mC⟩,λr ex n e=>by injection e with _ e;omega⟩
  ·rintro env rows ⟨hh,r0,⟨e',h10⟩,d',h9,hO,hne⟩ R
   simp only[has]at hh
   have AJ:(p.drop (36+32*NP)).length=0:=by rw[aaB];omega
   have g36:((36:Int)<=(p.length:Int))=True:=aaz (by omega)
   have w0:=λy=>aE (y:=y) r0
   simp only[↓ag,ah,simprocAttr,aQ,hh,h10,h9,aB,AJ,g36,fH,eK,hO.oz,r0]
   have hsc:List.take 32 (List.drop 4 p)=lJ p:=rfl
   have j7:(lJ p).length=32:=by rw[lJ,aaF,aaB];omega
   have hsc2:List.take 32 (lJ p)=lJ p:=aay (by rw[j7];exact aaL _)
   simp only[hsc,hsc2,w0]
   refine⟨by rw[j7];exact aaL _,?_⟩
   rcases hO with⟨h,_⟩|⟨r,Ru,rfl,hlv⟩
   ·have:=abt List.length h;rw[aaC,qZ]at this;simp at this;omega
   ·have hr0:=hne r Ru _ rfl
    have hlv2:=cE (y:=⟨.ar 32 L8,[.agg (.ar 32 L8) (bs (lJ p))]⟩) hlv (q:=0) (by omega)
    rw[aaC,qZ]
    exact .ownU [.raw (u32 T),aU (lJ p)] (.ar 32 L8) r 0 _ Ru false _ [.raw (it 0)] hlv2 rfl rfl rfl (λh=>by cases h)
  ·simp only[has,↓ag,ah,simprocAttr]
  ·simp only[↓ag,ah,simprocAttr]
  ·simp only[↓ag,ah,simprocAttr]
  ·cases h
 ·have cl':((p.length:Int)=((36+32*pT (dB p).toNat:Nat):Int))=False:=aaI (by omega)
  have he:gV p=2:=by rw[gV,aaE c4,hk,aaE cl];rfl
  rw[he,aaE (by decide)]
  simp only[↓ag,ah,simprocAttr,aQ,aB,c4',b0,b1,b2,b3,b4,t0,t1,t2,t3,aaH,h1,hsT,kP,cY,abn,g1,q1,q2,q3,cl']
  exact .val _ rfl
theorem kSplit(rows:Rows)(k:D->Rows->Prop)(d:D)(p:List (BitVec 8))(hd:bd rows d p)(hp:p.length<=1099511627776)(he:gV p=0):
  aK DQ rows k [d]=k (.cB [.raw (u32 (dB p)),.agg (.ar 32 L8) (bs (lJ p)),.sl (.ar 32 L8) (0+rows.length) [] 0 (pT (dB p).toNat) false,.raw (it 0)]) (rows++[some ⟨.ar 32 L8,(chunks p (pT (dB p).toNat)).map aU⟩]):=by
 refine(cw (.bs hd) (by simp[hp]) (by simp[he,b8,je,aU,Sh.pure,a8]) k).trans ?_
 simp[he,aU,shift,bu,ab,Sh.pure]
theorem kSplitE(rows:Rows)(k:D->Rows->Prop)(d:D)(p:List (BitVec 8))(hd:bd rows d p)(hp:p.length<=1099511627776)(he:¬gV p=0):
  aK DQ rows k [d]=k (.cB [.raw (u32 0#32),.agg (.ar 32 L8) (bs uc),.raw (.slice none 0 0),.raw (it (gV p))]) rows:=by
 refine(cw (.bs hd) (by simp[hp]) (by simp[he,b8,je,aU,Sh.pure,a8]) k).trans ?_
 simp[he,aU,shift,bu,ab,Sh.pure]
theorem split_0{p:List (BitVec 8)}(h:gV p=0):4<=p.length/\tM (dB p).toNat=true/\p.length=36+32*pT (dB p).toNat:=by
 unfold gV at h
 split at h
 ·cases h
 ·cases hk:tM (dB p).toNat with
  |false=>rw[hk]at h;cases h
  |true=>
   rw[hk]at h
   simp only[abn,aaR]at h
   split at h
   ·exact⟨by omega,rfl,by assumption⟩
   ·cases h
def clE(s:Site)(p msg:List (BitVec 8))(i:Nat):List (BitVec 8):=
 HX s.id s.q i (2^wT (dB p).toNat-1-(zA (dB p).toNat s (lJ p) msg).getD i 0) ((zA (dB p).toNat s (lJ p) msg).getD i 0) (chunk p i)
def M4(s:Site)(p msg:List (BitVec 8))(n i:Nat):List (List (BitVec 8)):=(List.range n).map λj=>if j<i then clE s p msg j else chunk p j
def qK(s:Site)(p msg:List (BitVec 8)):List (BitVec 8):=ER s.id s.q ((List.range (pT (dB p).toNat)).map (clE s p msg))
theorem clL_0(s:Site)(p msg:List (BitVec 8))(n:Nat):M4 s p msg n 0=chunks p n:=by simp[M4,chunks]
theorem clL_n(s:Site)(p msg:List (BitVec 8))(n:Nat):M4 s p msg n n=(List.range n).map (clE s p msg):=by
 apply acX
 intro j hj
 rw[aaM (adk.1 hj)]
theorem clL_set(s:Site)(p msg:List (BitVec 8))(n i:Nat)(h:i<n):(M4 s p msg n i).set i (clE s p msg i)=M4 s p msg n (i+1):=by
 apply ac1 (by simp[M4])
 intro j h1 h2
 have hj:j<n:=by simpa[M4]using h2
 rw[List.getElem_set]
 by_cases c:i=j
 ·subst c;simp[M4]
 ·rw[aaE c]
  simp only[M4,ady,List.getElem_range]
  by_cases c2:j<i
  ·rw[aaM c2,aaM (by omega)]
  ·rw[aaE c2,aaE (by omega)]
theorem clE_len{s:Site}{p msg:List (BitVec 8)}{i:Nat}(h:(chunk p i).length=32):(clE s p msg i).length=32:=yh _ _ _ _ _ _ h
noncomputable def H5:Fn:=I0 (bE fg) dq dq (λs p m=>decide (s.id.length=16)&&decide (p.length<=1099511627776)) λs p m=>if gV p=0 then(.cB [aU (qK s p m),.raw (it 0)],[])else(.cB [aU uc,.raw (it (gV p))],[])
theorem ZX(C:aX)(hC:aJ C P)(h1:C.fn 37=some ko)(h2:C.fn 99=some V0)(h4:C.fn 98=some Av)(h5:C.fn 111=some HY)(h6:C.fn 110=some uK)(h7:C.fn 147=some DQ)(h8:C.fn 101=some OB):aP C.aY P 90 (Fn.run H5):=by
 refine aH (N7 C hC) λds rows r h=>?_
 obtain⟨d0,d1,d2,s,p,msg,rfl,rfl,g0,g1,g2,hp,rfl⟩:=fS h
 cases aF g0
 have gp:=fx g1
 have gm:=fx g2
 simp only[aav,aaA]at hp
 obtain⟨iD,pJ⟩:=hp
 clear h g0 g1 g2
 have hz:D.agg qI [.raw (it 0),.raw (it 0),.raw (it 0)]=jx ⟨0,0,0⟩:=rfl
 refine⟨rfl,ae rfl ?_⟩
 unfold EB EC
 simp only[hz,eG]
 by_cases he:gV p=0
 ·rw[aaM he]
  obtain⟨h4l,hk,hl⟩:=split_0 he
  have kSp:=λrows k=>kSplit rows k d1 p gp.to pJ he
  have hcS:qK s p msg=ER s.id s.q (M4 s p msg (pT (dB p).toNat) (pT (dB p).toNat)):=by rw[clL_n,qK]
  have so:=clL_set s p msg (pT (dB p).toNat)
  have h00:=clL_0 s p msg (pT (dB p).toNat)
  have hcE:∀i,clE s p msg i=HX s.id s.q i (2^wT (dB p).toNat-1-(zA (dB p).toNat s (lJ p) msg).getD i 0) ((zA (dB p).toNat s (lJ p) msg).getD i 0) (chunk p i):=λi=>rfl
  have hpt:pT (dB p).toNat<=265:=(lN hk).2.2.1
  have hpw:2^wT (dB p).toNat<=256:=Rn (lN hk).1
  have kP:=λrows k=>oh rows k (dB p)
  have kE:=λrows k=>kEnd rows k (vV (dB p).toNat) (lN hk).1
  have hew:(vV (dB p).toNat).w=wT (dB p).toNat:=rfl
  rw[hk]at kP
  rw[hew]at kE
  have hc32:(lJ p).length=32:=by rw[lJ,aaF,aaB];omega
  have CP:∀i,i<pT (dB p).toNat->(chunk p i).length=32:=λi hi=>by rw[chunk,aaF,aaB];omega
  have kM:=λrows k=>ZJ rows k s (lJ p) msg d2 (gm.to) iD hc32
  have hml:(j4 s.id s.q (lJ p) msg).length=32:=du _
  have kD:=λrows k=>L9 rows k (dB p) (j4 s.id s.q (lJ p) msg) hml hk
  have qZ:=Me (dB p).toNat s (lJ p) msg
  have AI:=Mf hk (j4 s.id s.q (lJ p) msg)
  simp only[↓ag,ah,simprocAttr,aQ,aU,dM,cY,h7,kSp,h1,kP,h5,kM,h6,kD]
  rw[<-h00]
  have kg:∀i,i<pT (dB p).toNat->((M4 s p msg (pT (dB p).toNat) i).map aU)[i]?=some (.agg (.ar 32 L8) (bs (chunk p i))):=λi hi=>by
   simp[M4,aU,hi]
  have Gp:∀i,(M4 s p msg (pT (dB p).toNat) i).length=pT (dB p).toNat:=λi=>by simp[M4]
  have hsm:∀i,i<pT (dB p).toNat->((M4 s p msg (pT (dB p).toNat) i).map aU).set i (.agg (.ar 32 L8) (bs (clE s p msg i)))=(M4 s p msg (pT (dB p).toNat) (i+1)).map aU:=λi hi=>by
   rw[<-so i hi,acP];rfl
  have rf:∀x∈M4 s p msg (pT (dB p).toNat) (pT (dB p).toNat),x.length=32:=by
   intro x hx
   rw[clL_n]at hx
   obtain⟨i,hi,rfl⟩:=ac6.1 hx
   exact clE_len (CP i (adk.1 hi))
  have g0':∀i,i<pT (dB p).toNat->((fK (dB p).toNat (j4 s.id s.q (lJ p) msg)).map vW)[i]?=some (.raw (it ((zA (dB p).toNat s (lJ p) msg).getD i 0:Int))):=λi hi=>by
   have hl:i<(fK (dB p).toNat (j4 s.id s.q (lJ p) msg)).length:=by rw[show(fK (dB p).toNat (j4 s.id s.q (lJ p) msg)).length=pT (dB p).toNat from qZ];exact hi
   simp[vW,zA,List.getD,hl]
  have b0:∀n:Nat,((0:Int)<=(n:Int))=True:=λn=>aaz (by omega)
  have hdg':∀i,(zA (dB p).toNat s (lJ p) msg).getD i 0<=2^wT (dB p).toNat-1:=AI
  generalize fK (dB p).toNat (j4 s.id s.q (lJ p) msg)=DG at*
  generalize pT (dB p).toNat=n at*
  refine bg n (λi env rows=>has env [(39,.raw (it (i:Int))),(38,.raw (it (n:Int))),(37,.sl LI 5 [] 0 n false),(12,.ptr qI 4 [0]),(10,.sl (.ar 32 L8) 2 [] 0 n false),(6,.ptr (.ar 32 L8) 1 [0]),(3,.ptr vG 0 [0])]/\
   rows=[some ⟨vG,[fg s]⟩,some ⟨.ar 32 L8,[.agg (.ar 32 L8) (bs uc)]⟩,some ⟨.ar 32 L8,(M4 s p msg n i).map aU⟩,some ⟨.ar 32 L8,[.agg (.ar 32 L8) (bs (lJ p))]⟩,some ⟨qI,[jx (vV (dB p).toNat)]⟩,some ⟨LI,DG.map vW⟩]) ?_ ?_ ⟨?_,rfl⟩
  ·rintro i hi env rows ⟨hh,rfl⟩ R hR
   simp only[has]at hh
   have e0:((i:Int)<(n:Int))=True:=aaz (by omega)
   have e1:=cj i (by omega)
   have hx:=CP i hi
   have kC:=λrows k=>Rm rows k s i ((zA (dB p).toNat s (lJ p) msg).getD i 0) (2^wT (dB p).toNat-1) (chunk p i) iD (by omega) (by have:=hdg' i;omega) (by omega) hx
   rw[<-hcE i]at kC
   have gi:=g0' i hi
   have gl:=kg i hi
   have gs:=hsm i hi
   simp only[↓ag,ah,simprocAttr,aQ,hh,e0,e1,b0,dM,cY,gi,h2,kE,gl,h4,kC,gs]
   exact hR _ _ ⟨by simp only[has,↓ag,ah,simprocAttr,hh],rfl⟩
  ·rintro env rows ⟨hh,rfl⟩ R
   simp only[has]at hh
   have e0:((n:Int)<(n:Int))=False:=aaI (by omega)
   simp only[↓ag,ah,simprocAttr,aQ,hh,e0,dM,h8]
   refine Eq.mpr (kFold _ _ s _ _ (bF.dl rfl (Gp n)) iD rf (by rw[Gp];omega)) ?_
   rw[<-hcS]
   simp only[↓ag,ah,simprocAttr,aQ,hh]
   exact .val _ rfl
  ·simp only[has,↓ag,ah,simprocAttr]
 ·rw[aaE he]
  have kSp:=λrows k=>kSplitE rows k d1 p gp.to pJ he
  have he':(gV p=0)=False:=aaI he
  simp only[↓ag,ah,simprocAttr,aQ,aU,dM,h7,kSp,he',aaH,abC]
  exact .val _ rfl
theorem kClaim(rows:Rows)(k:D->Rows->Prop)(s:Site)(d e:D)(p m:List (BitVec 8))(hd:bd rows d p)(hm:bd rows e m)(iD:s.id.length=16)(hp:p.length<=1099511627776)(he:gV p=0):
  aK H5 rows k [fg s,d,e]=k (.cB [.agg (.ar 32 L8) (bs (qK s p m)),.raw (it 0)]) rows:=by
 refine(gI (kq s rows) (.bs hd) (.bs hm) (by simp[iD,hp]) (by simp[he,b8,je,aU,Sh.pure,a8]) k).trans ?_
 simp[he,aU,shift,bu,ab,Sh.pure]
theorem H6(t:BitVec 32):dt (bt t)=t:=by
 apply aaS
 have h:=VW ((t>>>24).setWidth 8) ((t>>>16).setWidth 8) ((t>>>8).setWidth 8) (t.setWidth 8)
 rw[show dt (bt t)=dt [(t>>>24).setWidth 8,(t>>>16).setWidth 8,(t>>>8).setWidth 8,t.setWidth 8]from rfl,<-h]
 exact Rh t
theorem H7{l:List (List (BitVec 8))}(h:∀x∈l,x.length=32):∀i (hi:i<l.length),(l.flatten.drop (32*i)).take 32=l[i]:=by
 induction l with
 |nil=>intro i hi;simp at hi
 | cons x l ih =>
  intro i hi
  have hx:=h x (by simp)
  cases i with
  |zero=>rw[aeu,abu,acn,<-hx,aa3];rfl
  |succ i=>
   rw[acn,show 32*(i+1)=x.length+32*i by omega,ad7]
   exact ih (λy hy=>h y (by simp[hy])) i (by simpa using hi)
section
variable (t:BitVec 32) (s:Site) (aI c m:List (BitVec 8))
theorem sig_T:dB (mo t s aI c m)=t:=by
 rw[dB,<-pL _ 4 (by decide),mo,aaP]
 show dt (bt t)=t
 exact H6 t
variable (hc:c.length=32)
include hc
theorem sig_C:lJ (mo t s aI c m)=c:=by
 rw[lJ,mo,aaP]
 show(c++(j5 t.toNat s aI c m (pT t.toNat)).flatten).take 32=c
 have h:=aa3 (l₁:=c) (l₂:=(j5 t.toNat s aI c m (pT t.toNat)).flatten)
 rw[hc]at h
 exact h
theorem We(i:Nat)(hi:i<pT t.toNat):chunk (mo t s aI c m) i=HX s.id s.q i ((zA t.toNat s c m).getD i 0) 0 (BW s.id s.q i aI):=by
 have h36:(bt t++c).length=36:=by rw[aax,hc];rfl
 have pJ:(j5 t.toNat s aI c m (pT t.toNat)).length=pT t.toNat:=by simp[j5]
 rw[chunk,mo,show 36+32*i=(bt t++c).length+32*i by omega,ad7,H7 (DP _ _ _ _ _ _) i (by omega)]
 simp[j5]
theorem Rv(ht:tM t.toNat=true):qK s (mo t s aI c m) m=Fz t.toNat s aI:=by
 have hT:=sig_T t s aI c m
 have hC:=sig_C t s aI c m hc
 rw[qK,hT,Fz,xB]
 congr 1
 apply acX
 intro i hi
 have hi:=adk.1 hi
 have hle:(zA t.toNat s c m).getD i 0<=2^wT t.toNat-1:=Mf ht _ i
 rw[clE,hT,hC,We t s aI c m hc i hi]
 generalize (zA t.toNat s c m).getD i 0=a at*
 have:=L5 s.id s.q i (2^wT t.toNat-1-a) a 0 (BW s.id s.q i aI)
 rw[abO]at this
 rw[<-this]
 congr 1
 omega
end
abbrev Jp:Sh:= .cons dk (.cons dk (.cons (.ar 16 L8) (.cons (.ar 32 L8) .nil)))
noncomputable def ET:Fn:=mc dq (λa=>Nat.ble 4 a.length) λa=>(.raw (u32 (dt a)),[])
theorem lnum_ok(C:aX)(hC:aJ C P):aP C.aY P 146 (Fn.run ET):=by
 refine aH (VE C hC) λds rows r h=>?_
 obtain⟨d,a,rfl,rfl,hd,hp,rfl⟩:=aZ h
 have ha:=fx hd
 simp only[abP]at hp
 refine⟨rfl,ae rfl ?_⟩
 unfold J6 J7
 have e0:∀(k:D->Rows->Prop) rows,oU (.leaf (.int .u8)) 0 rows k d=k (.b5 (.raw (u8 (a.getD 0 0#8)))) rows:=λk rows=>by have:=gP (k:=k) (rows:=rows) (n:=0) ha (by omega);simpa using this
 have e1:∀(k:D->Rows->Prop) rows,oU (.leaf (.int .u8)) 1 rows k d=k (.b5 (.raw (u8 (a.getD 1 0#8)))) rows:=λk rows=>by have:=gP (k:=k) (rows:=rows) (n:=1) ha (by omega);simpa using this
 have e2:∀(k:D->Rows->Prop) rows,oU (.leaf (.int .u8)) 2 rows k d=k (.b5 (.raw (u8 (a.getD 2 0#8)))) rows:=λk rows=>by have:=gP (k:=k) (rows:=rows) (n:=2) ha (by omega);simpa using this
 have e3:∀(k:D->Rows->Prop) rows,oU (.leaf (.int .u8)) 3 rows k d=k (.b5 (.raw (u8 (a.getD 3 0#8)))) rows:=λk rows=>by have:=gP (k:=k) (rows:=rows) (n:=3) ha (by omega);simpa using this
 simp only[↓ag,ah,simprocAttr,e0,e1,e2,e3]
 exact .val _ rfl
theorem kLNum(rows:Rows)(k:D->Rows->Prop)(d:D)(p:List (BitVec 8))(h:bd rows d p)(hp:4<=p.length):aK ET rows k [d]=k (.raw (u32 (dt p))) rows:=by
 refine(cw (bF.bs h) (by simpa using hp) rfl k).trans ?_
 simp[shift,ab]
def hT(t:Nat):Nat:=if 5<=t/\t<=9 then 5*(t-4)else if 3758096384<t/\t<=3758096388 then t-3758096384 else 0
def I1(t:Nat):Bool:=decide (5<=t/\t<=9\/3758096384<t/\t<=3758096388)
theorem hT_le(t:Nat):hT t<=25:=by
 unfold hT;split
 ·omega
 ·split<;>omega
theorem Wf{t:BitVec 32}(h:I1 t.toNat=true):t=5#32\/t=6#32\/t=7#32\/t=8#32\/t=9#32\/t=3758096385#32\/t=3758096386#32\/t=3758096387#32\/t=3758096388#32:=by
 simp only[I1,aaA]at h
 have:t.toNat=5\/t.toNat=6\/t.toNat=7\/t.toNat=8\/t.toNat=9\/t.toNat=3758096385\/t.toNat=3758096386\/t.toNat=3758096387\/t.toNat=3758096388:=by omega
 have g:∀n,n<4294967296->t.toNat=n->t=BitVec.ofNat 32 n:=λn hn e=>aaS (by rw[e,aa7,abB hn])
 rcases this with h|h|h|h|h|h|h|h|h<;>have:=g _ (by decide) h<;>simp[this]
def yj:Fn:=mc qc (λ_=>true) λt=>(.cB [.raw (it (hT t.toNat:Int)),.raw (.bool (I1 t.toNat))],[])
theorem Wg(C:aX)(hC:aJ C P):aP C.aY P 36 (Fn.run yj):=by
 refine aH (Lt C hC) λds rows r h=>?_
 obtain⟨d,t,rfl,rfl,hd,hp,rfl⟩:=aZ h
 cases eh hd
 refine⟨rfl,ae rfl ?_⟩
 clear h hd
 unfold Bd Be
 cases hk:I1 t.toNat
 ·have hz:hT t.toNat=0:=by
   simp only[I1,abX]at hk
   unfold hT;split
   ·omega
   ·split<;>omega
  rw[hz]
  simp only[I1,abX]at hk
  have a1:(5#32<=t)=(5<=t.toNat):=propext abJ
  have a2:(t<=9#32)=(t.toNat<=9):=propext abJ
  have a3:(3758096384#32<t)=(3758096384<t.toNat):=propext ab0
  have a4:(t<=3758096388#32)=(t.toNat<=3758096388):=propext abJ
  by_cases c1:5<=t.toNat<;>by_cases c2:t.toNat<=9<;>by_cases c3:3758096384<t.toNat<;>by_cases c4:t.toNat<=3758096388<;>
   first
   |omega
   |(simp only[↓ag,ah,simprocAttr,a1,a2,a3,a4,c1,c2,c3,c4,aaG,aaH];exact .val _ rfl)
 ·rcases Wf hk with rfl|rfl|rfl|rfl|rfl|rfl|rfl|rfl|rfl<;>
  ·simp only[↓ag,ah,simprocAttr,BitVec.reduceLT,BitVec.reduceLE,BitVec.reduceSub,BitVec.reduceToNat,aaG,aaH]
   exact .val _ rfl
theorem FY(rows:Rows)(k:D->Rows->Prop)(t:BitVec 32):aK yj rows k [.raw (u32 t)]=k (.cB [.raw (it (hT t.toNat:Int)),.raw (.bool (I1 t.toNat))]) rows:=by
 refine(cw (bF.raw (gA t)) rfl rfl k).trans ?_
 simp[shift,bu,ab]
structure Key where
 t:BitVec 32
 o:BitVec 32
 id:List (BitVec 8)
 root:List (BitVec 8)
def DR(k:Key):D:= .agg Jp [.raw (u32 k.t),.raw (u32 k.o),.agg (.ar 16 L8) (bs k.id),.agg (.ar 32 L8) (bs k.root)]
def Wh:Key:=⟨0#32,0#32,List.replicate 16 0#8,List.replicate 32 0#8⟩
def keyOf(p:List (BitVec 8)):Key:=⟨dt p,dt (p.drop 4),(p.drop 8).take 16,p.drop 24⟩
def eR(p:List (BitVec 8)):Key×Int:=
 bif decide (p.length=56)then
  (bif I1 (dt p).toNat&&tM (dt (p.drop 4)).toNat then(keyOf p,0)else(Wh,6))
 else(Wh,2)
noncomputable def H8:Fn:=mc dq (λa=>Nat.ble a.length most) λp=>(.cB [DR (eR p).1,.raw (it (eR p).2)],[])
theorem H9(rows:Rows)(k:D->Rows->Prop)(x:List (BitVec 8))(e:Bool)(h:4<=x.length):aK ET rows k [.cD L8 (bs x) e]=k (.raw (u32 (dt x))) rows:=by
 refine(bh rfl (eQ (wJ x e) (by simpa using h))).trans ?_
 simp[shift,ab]
theorem ZY(C:aX)(hC:aJ C P)(h1:C.fn 146=some ET)(h2:C.fn 36=some yj)(h3:C.fn 37=some ko):aP C.aY P 143 (Fn.run H8):=by
 refine cv (QZ C hC) λds rows r h=>?_
 obtain⟨d,p,rfl,rfl,hd,hp,rfl⟩:=aZ h
 obtain⟨x,hx⟩:=cy hd
 refine⟨rfl,_,.cons hx .nil,ae rfl ?_⟩
 simp only[abP]at hp
 unfold most at hp
 clear h hx hd
 unfold Hw Hx
 have hz:D.fits (.agg Jp [.raw (u32 0#32),.raw (u32 0#32),.agg (.ar 16 L8) (List.replicate 16 (.raw (u8 0#8))),.agg (.ar 32 L8) (List.replicate 32 (.raw (u8 0#8)))]) Jp=true:=rfl
 by_cases hl:p.length=56
 ·have d0:4<=p.length:=by omega
  have d4:4<=(p.drop 4).length:=by rw[aaB];omega
  have tk4:(bs (p.drop 4)).take 52=bs (p.drop 4):=aay (by rw[aB,aaB];omega)
  have tk8:(bs (p.drop 8)).take 16=bs ((p.drop 8).take 16):=eK _ _
  have tkk:(bs ((p.drop 8).take 16)).take 16=bs ((p.drop 8).take 16):=aay (by rw[aB,aaF];omega)
  have tk24:(bs (p.drop 24)).take 32=bs (p.drop 24):=aay (by rw[aB,aaB];omega)
  simp only[↓ag,ah,simprocAttr,aB,hl,h1,H9 _ _ _ _ d0,H9 _ _ _ _ d4,fH,tk4,tk8,tkk,tk24,aaB,hz]
  have l16:(List.take 16 (List.drop 8 p)).length=16:=by rw[aaF,aaB];omega
  have l32:(List.drop 24 p).length=32:=by rw[aaB];omega
  refine⟨by omega,?_⟩
  simp only[↓ag,ah,simprocAttr,aQ,l16,l32,h2,h3,FY,oh,hz,jx,tkk,tk24]
  have hq:eR p=if I1 (dt p).toNat&&tM (dt (p.drop 4)).toNat then(keyOf p,0)else(Wh,6):=by
   simp only[eR,hl,aaG,aaY]
   cases I1 (dt p).toNat&&tM (dt (p.drop 4)).toNat<;>rfl
  rw[hq]
  cases g1:I1 (dt p).toNat<;>cases g2:tM (dt (p.drop 4)).toNat<;>
  ·simp only[↓ag,ah,simprocAttr,abn,abC,acZ,acG,ace,ab6,adn,ab1,D.fits]
   try exact .val _ rfl
 ·have wG:((p.length:Int)=56)=False:=aaI (by omega)
  have hq:eR p=(Wh,2):=by simp[eR,hl]
  rw[hq]
  simp only[↓ag,ah,simprocAttr,aB,wG]
  exact .val _ rfl
theorem ZZ(C:aX)(hC:aJ C P):aP C.aY P 50 (Fn.run zy):=by
 refine aH (QO C hC) λds rows r h=>?_
 obtain⟨d,n,rfl,rfl,hd,hp,rfl⟩:=aZ h
 cases eh hd
 refine⟨rfl,ae rfl ?_⟩
 clear h hd
 unfold G9 Ha
 simp only[↓ag,ah,simprocAttr]
 exact .own _ 0 0 4 true false _ rfl rfl (λh=>by cases h)
def Kx(id:List (BitVec 8))(r:BitVec 32)(kd:Nat)(l:List (List (BitVec 8))):List (BitVec 8):=eu (id++bt r++ud kd++l.flatten)
def tP(id:List (BitVec 8))(r:BitVec 32)(a b:List (BitVec 8)):List (BitVec 8):=Kx id r 33667 [a,b]
def oI(id:List (BitVec 8))(r:BitVec 32)(k:List (BitVec 8)):List (BitVec 8):=Kx id r 33410 [k]
theorem Ky(id:List (BitVec 8))(r:BitVec 32)(a b:List (BitVec 8)):(tP id r a b).length=32:=du _
theorem DS(id:List (BitVec 8))(r:BitVec 32)(a:List (BitVec 8)):(oI id r a).length=32:=du _
noncomputable def OJ:Fn:=Xu (bE zv) qc s6 (oG (.ar 32 L8) aU) (λid _ n l=>decide (id.length=16)&&OA n 65536&&HV l&&decide (l.length<=1000000)) λid r n l=>(aU (Kx id r n.toNat l),[])
theorem hash_ok(C:aX)(hC:aJ C P)(h1:C.fn 157=some Ov)(h2:C.fn 50=some zy)(h3:C.fn 158=some rS)(h4:C.fn 159=some uI):aP C.aY P 102 (Fn.run OJ):=by
 refine cv (QS C hC) λds rows r h=>?_
 obtain⟨d0,d1,d2,d3,id,r,n,l,rfl,rfl,g0,g1,g2,g3,hp,rfl⟩:=tL h
 cases aF g0
 cases eh g1
 cases bK g2
 obtain⟨ex,hx⟩:=yf g3
 simp only[aav,aaA,tK,L7]at hp
 obtain⟨⟨⟨iD,hn⟩,rf⟩,Gp⟩:=hp
 refine⟨rfl,_,.cons (.refl _) (.cons (.refl _) (.cons (.refl _) (.cons hx .nil))),ae rfl ?_⟩
 clear h g0 g1 g2 g3 hx
 obtain⟨m,rfl⟩:=aaO hn.1
 have hm:m<65536:=by omega
 unfold Hl Hm
 have e8:∀k,cz .shr (it (m:Int)) (u64 8#64) k=k (.raw (it ((m/256:Nat):Int))):=λk=>ZG m 8 .u64 (by decide) k
 have e1:BitVec.ofInt 8 ((m/256:Nat):Int)=BitVec.ofNat 8 (m/256):=abp _ _
 have e2:BitVec.ofInt 8 (m:Int)=BitVec.ofNat 8 m:=abp _ _
 have id_fits:(zv id).fits (.ar 16 L8)=true:=rfl
 simp only[eG,Rk]
 simp only[↓ag,ah,simprocAttr,aQ,zv,m9,h1,Rf,h3]
 refine Eq.mpr (kU _ _ _ _ id (bd.tJ (n:=16) rfl rfl iD) oa) ?_
 have o0:=eZ id FT oa
 simp only[↓ag,ah,simprocAttr,aQ,h2,Oz,h3]
 refine Eq.mpr (kU _ _ _ _ (bt r) (bd.own rfl _ rfl) o0) ?_
 have o1:=eZ (bt r) _ o0
 simp only[↓ag,ah,simprocAttr,aQ,e8,e1,e2,h3]
 refine Eq.mpr (kU _ _ _ _ (ud m) (bd.own rfl _ rfl) o1) ?_
 have o2:=eZ (ud m) _ o1
 simp only[↓ag,ah,simprocAttr,aQ,m9,aaC]
 have hok:∀i,(feed (feed (feed (feed FT id) (bt r)) (ud m)) (l.take i).flatten).ok=true:=λi=>eZ _ _ o2
 have e:pi (feed (feed (feed (feed FT id) (bt r)) (ud m)) (l.take l.length).flatten)=Kx id r m l:=by
  rw[aa6,Kx,eu,<-eY,<-eY,<-eY]
  simp only[aaP]
 have hst:feed (feed (feed (feed FT id) (bt r)) (ud m)) (l.take 0).flatten=feed (feed (feed FT id) (bt r)) (ud m):=by rw[acq];rfl
 rw[<-hst]
 have ZK:∀i (h:i<l.length),feed (feed (feed (feed (feed FT id) (bt r)) (ud m)) (l.take i).flatten) l[i]=feed (feed (feed (feed FT id) (bt r)) (ud m)) (l.take (i+1)).flatten:=λi h=>by
  rw[<-eY,aa2 h,ab5];simp
 generalize feed (feed (feed FT id) (bt r)) (ud m)=B at*
 refine bg l.length (λi env rows=>has env [(27,.raw (it (i:Int))),(26,.raw (it (l.length:Int))),(25,.cD (.ar 32 L8) (l.map aU) ex),(9,.ptr M2 4 [0]),(8,.ptr (.ar 32 L8) 1 [0])]/\
  live rows 4=some ⟨M2,[tF (feed B (l.take i).flatten)]⟩/\live rows 1=some ⟨.ar 32 L8,[.agg (.ar 32 L8) (bs uc)]⟩) ?_ ?_ ⟨?_,rfl,rfl⟩
 ·rintro i hi env rows ⟨hh,r3,r1⟩ R hR
  simp only[has]at hh
  have e0:((i:Int)<(l.length:Int))=True:=aaz (by omega)
  have b0:∀n:Nat,((0:Int)<=(n:Int))=True:=λn=>aaz (by omega)
  have e1:=cj i (by omega)
  have hx:=rf _ (abQ hi)
  have g:(l.map aU)[i]?=some (.agg (.ar 32 L8) (bs l[i])):=by simp[aU,hi]
  have hs:=ZK i hi
  generalize l[i]=xi at*
  have r3A:=λL=>aj r3 L
  simp only[↓ag,ah,simprocAttr,aQ,hh,e0,e1,b0,aaC,g,r3A,h3]
  refine Eq.mpr (kU _ _ _ _ xi (bd.tJ (n:=32) (by rw[bx];rfl) rfl hx) (hok i)) ?_
  rw[hs]
  simp only[↓ag,ah,simprocAttr,aQ,hh,e1,r3A,m9]
  exact hR _ _ ⟨by simp only[has,↓ag,ah,simprocAttr,hh],aE (r3A _),cE (aj r1 _) (by decide)⟩
 ·rintro env rows ⟨hh,r3,r1⟩ R
  simp only[has]at hh
  have e0:((l.length:Int)<(l.length:Int))=False:=aaI (by omega)
  have w1:=λx=>aE (y:=x) r1
  simp only[↓ag,ah,simprocAttr,aQ,hh,e0,r3,r1,h4,Au _ _ _ (hok _),e,w1]
  exact .val _ rfl
 ·simp only[has,↓ag,ah,simprocAttr]
theorem kHash(rows:Rows)(k:D->Rows->Prop)(id:List (BitVec 8))(r:BitVec 32)(m:Nat)(d:D)(l:List (List (BitVec 8)))(hd:bF rows (oG (.ar 32 L8) aU) d l)(iD:id.length=16)(hm:m<65536)(rf:∀x∈l,x.length=32)(Gp:l.length<=1000000):
  aK OJ rows k [.agg (.ar 16 L8) (bs id),.raw (u32 r),.raw (it (m:Int)),d]=k (.agg (.ar 32 L8) (bs (Kx id r m l))) rows:=by
 refine(xC (FU id) (bF.raw (gA r)) (bF.int _) hd (by simp[iD,tK.2 rf,Gp,OA];omega) rfl k).trans ?_
 simp[aU,shift,ab,Sh.pure]
noncomputable def Kz:Fn:=I0 (bE zv) qc (bE aU) (λid _ x=>decide (id.length=16)&&decide (x.length=32)) λid r x=>(aU (oI id r x),[])
theorem leaf_ok(C:aX)(hC:aJ C P)(h1:C.fn 102=some OJ):aP C.aY P 41 (Fn.run Kz):=by
 refine aH (QM C hC) λds rows r h=>?_
 obtain⟨d0,d1,d2,id,r,x,rfl,rfl,g0,g1,g2,hp,rfl⟩:=fS h
 cases aF g0
 cases eh g1
 cases aF g2
 simp only[aav,aaA]at hp
 refine⟨rfl,ae rfl ?_⟩
 clear h g0 g1 g2
 unfold G5 G6
 simp only[eG]
 have kH:=λrows k d hd=>kHash rows k id r 33410 d [x] hd hp.1 (by decide) (by simp[hp.2]) (by simp)
 rw[show((33410:Nat):Int)=33410 from rfl]at kH
 simp only[↓ag,ah,simprocAttr,aQ,zv,aU,h1]
 refine Eq.mpr (kH _ _ _ (bF.dl (l:=[x]) rfl rfl)) ?_
 simp only[↓ag,ah,simprocAttr,aQ]
 exact .val _ rfl
theorem kLeaf(rows:Rows)(k:D->Rows->Prop)(id:List (BitVec 8))(r:BitVec 32)(x:List (BitVec 8))(iD:id.length=16)(hx:x.length=32):
  aK Kz rows k [.agg (.ar 16 L8) (bs id),.raw (u32 r),.agg (.ar 32 L8) (bs x)]=k (.agg (.ar 32 L8) (bs (oI id r x))) rows:=by
 refine(gI (FU id) (bF.raw (gA r)) (ju x) (by simp[iD,hx]) rfl k).trans ?_
 simp[aU,shift,ab,Sh.pure]
noncomputable def KA:Fn:=Xu (bE zv) qc (bE aU) (bE aU) (λid _ x y=>decide (id.length=16)&&decide (x.length=32)&&decide (y.length=32)) λid r x y=>(aU (tP id r x y),[])
theorem node_ok(C:aX)(hC:aJ C P)(h1:C.fn 102=some OJ):aP C.aY P 42 (Fn.run KA):=by
 refine aH (QN C hC) λds rows r h=>?_
 obtain⟨d0,d1,d2,d3,id,r,x,y,rfl,rfl,g0,g1,g2,g3,hp,rfl⟩:=tL h
 cases aF g0
 cases eh g1
 cases aF g2
 cases aF g3
 simp only[aav,aaA]at hp
 refine⟨rfl,ae rfl ?_⟩
 clear h g0 g1 g2 g3
 unfold G7 G8
 simp only[eG]
 have kH:=λrows k d hd=>kHash rows k id r 33667 d [x,y] hd hp.1.1 (by decide) (by simp[hp.1.2,hp.2]) (by simp)
 rw[show((33667:Nat):Int)=33667 from rfl]at kH
 simp only[↓ag,ah,simprocAttr,aQ,zv,aU,h1]
 refine Eq.mpr (kH _ _ _ (bF.dl (l:=[x,y]) rfl rfl)) ?_
 simp only[↓ag,ah,simprocAttr,aQ]
 exact .val _ rfl
theorem Z0(rows:Rows)(k:D->Rows->Prop)(id:List (BitVec 8))(r:BitVec 32)(x y:List (BitVec 8))(iD:id.length=16)(hx:x.length=32)(hy:y.length=32):
  aK KA rows k [.agg (.ar 16 L8) (bs id),.raw (u32 r),.agg (.ar 32 L8) (bs x),.agg (.ar 32 L8) (bs y)]=k (.agg (.ar 32 L8) (bs (tP id r x y))) rows:=by
 refine(xC (FU id) (bF.raw (gA r)) (ju x) (ju y) (by simp[iD,hx,hy]) rfl k).trans ?_
 simp[aU,shift,ab,Sh.pure]
theorem Z1(rows:Rows)(k:D->Rows->Prop)(d:D)(p:List (BitVec 8))(h:bd rows d p)(hp:p.length<=1099511627776):aK H8 rows k [d]=k (.cB [DR (eR p).1,.raw (it (eR p).2)]) rows:=by
 refine(cw (bF.bs h) (by simpa[most]using hp) rfl k).trans ?_
 simp[shift,bu,ab,DR,Sh.pure]
def Mg:Fn:=mc s6 (λ_=>true) λe=>(.cB [.raw (u32 0#32),.raw (.slice none 0 0),.raw (u32 0#32),.raw (.slice none 0 0),.raw (it e)],[])
theorem Z2(C:aX)(hC:aJ C P):aP C.aY P 144 (Fn.run Mg):=by
 refine aH (Ji C hC) λds rows r h=>?_
 obtain⟨d,t,rfl,rfl,hd,hp,rfl⟩:=aZ h
 cases bK hd
 refine⟨rfl,ae rfl ?_⟩
 clear h hd
 unfold zk zm
 simp only[↓ag,ah,simprocAttr]
 exact .val _ rfl
theorem sB(rows:Rows)(k:D->Rows->Prop)(e:Int):aK Mg rows k [.raw (it e)]=k (.cB [.raw (u32 0#32),.raw (.slice none 0 0),.raw (u32 0#32),.raw (.slice none 0 0),.raw (it e)]) rows:=by
 refine(cw (bF.int e) rfl rfl k).trans ?_
 simp[shift,bu,ab]
theorem Z3(p:List (BitVec 8)):(eR p).2=0\/(eR p).2=6\/(eR p).2=2:=by
 unfold eR
 cases decide (p.length=56)
 ·exact .inr (.inr rfl)
 ·cases I1 (dt p).toNat&&tM (dt (p.drop 4)).toNat
  ·exact .inr (.inl rfl)
  ·exact .inl rfl
end iZ
end Go.Am

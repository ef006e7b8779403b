import Derived.Test.YtgcejocgnfkciaaGreatDoorKg7
set_option linter.unusedSimpArgs false
set_option linter.unusedVariables false
set_option maxRecDepth 10000
set_option maxHeartbeats 4000000
namespace Go.Am
attribute [local congr] dq bW dt bX bY cB bI bZ b5 cC bu cD b6 dj
namespace jU
open Go.Am.F
abbrev nQ:Sh:= .cons (.ar 16 L8) (.cons cJ .nil)
structure Site where
 id:List (BitVec 8)
 q:BitVec 32
def dS(s:Site):D:= .agg nQ [.agg (.ar 16 L8) (bs s.id),.raw (u32 s.q)]
theorem X1(x y:Site)(h:dS x=dS y):x=y:=by
 obtain⟨a,b⟩:=x
 obtain⟨c,d⟩:=y
 simp only[dS,D.agg.injEq,abC,D.raw.injEq,aa2,acg]at h
 rw[rO h.1,qD h.2]
theorem cS(s:Site):(dS s).fits nQ=true:=rfl
theorem lQ(s:Site)(rows:Rows):bk rows (bx dS) (dS s) s:=bk.agg rfl (br X1 s)
theorem Vy(m b:Nat)(kd:IntKind)(hb:b<=64)(k:D->Prop):cF .shr (it (m:Int)) (.int kd (b:Int)) k=k (.raw (it ((m/2^b:Nat):Int))):=by
 have e:(m:Int).fdiv (2^(min (b:Int).toNat IntKind.i64.bits))=((m/2^b:Nat):Int):=by
  have:min (b:Int).toNat IntKind.i64.bits=b:=by show min (b:Int).toNat 64=b;omega
  rw[this,ace _ (Int.le_of_lt (Int.pow_pos (by decide)))]
  rw[show((2:Int)^b)=((2^b:Nat):Int) by simp]
  omega
 simp only[cF,it]
 rw[e]
 simp
def TJ:Fn:=mV tH (λn=>decide (0<=n)&&decide (n<65536)) λn=>dF (eN n.toNat) false
theorem two_ok(C:bf)(hC:aJ C P):aN C.aX P 162 (Fn.run TJ):=by
 refine aG (XL C hC) λds rows r h=>?_
 obtain⟨d,n,rfl,rfl,hd,hp,rfl⟩:=a8 h
 cases bK hd
 simp only[aan,aat]at hp
 refine⟨rfl,ag rfl ?_⟩
 clear h hd
 obtain⟨m,rfl⟩:=aaD hp.1
 have hm:m<65536:=by omega
 unfold LW LX
 have e8:∀k,cF .shr (it (m:Int)) (u64 8#64) k=k (.raw (it ((m/256:Nat):Int))):=λk=>Vy m 8 .u64 (by decide) k
 have e1:BitVec.ofInt 8 ((m/256:Nat):Int)=BitVec.ofNat 8 (m/256):=aa4 _ _
 have e2:BitVec.ofInt 8 (m:Int)=BitVec.ofNat 8 m:=aa4 _ _
 simp only[↓ah,aj,simprocAttr,e8,e1,e2]
 exact .own _ 0 0 2 true false _ rfl rfl (λh=>by cases h)
theorem kTwo(rows:Rows)(k:D->Rows->Prop)(n:Nat)(h:n<65536):aI TJ rows k [.raw (it (n:Int))]=k (.sl L8 (0+rows.length) [] 0 2 false) (rows++[some ⟨L8,bs (eN n)⟩]):=by
 refine(cO (bk.int _) (by simp;omega) rfl k).trans ?_
 simp[dF,shift,ab,Sh.pure,eN]
def Aw:Fn:=mV qs (λ_=>true) λq=>dF (bi q) false
theorem four_ok(C:bf)(hC:aJ C P):aN C.aX P 167 (Fn.run Aw):=by
 refine aG (Tx C hC) λds rows r h=>?_
 obtain⟨d,n,rfl,rfl,hd,hp,rfl⟩:=a8 h
 cases dH hd
 refine⟨rfl,ag rfl ?_⟩
 clear h hd
 unfold IV IW
 simp only[↓ah,aj,simprocAttr]
 exact .own _ 0 0 4 true false _ rfl rfl (λh=>by cases h)
theorem Qp(rows:Rows)(k:D->Rows->Prop)(q:BitVec 32):aI Aw rows k [.raw (u32 q)]=k (.sl L8 (0+rows.length) [] 0 4 false) (rows++[some ⟨L8,bs (bi q)⟩]):=by
 refine(cO (bk.raw (eO q)) rfl rfl k).trans ?_
 simp[dF,shift,ab,Sh.pure,bi]
def stZ:St:=⟨List.replicate 8 0#32,List.replicate 64 0#8,0#64⟩
theorem TL:D.agg OT [.agg (.ar 8 cJ) (List.replicate 8 (.raw (u32 0#32))),.agg (.ar 64 L8) (List.replicate 64 (.raw (u8 0#8))),.raw (u64 0#64)]=uG stZ:=rfl
def l6(s:Site):St:=feed Bx (s.id++bi s.q)
theorem qF(s:Site):(l6 s).ok=true:=fq _ _ oO
noncomputable def EP:Fn:=mV (bx dS) (λs=>decide (s.id.length=16)) λs=>(uG (l6 s),[])
theorem front_ok(C:bf)(hC:aJ C P)(h1:C.fn 157=some Qj)(h2:C.fn 158=some td)(h3:C.fn 167=some Aw):aN C.aX P 161 (Fn.run EP):=by
 refine aG (P5 C hC) λds rows r h=>?_
 obtain⟨d,s,rfl,rfl,hd,hp,rfl⟩:=a8 h
 cases aE hd
 simp only[aat]at hp
 refine⟨rfl,ag rfl ?_⟩
 clear h hd
 unfold FW FX
 simp only[TL]
 have Sq:(dS s).get [0]=some (.agg (.ar 16 L8) (bs s.id)):=rfl
 have Xl:(dS s).get [1]=some (.raw (u32 s.q)):=rfl
 simp only[↓ah,aj,simprocAttr,aM,cS,nP,h1,h2,TG]
 refine Eq.mpr (lW _ _ _ _ s.id (aU.tf (n:=16) rfl (by simp only[↓ah,aj,simprocAttr,Sq]) hp) oO) ?_
 have hok1:=fq s.id Bx oO
 have qo:feed (feed Bx s.id) (bi s.q)=l6 s:=(eu _ _ _).symm
 simp only[↓ah,aj,simprocAttr,aM,Xl,h3,Qp,h2]
 refine Eq.mpr (lW _ _ _ _ (bi s.q) (aU.own rfl _ rfl) hok1) ?_
 rw[qo]
 simp only[↓ah,aj,simprocAttr,aM,nP]
 exact .val _ rfl
theorem TM(rows:Rows)(k:D->Rows->Prop)(s:Site)(h:s.id.length=16):aI EP rows k [dS s]=k (uG (l6 s)) rows:=by
 refine(cO (lQ s rows) (by simp[h]) rfl k).trans ?_
 simp[uG,shift,ab,Sh.pure]
def Bk(i n:Int):Bool:=decide (0<=i)&&decide (i<n)
theorem rS{i n:Int}:Bk i n=true↔0<=i/\i<n:=by simp[Bk]
noncomputable def Jk:Fn:=Zw (bx dS) tH tH (bx aO) (λs i j x=>decide (s.id.length=16)&&Bk i 65536&&Bk j 256&&decide (x.length=32)) λs i j x=>(aO (lz s.id s.q i.toNat j.toNat x),[])
theorem step_ok(C:bf)(hC:aJ C P)(h1:C.fn 161=some EP)(h2:C.fn 162=some TJ)(h3:C.fn 158=some td)(h4:C.fn 159=some vE):aN C.aX P 160 (Fn.run Jk):=by
 refine aG (Tv C hC) λds rows r h=>?_
 obtain⟨d0,d1,d2,d3,s,i,j,x,rfl,rfl,g0,g1,g2,g3,hp,rfl⟩:=rQ h
 cases aE g0
 cases bK g1
 cases bK g2
 cases aE g3
 simp only[aan,aat,rS]at hp
 obtain⟨⟨⟨eY,hi⟩,hj⟩,hx⟩:=hp
 refine⟨rfl,ag rfl ?_⟩
 clear h g0 g1 g2 g3
 obtain⟨i,rfl⟩:=aaD hi.1
 obtain⟨j,rfl⟩:=aaD hj.1
 have hi':i<65536:=by omega
 have oe:j<256:=by omega
 unfold IR IS
 simp only[dw]
 have ej:BitVec.ofInt 8 (j:Int)=BitVec.ofNat 8 j:=aa4 _ _
 have kT:=λrows k=>kTwo rows k i hi'
 simp only[↓ah,aj,simprocAttr,aM,aO,cS,h1,TM _ _ s eY,h2,kT,h3]
 refine Eq.mpr (lW _ _ _ _ (eN i) (aU.own rfl _ rfl) (qF s)) ?_
 simp only[↓ah,aj,simprocAttr,aM,ej,h3]
 have o1:=fq (eN i) _ (qF s)
 refine Eq.mpr (lW _ _ _ _ [BitVec.ofNat 8 j] (aU.own rfl _ rfl) o1) ?_
 simp only[↓ah,aj,simprocAttr,aM,h3]
 have o2:=fq [BitVec.ofNat 8 j] _ o1
 refine Eq.mpr (lW _ _ _ _ x (aU.tf (n:=32) rfl rfl hx) o2) ?_
 have o3:=fq x _ o2
 simp only[↓ah,aj,simprocAttr,aM,h4,Bj _ _ _ o3]
 have e:pw (feed (feed (feed (l6 s) (eN i)) [BitVec.ofNat 8 j]) x)=lz s.id s.q i j x:=by
  rw[lz,cM,l6,<-eu,<-eu,<-eu]
  simp only[aaC]
 rw[e]
 exact .val _ rfl
theorem kStep(rows:Rows)(k:D->Rows->Prop)(s:Site)(i j:Nat)(x:List (BitVec 8))(eY:s.id.length=16)(hi:i<65536)(hj:j<256)(hx:x.length=32):
  aI Jk rows k [dS s,.raw (it (i:Int)),.raw (it (j:Int)),.agg (.ar 32 L8) (bs x)]=k (.agg (.ar 32 L8) (bs (lz s.id s.q i j x))) rows:=by
 refine(uK (lQ s rows) (bk.int _) (bk.int _) (iM x) (by simp[eY,hx,Bk];omega) rfl k).trans ?_
 simp[aO,shift,ab,Sh.pure]
noncomputable def yQ:Fn:=GY (bx dS) tH (bx aO) (λs i x=>decide (s.id.length=16)&&Bk i 65536&&decide (x.length=32)) λs i x=>(aO (uJ s.id s.q i.toNat x),[])
theorem X2(C:bf)(hC:aJ C P)(h1:C.fn 160=some Jk):aN C.aX P 100 (Fn.run yQ):=by
 refine aG (NC C hC) λds rows r h=>?_
 obtain⟨d0,d1,d2,s,i,x,rfl,rfl,g0,g1,g2,hp,rfl⟩:=fp h
 cases aE g0
 cases bK g1
 cases aE g2
 simp only[aan,aat,rS]at hp
 obtain⟨⟨eY,hi⟩,hx⟩:=hp
 refine⟨rfl,ag rfl ?_⟩
 clear h g0 g1 g2
 obtain⟨i,rfl⟩:=aaD hi.1
 have hi':i<65536:=by omega
 unfold Cf Cg
 simp only[dw]
 have kS:=λrows k=>kStep rows k s i 255 x eY hi' (by decide) hx
 rw[show((255:Nat):Int)=255 from rfl]at kS
 simp only[↓ah,aj,simprocAttr,aM,aO,cS,h1,kS]
 exact .val _ rfl
theorem N3(rows:Rows)(k:D->Rows->Prop)(s:Site)(i:Nat)(x:List (BitVec 8))(eY:s.id.length=16)(hi:i<65536)(hx:x.length=32):
  aI yQ rows k [dS s,.raw (it (i:Int)),.agg (.ar 32 L8) (bs x)]=k (.agg (.ar 32 L8) (bs (uJ s.id s.q i x))) rows:=by
 refine(fH (lQ s rows) (bk.int _) (iM x) (by simp[eY,hx,Bk];omega) rfl k).trans ?_
 simp[aO,shift,ab,Sh.pure]
noncomputable def yd:Fn:=gn5 (bx dS) tH tH tH (bx aO) (λs i a b x=>decide (s.id.length=16)&&Bk i 65536&&Bk a 257&&Bk b 257&&decide (x.length=32)) λs i a b x=>(aO (zn s.id s.q i.toNat (b.toNat-a.toNat) a.toNat x),[])
theorem chain_ok(C:bf)(hC:aJ C P)(h1:C.fn 160=some Jk):aN C.aX P 98 (Fn.run yd):=by
 refine aG (P0 C hC) λds rows r h=>?_
 obtain⟨d0,d1,d2,d3,d4,s,i,a,b,x,rfl,rfl,g0,g1,g2,g3,g4,hp,rfl⟩:=Qn h
 cases aE g0
 cases bK g1
 cases bK g2
 cases bK g3
 cases aE g4
 simp only[aan,aat,rS]at hp
 obtain⟨⟨⟨⟨eY,hi⟩,ha⟩,hb⟩,hx⟩:=hp
 refine⟨rfl,ag rfl ?_⟩
 clear h g0 g1 g2 g3 g4
 obtain⟨i,rfl⟩:=aaD hi.1
 obtain⟨a,rfl⟩:=aaD ha.1
 obtain⟨b,rfl⟩:=aaD hb.1
 have hi':i<65536:=by omega
 unfold FM FN
 simp only[dw]
 simp only[↓ah,aj,simprocAttr,aM,aO,cS,h1]
 have em:max (a:Int) 0=(a:Int):=by omega
 have eb:min (b:Int) 256=(b:Int):=by omega
 simp only[em]
 refine bg (b-a) (λj env rows=>has env [(11,.raw (it ((a+j:Nat):Int))),(10,.ptr (.ar 32 L8) 2 [0]),(9,.ptr (.ar 32 L8) 1 [0]),(5,.ptr nQ 0 [0]),(1,.raw (it (i:Int))),(3,.raw (it (b:Int)))]/\
  rows=[some ⟨nQ,[dS s]⟩,some ⟨.ar 32 L8,[.agg (.ar 32 L8) (bs (zn s.id s.q i j a x))]⟩,some ⟨.ar 32 L8,[.agg (.ar 32 L8) (bs qg)]⟩]) ?_ ?_ ⟨?_,rfl⟩
 ·rintro j hj env rows ⟨hh,rfl⟩ R hR
  simp only[has]at hh
  have e0:(((a+j:Nat):Int)<(b:Int))=True:=aas (by omega)
  have e1:wz (((a+j:Nat):Int)+1)=((a+(j+1):Nat):Int):=by rw[aZ (by omega)];omega
  have kS:=λrows k=>kStep rows k s i (a+j) _ eY hi' (by omega) (qu s.id s.q i j a x hx)
  simp only[↓ah,aj,simprocAttr,aM,hh,eb,e0,e1,cS,h1,kS,<-chS_succ]
  exact hR _ _ ⟨by simp only[has,↓ah,aj,simprocAttr,hh],rfl⟩
 ·rintro env rows ⟨hh,rfl⟩ R
  simp only[has]at hh
  have e0:(((a+(b-a):Nat):Int)<(b:Int))=False:=aax (by omega)
  simp only[↓ah,aj,simprocAttr,aM,hh,eb,e0]
  exact .val _ rfl
 ·simp only[has,↓ah,aj,simprocAttr]
  simp
theorem Jl(rows:Rows)(k:D->Rows->Prop)(s:Site)(i a b:Nat)(x:List (BitVec 8))(eY:s.id.length=16)(hi:i<65536)(ha:a<=256)(hb:b<=256)(hx:x.length=32):
  aI yd rows k [dS s,.raw (it (i:Int)),.raw (it (a:Int)),.raw (it (b:Int)),.agg (.ar 32 L8) (bs x)]=k (.agg (.ar 32 L8) (bs (zn s.id s.q i (b-a) a x))) rows:=by
 refine(Qo (lQ s rows) (bk.int _) (bk.int _) (bk.int _) (iM x) (by simp[eY,hx,Bk];omega) rfl k).trans ?_
 simp[aO,shift,ab,Sh.pure]
def dY(id:List (BitVec 8))(q:BitVec 32)(c msg:List (BitVec 8)):List (BitVec 8):=cM (id++bi q++eN 33153++c++msg)
noncomputable def Jm:Fn:=GY (bx dS) (bx aO) dB (λs c _=>decide (s.id.length=16)&&decide (c.length=32)) λs c m=>(aO (dY s.id s.q c m),[])
theorem mash_ok(C:bf)(hC:aJ C P)(h1:C.fn 161=some EP)(h2:C.fn 162=some TJ)(h3:C.fn 158=some td)(h4:C.fn 159=some vE):aN C.aX P 111 (Fn.run Jm):=by
 refine aG (To C hC) λds rows r h=>?_
 obtain⟨d0,d1,d2,s,c,m,rfl,rfl,g0,g1,g2,hp,rfl⟩:=fp h
 cases aE g0
 cases aE g1
 have gm:=dR g2
 simp only[aan,aat]at hp
 obtain⟨eY,hc⟩:=hp
 refine⟨rfl,ag rfl ?_⟩
 clear h g0 g1 g2
 unfold IF IG
 simp only[dw]
 have kT:=λrows k=>kTwo rows k 33153 (by decide)
 rw[show((33153:Nat):Int)=33153 from rfl]at kT
 simp only[↓ah,aj,simprocAttr,aM,aO,cS,h1,TM _ _ s eY,h2,kT,h3]
 refine Eq.mpr (lW _ _ _ _ (eN 33153) (aU.own rfl _ rfl) (qF s)) ?_
 simp only[↓ah,aj,simprocAttr,aM,h3]
 have o1:=fq (eN 33153) _ (qF s)
 refine Eq.mpr (lW _ _ _ _ c (aU.tf (n:=32) rfl rfl hc) o1) ?_
 simp only[↓ah,aj,simprocAttr,aM,h3]
 have o2:=fq c _ o1
 refine Eq.mpr (lW _ _ _ _ m gm.to o2) ?_
 have o3:=fq m _ o2
 simp only[↓ah,aj,simprocAttr,aM,h4,Bj _ _ _ o3]
 have e:pw (feed (feed (feed (l6 s) (eN 33153)) c) m)=dY s.id s.q c m:=by
  rw[dY,cM,l6,<-eu,<-eu,<-eu]
  simp only[aaC]
 rw[e]
 exact .val _ rfl
theorem Vz(rows:Rows)(k:D->Rows->Prop)(s:Site)(c m:List (BitVec 8))(d:D)(hd:aU rows d m)(eY:s.id.length=16)(hc:c.length=32):
  aI Jm rows k [dS s,.agg (.ar 32 L8) (bs c),d]=k (.agg (.ar 32 L8) (bs (dY s.id s.q c m))) rows:=by
 refine(fH (lQ s rows) (iM c) (.bs hd) (by simp[eY,hc]) rfl k).trans ?_
 simp[aO,shift,ab,Sh.pure]
theorem bk.dl{rows:Rows}{r n:Nat}{ex:Bool}{l:List (List (BitVec 8))}(hl:live rows r=some ⟨.ar 32 L8,l.map aO⟩)(hn:l.length=n):bk rows (oy (.ar 32 L8) aO) (.sl (.ar 32 L8) r [] 0 n ex) l:=by
 refine⟨⟨.cI (.ar 32 L8) (l.map aO) ex,?_,I4 yc l ex⟩,λh=>by simp[aR]at h⟩
 have:elems rows (.sl (.ar 32 L8) r [] 0 n ex)=some (l.map aO):=by
  simp only[elems,hl];simp[aaq,hn]
 simp only[view]
 rw[this]
 simp[Sh.pure,hn]
noncomputable def Qq:Fn:=tW (bx dS) (oy (.ar 32 L8) aO) (λs l=>decide (s.id.length=16)&&Jj l&&decide (l.length<=1000000)) λs l=>(aO (Dl s.id s.q l),[])
theorem fold_ok(C:bf)(hC:aJ C P)(h1:C.fn 161=some EP)(h2:C.fn 162=some TJ)(h3:C.fn 158=some td)(h4:C.fn 159=some vE):aN C.aX P 101 (Fn.run Qq):=by
 refine bU (Tl C hC) λds rows r h=>?_
 obtain⟨d0,d1,s,l,rfl,rfl,g0,g1,hp,rfl⟩:=cQ h
 cases aE g0
 obtain⟨ex,hx⟩:=uF g1
 simp only[aan,aat,py]at hp
 obtain⟨⟨eY,qE⟩,HD⟩:=hp
 refine⟨rfl,_,.cons (.refl _) (.cons hx .nil),ag rfl ?_⟩
 clear h g0 g1 hx
 unfold Iz IA
 simp only[dw,TL]
 have kT:=λrows k=>kTwo rows k 32896 (by decide)
 rw[show((32896:Nat):Int)=32896 from rfl]at kT
 simp only[↓ah,aj,simprocAttr,aM,aO,cS,nP,h1,TM _ _ s eY,h2,kT,h3]
 refine Eq.mpr (lW _ _ _ _ (eN 32896) (aU.own rfl _ rfl) (qF s)) ?_
 have o1:=fq (eN 32896) _ (qF s)
 simp only[↓ah,aj,simprocAttr,aM,nP,aaE]
 have hok:∀i,(feed (feed (l6 s) (eN 32896)) (l.take i).flatten).ok=true:=λi=>fq _ _ o1
 have e:pw (feed (feed (l6 s) (eN 32896)) (l.take l.length).flatten)=Dl s.id s.q l:=by
  rw[aaV,Dl,cM,l6,<-eu,<-eu]
  simp only[aaC]
 have hst:feed (feed (l6 s) (eN 32896)) (l.take 0).flatten=feed (l6 s) (eN 32896):=by rw[abL];rfl
 rw[<-hst]
 have hsucc:∀i (h:i<l.length),feed (feed (feed (l6 s) (eN 32896)) (l.take i).flatten) l[i]=feed (feed (l6 s) (eN 32896)) (l.take (i+1)).flatten:=λi h=>by
  rw[<-eu,aaR h,abU];simp
 generalize feed (l6 s) (eN 32896)=B at*
 refine bg l.length (λi env rows=>has env [(14,.raw (it (i:Int))),(13,.raw (it (l.length:Int))),(12,.cI (.ar 32 L8) (l.map aO) ex),(5,.ptr OT 3 [0]),(4,.ptr (.ar 32 L8) 1 [0])]/\
  live rows 3=some ⟨OT,[uG (feed B (l.take i).flatten)]⟩/\live rows 1=some ⟨.ar 32 L8,[.agg (.ar 32 L8) (bs qg)]⟩) ?_ ?_ ⟨?_,rfl,rfl⟩
 ·rintro i hi env rows ⟨hh,r3,r1⟩ R hR
  simp only[has]at hh
  have e0:((i:Int)<(l.length:Int))=True:=aas (by omega)
  have b0:∀n:Nat,((0:Int)<=(n:Int))=True:=λn=>aas (by omega)
  have e1:=ca i (by omega)
  have hx:=qE _ (abz hi)
  have g:(l.map aO)[i]?=some (.agg (.ar 32 L8) (bs l[i])):=by simp[aO,hi]
  have hs:=hsucc i hi
  generalize l[i]=xi at*
  have r3A:=λL=>ae r3 L
  simp only[↓ah,aj,simprocAttr,aM,hh,e0,e1,b0,aaE,g,r3A,h3]
  refine Eq.mpr (lW _ _ _ _ xi (aU.tf (n:=32) (by rw[bw];rfl) rfl hx) (hok i)) ?_
  rw[hs]
  simp only[↓ah,aj,simprocAttr,aM,hh,e1,r3A,nP]
  exact hR _ _ ⟨by simp only[has,↓ah,aj,simprocAttr,hh],aD (r3A _),df (ae r1 _) (by decide)⟩
 ·rintro env rows ⟨hh,r3,r1⟩ R
  simp only[has]at hh
  have e0:((l.length:Int)<(l.length:Int))=False:=aax (by omega)
  have w1:=λx=>aD (y:=x) r1
  simp only[↓ah,aj,simprocAttr,aM,hh,e0,r3,r1,h4,Bj _ _ _ (hok _),e,w1]
  exact .val _ rfl
 ·simp only[has,↓ah,aj,simprocAttr]
theorem kFold(rows:Rows)(k:D->Rows->Prop)(s:Site)(d:D)(l:List (List (BitVec 8)))(hd:bk rows (oy (.ar 32 L8) aO) d l)(eY:s.id.length=16)(qE:∀x∈l,x.length=32)(HD:l.length<=1000000):
  aI Qq rows k [dS s,d]=k (.agg (.ar 32 L8) (bs (Dl s.id s.q l))) rows:=by
 refine(gf (lQ s rows) hd (by simp[eY,py.2 qE,HD]) rfl k).trans ?_
 simp[aO,shift,ab,Sh.pure]
theorem Qr(m b:Nat)(kd:IntKind)(hb:b<=64)(hm:m*2^b<9223372036854775808)(k:D->Prop):cF .shl (it (m:Int)) (.int kd (b:Int)) k=k (.raw (it ((m*2^b:Nat):Int))):=by
 have e:IntKind.i64.wrap ((m:Int)*2^(min (b:Int).toNat IntKind.i64.bits))=((m*2^b:Nat):Int):=by
  have:min (b:Int).toNat IntKind.i64.bits=b:=by show min (b:Int).toNat 64=b;omega
  rw[this,show((2:Int)^b)=((2^b:Nat):Int) by simp,<-adk]
  exact aZ (by omega)
 simp only[cF,it]
 rw[e]
 simp
def w4(w:Nat):Bool:=decide (w=1)||decide (w=2)||decide (w=4)||decide (w=8)
theorem Ax{w:Nat}:w4 w=true↔w=1\/w=2\/w=4\/w=8:=by simp[w4];omega
noncomputable def X3:Fn:=mV (bx ib) (λx=>w4 x.w) λx=>(.raw (it ((2^x.w-1:Nat):Int)),[])
theorem end_ok(C:bf)(hC:aJ C P):aN C.aX P 99 (Fn.run X3):=by
 refine aG (Gw C hC) λds rows r h=>?_
 obtain⟨d,x,rfl,rfl,hd,hp,rfl⟩:=a8 h
 cases aE hd
 have hp:=Ax.1 hp
 refine⟨rfl,ag rfl ?_⟩
 clear h hd
 unfold vZ v5
 obtain⟨w,p,l⟩:=x
 have hf:∀x,(ib x).fits pz=true:=λx=>rfl
 have Sq:∀w p l,(ib ⟨w,p,l⟩).get [0]=some (.raw (it (w:Int))):=λw p l=>rfl
 have s1:∀k,cF .shl (it 1) (it 1) k=k (.raw (it 2)):=λk=>Qr 1 1 .i64 (by decide) (by decide) k
 have s2:∀k,cF .shl (it 1) (it 2) k=k (.raw (it 4)):=λk=>Qr 1 2 .i64 (by decide) (by decide) k
 have s4:∀k,cF .shl (it 1) (it 4) k=k (.raw (it 16)):=λk=>Qr 1 4 .i64 (by decide) (by decide) k
 have s8:∀k,cF .shl (it 1) (it 8) k=k (.raw (it 256)):=λk=>Qr 1 8 .i64 (by decide) (by decide) k
 rcases hp with rfl|rfl|rfl|rfl
 ·simp only[↓ah,aj,simprocAttr,aM,hf,Sq,s1]
  exact .val _ rfl
 ·simp only[↓ah,aj,simprocAttr,aM,hf,Sq,s2]
  exact .val _ rfl
 ·simp only[↓ah,aj,simprocAttr,aM,hf,Sq,s4]
  exact .val _ rfl
 ·simp only[↓ah,aj,simprocAttr,aM,hf,Sq,s8]
  exact .val _ rfl
theorem kEnd(rows:Rows)(k:D->Rows->Prop)(x:Par)(h:w4 x.w=true):aI X3 rows k [ib x]=k (.raw (it ((2^x.w-1:Nat):Int))) rows:=by
 refine(cO (rdIn_par x) h rfl k).trans ?_
 simp[shift,ab]
def dL(p:List (BitVec 8))(i w:Nat):Nat:=((p.getD (i/(8/w)) 0#8>>>(8-w*(i %(8/w))-w))&&&BitVec.ofNat 8 (2^w-1)).toNat
def hJ(p:List (BitVec 8))(i w:Int):Int:=if(w=1\/w=2\/w=4\/w=8)/\0<=i/\i<(p.length*(8/w.toNat):Nat)then(dL p i.toNat w.toNat:Int)else 0
def Qs:Fn:=GY dB tH tH (λp _ _=>decide (p.length<=1099511627776)) λp i w=>(.raw (it (hJ p i w)),[])
theorem coef_ok(C:bf)(hC:aJ C P):aN C.aX P 166 (Fn.run Qs):=by
 refine aG (Tw C hC) λds rows r h=>?_
 obtain⟨d,d1,d2,p,i,w,rfl,rfl,g0,g1,g2,hp,rfl⟩:=fp h
 have gb:=dR g0
 cases bK g1
 cases bK g2
 simp only[aat]at hp
 refine⟨rfl,ag rfl ?_⟩
 clear h g0 g1 g2
 have kf:=gb.dQ
 unfold IT IU
 have hfit:d.fits .ref=true:=by rcases gb with⟨rfl,_⟩|⟨e,rfl⟩<;>rfl
 by_cases c4:w=4
 ·subst c4
  by_cases h0:i<0
  ·have Dm:(i<0)=True:=aas h0
   have hz:hJ p i 4=0:=by rw[hJ,aaA (λh=>by omega)]
   rw[hz]
   simp only[↓ah,aj,simprocAttr,kf,Dm,aav]
   exact .val _ rfl
  have Dm:(i<0)=False:=aax h0
  obtain⟨i,rfl⟩:=aaD (aez.1 h0)
  have h84:wz (Int.tdiv 8 4)=2:=by decide
  have hm:wz ((p.length:Int)*2)=((p.length*2:Nat):Int):=by rw[aZ (by omega)];omega
  by_cases hc:i<p.length*2
  ·have eX:(((p.length*2:Nat):Int)<=(i:Int))=False:=aax (by omega)
   have hz:hJ p (i:Int) 4=(dL p i 4:Int):=by
    rw[hJ,aaI ⟨by decide,by omega,by show(i:Int)<((p.length*2:Nat):Int);omega⟩]
    rfl
   have hr:i %2<2:=ac5 _ (by decide)
   have q1:wz ((i:Int).tdiv 2)=((i/2:Nat):Int):=by rw[acf (by omega),aZ (by omega)];omega
   have q2:(i:Int).tmod 2=((i %2:Nat):Int):=by rw[abK (by omega)];omega
   have q3:wz (4*((i %2:Nat):Int))=((4*(i %2):Nat):Int):=by rw[aZ (by omega)];omega
   have q4:wz (8-((4*(i %2):Nat):Int))=((8-4*(i %2):Nat):Int):=by rw[aZ (by omega)];omega
   have q5:wz (((8-4*(i %2):Nat):Int)-4)=((8-4*(i %2)-4:Nat):Int):=by rw[aZ (by omega)];omega
   have b0:∀n:Nat,((0:Int)<=(n:Int))=True:=λn=>aas (by omega)
   have ki:=λk=>fX (k:=k) (rows:=([]:Rows)) (n:=((i/2:Nat):Int)) gb (by have:i/2<p.length:=acZ (by rw[adh];exact hc);omega)
   rw[hz]
   simp only[↓ah,aj,simprocAttr,kf,Dm,h84,hm,eX,q1,q2,q3,q4,q5,b0,ki,aaw,aaB]
   exact .val _ rfl
  ·have eX:(((p.length*2:Nat):Int)<=(i:Int))=True:=aas (by omega)
   have hz:hJ p (i:Int) 4=0:=by
    rw[hJ,aaA (λh=>by have h2:(i:Int)<((p.length*2:Nat):Int):=h.2.2;omega)]
   rw[hz]
   simp only[↓ah,aj,simprocAttr,kf,Dm,h84,hm,eX,aav,aaw]
   exact .val _ rfl
 have n4:(w=4)=False:=aax c4
 by_cases c1:w=1
 ·subst c1
  by_cases h0:i<0
  ·have Dm:(i<0)=True:=aas h0
   have hz:hJ p i 1=0:=by rw[hJ,aaA (λh=>by omega)]
   rw[hz]
   simp only[↓ah,aj,simprocAttr,kf,Dm,aav]
   exact .val _ rfl
  have Dm:(i<0)=False:=aax h0
  obtain⟨i,rfl⟩:=aaD (aez.1 h0)
  have h81:wz (Int.tdiv 8 1)=8:=by decide
  have hm:wz ((p.length:Int)*8)=((p.length*8:Nat):Int):=by rw[aZ (by omega)];omega
  by_cases hc:i<p.length*8
  ·have eX:(((p.length*8:Nat):Int)<=(i:Int))=False:=aax (by omega)
   have hz:hJ p (i:Int) 1=(dL p i 1:Int):=by
    rw[hJ,aaI ⟨by decide,by omega,by show(i:Int)<((p.length*8:Nat):Int);omega⟩]
    rfl
   have hr:i %8<8:=ac5 _ (by decide)
   have q1:wz ((i:Int).tdiv 8)=((i/8:Nat):Int):=by rw[acf (by omega),aZ (by omega)];omega
   have q2:(i:Int).tmod 8=((i %8:Nat):Int):=by rw[abK (by omega)];omega
   have q3:wz (1*((i %8:Nat):Int))=((1*(i %8):Nat):Int):=by rw[aZ (by omega)];omega
   have q4:wz (8-((1*(i %8):Nat):Int))=((8-1*(i %8):Nat):Int):=by rw[aZ (by omega)];omega
   have q5:wz (((8-1*(i %8):Nat):Int)-1)=((8-1*(i %8)-1:Nat):Int):=by rw[aZ (by omega)];omega
   have b0:∀n:Nat,((0:Int)<=(n:Int))=True:=λn=>aas (by omega)
   have ki:=λk=>fX (k:=k) (rows:=([]:Rows)) (n:=((i/8:Nat):Int)) gb (by have:i/8<p.length:=acZ (by rw[adh];exact hc);omega)
   rw[hz]
   simp only[↓ah,aj,simprocAttr,kf,Dm,h81,hm,eX,q1,q2,q3,q4,q5,b0,ki,aaw,aaB]
   exact .val _ rfl
  ·have eX:(((p.length*8:Nat):Int)<=(i:Int))=True:=aas (by omega)
   have hz:hJ p (i:Int) 1=0:=by
    rw[hJ,aaA (λh=>by have h2:(i:Int)<((p.length*8:Nat):Int):=h.2.2;omega)]
   rw[hz]
   simp only[↓ah,aj,simprocAttr,kf,Dm,h81,hm,eX,aav,aaw]
   exact .val _ rfl
 have n1:(w=1)=False:=aax c1
 by_cases c2:w=2
 ·subst c2
  by_cases h0:i<0
  ·have Dm:(i<0)=True:=aas h0
   have hz:hJ p i 2=0:=by rw[hJ,aaA (λh=>by omega)]
   rw[hz]
   simp only[↓ah,aj,simprocAttr,kf,Dm,aav]
   exact .val _ rfl
  have Dm:(i<0)=False:=aax h0
  obtain⟨i,rfl⟩:=aaD (aez.1 h0)
  have h82:wz (Int.tdiv 8 2)=4:=by decide
  have hm:wz ((p.length:Int)*4)=((p.length*4:Nat):Int):=by rw[aZ (by omega)];omega
  by_cases hc:i<p.length*4
  ·have eX:(((p.length*4:Nat):Int)<=(i:Int))=False:=aax (by omega)
   have hz:hJ p (i:Int) 2=(dL p i 2:Int):=by
    rw[hJ,aaI ⟨by decide,by omega,by show(i:Int)<((p.length*4:Nat):Int);omega⟩]
    rfl
   have hr:i %4<4:=ac5 _ (by decide)
   have q1:wz ((i:Int).tdiv 4)=((i/4:Nat):Int):=by rw[acf (by omega),aZ (by omega)];omega
   have q2:(i:Int).tmod 4=((i %4:Nat):Int):=by rw[abK (by omega)];omega
   have q3:wz (2*((i %4:Nat):Int))=((2*(i %4):Nat):Int):=by rw[aZ (by omega)];omega
   have q4:wz (8-((2*(i %4):Nat):Int))=((8-2*(i %4):Nat):Int):=by rw[aZ (by omega)];omega
   have q5:wz (((8-2*(i %4):Nat):Int)-2)=((8-2*(i %4)-2:Nat):Int):=by rw[aZ (by omega)];omega
   have b0:∀n:Nat,((0:Int)<=(n:Int))=True:=λn=>aas (by omega)
   have ki:=λk=>fX (k:=k) (rows:=([]:Rows)) (n:=((i/4:Nat):Int)) gb (by have:i/4<p.length:=acZ (by rw[adh];exact hc);omega)
   rw[hz]
   simp only[↓ah,aj,simprocAttr,kf,Dm,h82,hm,eX,q1,q2,q3,q4,q5,b0,ki,aaw,aaB]
   exact .val _ rfl
  ·have eX:(((p.length*4:Nat):Int)<=(i:Int))=True:=aas (by omega)
   have hz:hJ p (i:Int) 2=0:=by
    rw[hJ,aaA (λh=>by have h2:(i:Int)<((p.length*4:Nat):Int):=h.2.2;omega)]
   rw[hz]
   simp only[↓ah,aj,simprocAttr,kf,Dm,h82,hm,eX,aav,aaw]
   exact .val _ rfl
 have n2:(w=2)=False:=aax c2
 by_cases c8:w=8
 ·subst c8
  by_cases h0:i<0
  ·have Dm:(i<0)=True:=aas h0
   have hz:hJ p i 8=0:=by rw[hJ,aaA (λh=>by omega)]
   rw[hz]
   simp only[↓ah,aj,simprocAttr,kf,Dm,aav]
   exact .val _ rfl
  have Dm:(i<0)=False:=aax h0
  obtain⟨i,rfl⟩:=aaD (aez.1 h0)
  have h88:wz (Int.tdiv 8 8)=1:=by decide
  have hm:wz ((p.length:Int)*1)=((p.length*1:Nat):Int):=by rw[aZ (by omega)];omega
  by_cases hc:i<p.length*1
  ·have eX:(((p.length*1:Nat):Int)<=(i:Int))=False:=aax (by omega)
   have hz:hJ p (i:Int) 8=(dL p i 8:Int):=by
    rw[hJ,aaI ⟨by decide,by omega,by show(i:Int)<((p.length*1:Nat):Int);omega⟩]
    rfl
   have hr:i %1<1:=ac5 _ (by decide)
   have q1:wz ((i:Int).tdiv 1)=((i/1:Nat):Int):=by rw[acf (by omega),aZ (by omega)];omega
   have q2:(i:Int).tmod 1=((i %1:Nat):Int):=by rw[abK (by omega)];omega
   have q3:wz (8*((i %1:Nat):Int))=((8*(i %1):Nat):Int):=by rw[aZ (by omega)];omega
   have q4:wz (8-((8*(i %1):Nat):Int))=((8-8*(i %1):Nat):Int):=by rw[aZ (by omega)];omega
   have q5:wz (((8-8*(i %1):Nat):Int)-8)=((8-8*(i %1)-8:Nat):Int):=by rw[aZ (by omega)];omega
   have b0:∀n:Nat,((0:Int)<=(n:Int))=True:=λn=>aas (by omega)
   have ki:=λk=>fX (k:=k) (rows:=([]:Rows)) (n:=((i/1:Nat):Int)) gb (by have:i/1<p.length:=acZ (by rw[adh];exact hc);omega)
   rw[hz]
   simp only[↓ah,aj,simprocAttr,kf,Dm,h88,hm,eX,q1,q2,q3,q4,q5,b0,ki,aaw,aaB]
   exact .val _ rfl
  ·have eX:(((p.length*1:Nat):Int)<=(i:Int))=True:=aas (by omega)
   have hz:hJ p (i:Int) 8=0:=by
    rw[hJ,aaA (λh=>by have h2:(i:Int)<((p.length*1:Nat):Int):=h.2.2;omega)]
   rw[hz]
   simp only[↓ah,aj,simprocAttr,kf,Dm,h88,hm,eX,aav,aaw]
   exact .val _ rfl
 have n8:(w=8)=False:=aax c8
 have hz:hJ p i w=0:=by rw[hJ,aaA (λh=>by omega)]
 rw[hz]
 simp only[↓ah,aj,simprocAttr,n1,n2,n4,n8,aaw,aba]
 exact .val _ rfl
theorem X4{p:List (BitVec 8)}{i w:Nat}(hw:w4 w=true)(hi:i<p.length*(8/w)):hJ p (i:Int) (w:Int)=(dL p i w:Int):=by
 have h:=Ax.1 hw
 rw[hJ,aaI ⟨by omega,by omega,by rw[aaB];omega⟩]
 simp
theorem kCoef(rows:Rows)(k:D->Rows->Prop)(d:D)(p:List (BitVec 8))(i w:Int)(hd:aU rows d p)(hp:p.length<=1099511627776):aI Qs rows k [d,.raw (it i),.raw (it w)]=k (.raw (it (hJ p i w))) rows:=by
 refine(fH (.bs hd) (bk.int i) (bk.int w) (by simp[hp]) rfl k).trans ?_
 simp[shift,ab]
theorem kCoefN(rows:Rows)(k:D->Rows->Prop)(d:D)(p:List (BitVec 8))(i w:Nat)(hd:aU rows d p)(hp:p.length<=1099511627776)(hw:w4 w=true)(hi:i<p.length*(8/w)):aI Qs rows k [d,.raw (it (i:Int)),.raw (it (w:Int))]=k (.raw (it (dL p i w:Int))) rows:=by
 rw[kCoef rows k d p i w hd hp,X4 hw hi]
theorem Dn(p:List (BitVec 8))(i w:Nat)(hw:w4 w=true):dL p i w<=2^w-1:=by
 have h:∀x:BitVec 8,(x&&&BitVec.ofNat 8 (2^w-1)).toNat<=2^w-1:=λx=>by
  rw[ad1,aaK]
  refine abd Nat.and_le_right ?_
  exact Nat.mod_le _ _
 exact h _
def ni(d:List (BitVec 8))(w:Nat):Nat->Nat
 |0=>0
 |n+1=>ni d w n+(2^w-1-dL d n w)
theorem yR(d:List (BitVec 8))(w n:Nat):ni d w n<=n*(2^w-1):=by
 induction n with
 |zero=>simp[ni]
 |succ n ih=>rw[ni,adK];omega
def oz(x:Par)(d:List (BitVec 8)):List (BitVec 8):=d++eN (ni d x.w (256/x.w)*2^x.l)
def uL(x:Par)(d:List (BitVec 8))(n:Nat):List Nat:=(List.range n).map λi=>dL (oz x d) i x.w
def bV(t:Nat)(d:List (BitVec 8)):List Nat:=uL (lC t) d (pT t)
def sC(n:Nat):D:= .raw (it (n:Int))
def outI(l:List Nat):D×Rows:=(.sl LI 0 [] 0 l.length false,[some ⟨LI,l.map sC⟩])
def parOK(x:Par):Prop:=w4 x.w=true/\x.p<=34*(8/x.w)/\x.p<=265/\256/x.w*(2^x.w-1)*2^x.l<65536/\x.l<=7/\256/x.w<=32*(8/x.w)
theorem gI{t:Nat}(h:sr t=true):parOK (lC t):=by
 simp only[sr,aan,aat]at h
 have:t=1\/t=2\/t=3\/t=4:=by omega
 rcases this with rfl|rfl|rfl|rfl<;>exact⟨by decide,by decide,by decide,by decide,by decide,by decide⟩
theorem tdivN(a b:Nat)(ha:a<9223372036854775808):wz ((a:Int).tdiv (b:Int))=((a/b:Nat):Int):=by
 have h:a/b<=a:=adF _ _
 rw[acf (by omega),<-adt]
 generalize a/b=c at*
 exact aZ (by omega)
theorem iT.VA{s:Sh}{d:D}{rows:Rows}{els:List D}(h:iT s d rows els)(hs:s.pure=true):wF rows d (.sl s 0 [] 0 els.length false) [some ⟨s,els⟩]:=by
 rcases h with⟨rfl,rfl⟩|⟨r,ex,rfl,h⟩
 ·exact .nil0 s
 ·exact .own s r 0 _ ex false _ h hs (λh=>by cases h)
theorem app_arr{rows:Rows}{r i len:Nat}{q:List Nat}{old news:List D}{k:D->Rows->Prop}(he:elems rows (.sl L8 r (i::q) 0 len true)=some old)(hn:old.length=len)(hne:news.length≠0)(hb:len+news.length<=most)
  (hk:k (.sl L8 rows.length [] 0 (len+news.length) false) (rows++[some ⟨L8,old++news⟩])):wW rows L8 1 (.sl L8 r (i::q) 0 len true) news k:=by
 unfold wW
 rw[he]
 refine⟨rfl,hn,by rw[Nat.mul_one];exact hb,hb,?_⟩
 exact⟨rfl,λh=>absurd h hne,λ_=>hk⟩
noncomputable def vG:Fn:=tW qs (bx aO) (λ_ d=>decide (d.length=32)) λt d=>outI (bif sr t.toNat then bV t.toNat d else[])
theorem X5(C:bf)(hC:aJ C P)(h1:C.fn 37=some j8)(h2:C.fn 99=some X3)(h3:C.fn 166=some Qs)(h4:C.fn 162=some TJ):aN C.aX P 110 (Fn.run vG):=by
 refine aG (NE C hC) λds rows r h=>?_
 obtain⟨d0,d1,t,d,rfl,rfl,g0,g1,hp,rfl⟩:=cQ h
 cases dH g0
 cases aE g1
 simp only[aat]at hp
 refine⟨rfl,ag rfl ?_⟩
 clear h g0 g1
 unfold Cl Cm
 have hz:D.agg pz [.raw (it 0),.raw (it 0),.raw (it 0)]=ib ⟨0,0,0⟩:=rfl
 simp only[hz]
 cases hk:sr t.toNat
 ·have kP:=λrows k=>jJ rows k t
  rw[hk]at kP
  simp only[↓ah,aj,simprocAttr,aM,aO,h1,kP,cL,aba,aaM]
  exact .nil0 _
 ·have kP:=λrows k=>jJ rows k t
  have hx:=gI hk
  have hpt:pT t.toNat=(lC t.toNat).p:=rfl
  rw[bV,hpt]
  rw[hk]at kP
  generalize lC t.toNat=x at*
  obtain⟨hw,Mc,sq,hs,hl,qE⟩:=hx
  have kE:=λrows k=>kEnd rows k x hw
  have g0:(ib x).get [0]=some (.raw (it (x.w:Int))):=rfl
  have g1:(ib x).get [1]=some (.raw (it (x.p:Int))):=rfl
  have g2:(ib x).get [2]=some (.raw (it (x.l:Int))):=rfl
  have q1:wz (Int.tdiv 256 (x.w:Int))=((256/x.w:Nat):Int):=tdivN 256 x.w (by decide)
  have hw0:((x.w:Int)=0)=False:=aax (by have:=Ax.1 hw;omega)
  have hw0':((x.w:Int)≠0)=True:=aas (by have:=Ax.1 hw;omega)
  simp only[↓ah,aj,simprocAttr,aM,aO,h1,kP,cL,g0,q1,hw0,hw0',aa8,aaU]
  have hpw:2^x.w<=256:=by rcases Ax.1 hw with h|h|h|h<;>rw[h]<;>decide
  have h256:256/x.w<=256:=adF _ _
  have b0:∀n:Nat,((0:Int)<=(n:Int))=True:=λn=>aas (by omega)
  refine bg (256/x.w) (λi env rows=>has env [(22,.raw (it (i:Int))),(21,.raw (it ((256/x.w:Nat):Int))),(7,.raw (it (ni d x.w i:Int))),(5,.ptr pz 1 [0]),(3,.ptr (.ar 32 L8) 0 [0])]/\
   rows=[some ⟨.ar 32 L8,[.agg (.ar 32 L8) (bs d)]⟩,some ⟨pz,[ib x]⟩]) ?_ ?_ ⟨?_,rfl⟩
  ·rintro i hi env rows ⟨hh,rfl⟩ R hR
   simp only[has]at hh
   have e0:((i:Int)<((256/x.w:Nat):Int))=True:=aas (by omega)
   have e1:=ca i (by omega)
   have hc:=Dn d i x.w hw
   have kf:=yR d x.w i
   have hsl2:i*(2^x.w-1)<=256*255:=Nat.mul_le_mul (by omega) (by omega)
   have kc:=λk=>kCoefN [some ⟨.ar 32 L8,[.agg (.ar 32 L8) (bs d)]⟩,some ⟨pz,[ib x]⟩] k (.sl L8 0 [0] 0 32 true) d i x.w (aU.tf (n:=32) rfl rfl hp) (by omega) hw (by rw[hp];omega)
   have q2:wz (((2^x.w-1:Nat):Int)-(dL d i x.w:Int))=((2^x.w-1-dL d i x.w:Nat):Int):=by rw[aZ (by omega)];omega
   have q3:wz ((ni d x.w i:Int)+((2^x.w-1-dL d i x.w:Nat):Int))=(ni d x.w (i+1):Int):=by rw[aZ (by omega),ni];omega
   simp only[↓ah,aj,simprocAttr,aM,hh,e0,e1,cL,h2,kE,g0,h3,kc,q2,q3]
   exact hR _ _ ⟨by simp only[has,↓ah,aj,simprocAttr,hh],rfl⟩
  ·rintro env rows ⟨hh,rfl⟩ R
   simp only[has]at hh
   have e0:(((256/x.w:Nat):Int)<((256/x.w:Nat):Int))=False:=aax (by omega)
   have kf:=yR d x.w (256/x.w)
   have hbd:ni d x.w (256/x.w)*2^x.l<65536:=Nat.lt_of_le_of_lt (abF _ kf) hs
   have kS:=λk=>Qr (ni d x.w (256/x.w)) x.l .i64 (by omega) (by omega) k
   have kS':∀k,cF .shl (it (ni d x.w (256/x.w):Int)) (it (x.l:Int)) k=k (.raw (it ((ni d x.w (256/x.w)*2^x.l:Nat):Int))):=kS
   have kT:=λrows k=>kTwo rows k _ hbd
   have my:(oz x d).length=34:=by rw[oz,aao,hp];rfl
   have hfd:bs d++bs (eN (ni d x.w (256/x.w)*2^x.l))=bs (oz x d):=j3 _ _
   have ea:∀L ex,elems ([some ⟨.ar 32 L8,[.agg (.ar 32 L8) (bs d)]⟩,some ⟨pz,[ib x]⟩]++L) (.sl L8 0 [0] 0 32 ex)=some (bs d):=λL ex=>oP (n:=32) rfl rfl hp
   simp only[↓ah,aj,simprocAttr,aM,hh,e0,cL,g2,kS',h4,kT]
   have tk:∀m,List.take 2 (bs (eN m))=bs (eN m):=λm=>rfl
   have bl:∀m,(bs (eN m)).length=2:=λm=>rfl
   rw[tk]
   refine⟨rfl,app_arr (oP (n:=32) rfl rfl hp) (by rw[aB];exact hp) (by rw[bl];decide) (by rw[bl];decide) ?_⟩
   rw[hfd,bl]
   simp only[↓ah,aj,simprocAttr,aM,hh,cL,g1]
   refine⟨by omega,by omega,by omega,?_⟩
   have pU:∀i,(uL x d i).length=i:=λi=>by simp[uL]
   have hds:∀i,(uL x d i).map sC++[.raw (it (dL (oz x d) i x.w:Int))]=(uL x d (i+1)).map sC:=λi=>by simp[uL,abN,sC]
   refine bg x.p (λi env rows=>has env [(48,.raw (it (i:Int))),(47,.raw (it (x.p:Int))),(9,.sl L8 3 [] 0 34 false),(5,.ptr pz 1 [0])]/\
    live rows 3=some ⟨L8,bs (oz x d)⟩/\live rows 1=some ⟨pz,[ib x]⟩/\∃d',look env 10=some d'/\iT LI d' rows ((uL x d i).map sC)) ?_ ?_ ⟨?_,rfl,rfl,.sl LI 4 [] 0 0 (decide (0=(x.p:Int))),?_,.inr ⟨4,_,rfl,rfl⟩⟩
   ·clear hh
    rintro i hi env rows ⟨hh,r3,r1,d',h10,hO⟩ R hR
    simp only[has]at hh
    have e0:((i:Int)<(x.p:Int))=True:=aas (by omega)
    have e1:=ca i (by omega)
    have kc:=λk=>kCoefN rows k (.sl L8 3 [] 0 34 false) (oz x d) i x.w (aU.own r3 _ my.symm) (by omega) hw (by rw[my];omega)
    have eb:∀v ex,elems (rows++[some ⟨LI,[.raw (it v)]⟩]) (.sl LI rows.length [] 0 1 ex)=some [.raw (it v)]:=λv ex=>by
     have:live (rows++[some ⟨LI,[.raw (it v)]⟩]) rows.length=some ⟨LI,[.raw (it v)]⟩:=by rw[bw];rfl
     simp only[elems,this];rfl
    simp only[↓ah,aj,simprocAttr,aM,hh,e0,e1,h10,cL,r1,g0,h3,kc,eb]
    refine iq hO.push (by rw[aaE,pU];simp[most];omega) (by rw[aaE,pU];simp[most];omega) λd2 aa F6 qo wv _=>?_
    rw[hds]at F6
    have r3':=qo 3 _ (ae r3 _) (λex=>jI hO r3 (by decide) ex _)
    have r1':=qo 1 _ (ae r1 _) (λex=>jI hO r1 (by decide) ex _)
    simp only[↓ah,aj,simprocAttr,aM,hh,e1]
    exact hR _ _ ⟨by simp only[has,↓ah,aj,simprocAttr,hh],r3',r1',d2,by simp only[↓ah,aj,simprocAttr],F6⟩
   ·clear hh
    rintro env rows ⟨hh,r3,r1,d',h10,hO⟩ R
    simp only[has]at hh
    have e0:((x.p:Int)<(x.p:Int))=False:=aax (by omega)
    simp only[↓ah,aj,simprocAttr,aM,hh,e0,h10,hO.pM]
    have:=iT.VA hO rfl
    rw[aaE]at this
    exact this
   ·simp only[has,↓ah,aj,simprocAttr,hh]
   ·simp only[↓ah,aj,simprocAttr]
  ·simp only[has,↓ah,aj,simprocAttr]
   rfl
theorem G6(rows:Rows)(k:D->Rows->Prop)(t:BitVec 32)(d:List (BitVec 8))(hd:d.length=32)(ht:sr t.toNat=true):
  aI vG rows k [.raw (u32 t),.agg (.ar 32 L8) (bs d)]=k (.sl LI (0+rows.length) [] 0 (pT t.toNat) false) (rows++[some ⟨LI,(bV t.toNat d).map sC⟩]):=by
 refine(gf (bk.raw (eO t)) (iM d) (by simp[hd]) rfl k).trans ?_
 have hl:(bV t.toNat d).length=pT t.toNat:=by simp[bV,uL]
 simp[ht,outI,shift,ab,Sh.pure,hl]
def zo(t:Nat)(s:Site)(aF:List (BitVec 8)):List (BitVec 8):=Dl s.id s.q (jE s.id s.q aF (2^wT t-1) (pT t))
theorem bk.dlOwn{rows:Rows}{d:D}{l:List (List (BitVec 8))}(h:iT (.ar 32 L8) d rows (l.map aO)):bk rows (oy (.ar 32 L8) aO) d l:=by
 rcases h with⟨h,rfl⟩|⟨r,ex,rfl,h⟩
 ·have:l=[]:=by cases l with|nil=>rfl|cons x l=>cases h
  subst this
  exact bk.raw (by rfl)
 ·exact bk.dl h (by rw[aaE])
theorem EQ{w:Nat}(h:w4 w=true):2^w<=256:=by rcases Ax.1 h with h|h|h|h<;>rw[h]<;>decide
theorem X6{s:Sh}{rows:Rows}{d:D}(ex:Bool):elems (rows++[some ⟨s,[d]⟩]) (.sl s rows.length [] 0 1 ex)=some [d]:=by
 have:live (rows++[some ⟨s,[d]⟩]) rows.length=some ⟨s,[d]⟩:=by rw[bw];rfl
 simp only[elems,this];rfl
noncomputable def Dp:Fn:=GY qs (bx dS) (bx aO) (λ_ s x=>decide (s.id.length=16)&&decide (x.length=32)) λt s x=>bif sr t.toNat then(.cA [aO (zo t.toNat s x),.raw (it 0)],[])else(.cA [aO qg,.raw (it 6)],[])
theorem X7(C:bf)(hC:aJ C P)(h1:C.fn 37=some j8)(h2:C.fn 99=some X3)(h3:C.fn 100=some yQ)(h4:C.fn 98=some yd)(h5:C.fn 101=some Qq):aN C.aX P 39 (Fn.run Dp):=by
 refine aG (Ny C hC) λds rows r h=>?_
 obtain⟨d0,d1,d2,t,s,aF,rfl,rfl,g0,g1,g2,hp,rfl⟩:=fp h
 cases dH g0
 cases aE g1
 cases aE g2
 simp only[aan,aat]at hp
 obtain⟨eY,n9⟩:=hp
 clear h g0 g1 g2
 have hz:D.agg pz [.raw (it 0),.raw (it 0),.raw (it 0)]=ib ⟨0,0,0⟩:=rfl
 have kP:=λrows k=>jJ rows k t
 cases hk:sr t.toNat
 ·rw[hk]at kP
  refine⟨rfl,ag rfl ?_⟩
  unfold vt vu
  simp only[hz,dw]
  simp only[↓ah,aj,simprocAttr,aM,aO,h1,kP,cL,cS,aba,aaM]
  exact .val _ rfl
 ·have hx:=gI hk
  have ew:wT t.toNat=(lC t.toNat).w:=rfl
  have ep:pT t.toNat=(lC t.toNat).p:=rfl
  have hps:zo t.toNat s aF=Dl s.id s.q (jE s.id s.q aF (2^(lC t.toNat).w-1) (lC t.toNat).p):=rfl
  rw[hps]
  rw[hk]at kP
  refine⟨rfl,ag rfl ?_⟩
  unfold vt vu
  simp only[hz,dw]
  generalize lC t.toNat=x at*
  obtain⟨hw,Mc,sq,hs,hl,qE⟩:=hx
  have hpw:=EQ hw
  have kE:=λrows k=>kEnd rows k x hw
  have g1:(ib x).get [1]=some (.raw (it (x.p:Int))):=rfl
  simp only[↓ah,aj,simprocAttr,aM,aO,h1,kP,cL,cS,g1,aa8,aaU]
  refine⟨by omega,by omega,by omega,?_⟩
  have hds:∀i,(jE s.id s.q aF (2^x.w-1) i).map aO++[.agg (.ar 32 L8) (bs (zn s.id s.q i (2^x.w-1-0) 0 (uJ s.id s.q i aF)))]=(jE s.id s.q aF (2^x.w-1) (i+1)).map aO:=λi=>by simp[jE,abN,aO]
  have pU:∀i,(jE s.id s.q aF (2^x.w-1) i).length=i:=λi=>by simp[jE]
  refine bg x.p (λi env rows=>has env [(25,.raw (it (i:Int))),(24,.raw (it (x.p:Int))),(8,.ptr pz 3 [0]),(6,.ptr (.ar 32 L8) 2 [0]),(5,.ptr (.ar 32 L8) 1 [0]),(4,.ptr nQ 0 [0])]/\
   live rows 0=some ⟨nQ,[dS s]⟩/\live rows 1=some ⟨.ar 32 L8,[.agg (.ar 32 L8) (bs aF)]⟩/\live rows 2=some ⟨.ar 32 L8,[.agg (.ar 32 L8) (bs qg)]⟩/\live rows 3=some ⟨pz,[ib x]⟩/\
   ∃d',look env 10=some d'/\iT (.ar 32 L8) d' rows ((jE s.id s.q aF (2^x.w-1) i).map aO)/\(∀r ex n,d'= .sl (.ar 32 L8) r [] 0 n ex->4<=r)) ?_ ?_ ⟨?_,rfl,rfl,rfl,rfl,.sl (.ar 32 L8) 4 [] 0 0 (decide (0=(x.p:Int))),?_,.inr ⟨4,_,rfl,rfl⟩,λr ex n h=>?_⟩
  ·rintro i hi env rows ⟨hh,r0,r1,r2,r3,d',h10,hO,hne⟩ R hR
   simp only[has]at hh
   have e0:((i:Int)<(x.p:Int))=True:=aas (by omega)
   have e1:=ca i (by omega)
   have kS:=λrows k=>N3 rows k s i aF eY (by omega) n9
   have kC:=λrows k=>Jl rows k s i 0 (2^x.w-1) (uJ s.id s.q i aF) eY (by omega) (by decide) (by omega) (ij _ _ _ _ _)
   rw[show((0:Nat):Int)=0 from rfl]at kC
   have lt3:=bb r3
   simp only[↓ah,aj,simprocAttr,aM,hh,e0,e1,h10,cL,cS,r0,r1,r3,h2,kE,h3,kS,h4,kC,X6]
   refine uH hO.push (by rw[aaE,pU];simp[most];omega) (by rw[aaE,pU];simp[most];omega) λaa nV qo wv=>?_
   rw[hds,aao]at nV
   have nV:live aa (rows.length+1)=_:=nV
   have hfr':∀r row,r<4->live rows r=some row->live aa r=some row:=λr row hr hl=>qo r row (ae hl _) (λex n e=>by have:=hne _ _ _ e;omega)
   simp only[↓ah,aj,simprocAttr,aM,hh,e1]
   exact hR _ _ ⟨by simp only[has,↓ah,aj,simprocAttr,hh],hfr' 0 _ (by omega) r0,hfr' 1 _ (by omega) r1,hfr' 2 _ (by omega) r2,hfr' 3 _ (by omega) r3,.sl (.ar 32 L8) (rows.length+1) [] 0 ((jE s.id s.q aF (2^x.w-1) i).length+1) false,by simp only[↓ah,aj,simprocAttr],.inr ⟨_,false,by rw[aaE,pU,pU],nV⟩,λr ex n e=>by injection e with _ e;omega⟩
  ·rintro env rows ⟨hh,r0,r1,r2,r3,d',h10,hO,hne⟩ R
   simp only[has]at hh
   have e0:((x.p:Int)<(x.p:Int))=False:=aax (by omega)
   have w2:=λy=>aD (y:=y) r2
   simp only[↓ah,aj,simprocAttr,aM,hh,e0,h10,r0,cS,h5]
   refine Eq.mpr (kFold _ _ s _ _ (bk.dlOwn hO) eY (ends_len _ _ _ _ _) (by rw[pU];omega)) ?_
   simp only[↓ah,aj,simprocAttr,aM,hh,r2,w2]
   exact .val _ rfl
  ·simp only[has,↓ah,aj,simprocAttr]
  ·simp only[↓ah,aj,simprocAttr]
  ·injection h with _ h;omega
theorem VB(rows:Rows)(k:D->Rows->Prop)(t:BitVec 32)(s:Site)(x:List (BitVec 8))(eY:s.id.length=16)(hx:x.length=32)(ht:sr t.toNat=true):
  aI Dp rows k [.raw (u32 t),dS s,.agg (.ar 32 L8) (bs x)]=k (.cA [.agg (.ar 32 L8) (bs (zo t.toNat s x)),.raw (it 0)]) rows:=by
 refine(fH (bk.raw (eO t)) (lQ s rows) (iM x) (by simp[eY,hx]) (by simp[ht,cj,jG,aO,Sh.pure,be]) k).trans ?_
 simp[ht,aO,shift,bB,ab,Sh.pure]
def yf:Fn:=tW dB dB (λa b=>Nat.ble a.length most&&Nat.ble b.length most) λa b=>(.raw (.bool (decide (a=b))),[])
theorem equal_ok(C:bf)(hC:aJ C P):aN C.aX P 94 (Fn.run yf):=by
 refine bU (KO C hC) λds rows r h=>?_
 obtain⟨d,e,a,b,rfl,rfl,hd,he,hp,rfl⟩:=cQ h
 obtain⟨x,hx⟩:=cb hd
 obtain⟨y,hy⟩:=cb he
 refine⟨rfl,_,.cons hx (.cons hy .nil),ag rfl ?_⟩
 unfold zX zY
 simp only[↓ah,aj,simprocAttr,amC]
 refine⟨ez.fa (.inr ⟨x,rfl⟩),?_⟩
 simp only[GZ,↓ah,aj,simprocAttr]
 refine⟨ez.fa (.inr ⟨y,rfl⟩),?_⟩
 simp only[ByteArray.toList_eq,aec,TA]
 exact .val _ rfl
theorem Bl(rows:Rows)(k:D->Rows->Prop)(d e:D)(p q:List (BitVec 8))(h:aU rows d p)(h':aU rows e q)(hp:p.length<=1099511627776)(hq:q.length<=1099511627776):aI yf rows k [d,e]=k (.raw (.bool (decide (p=q)))) rows:=by
 refine(En h h' (by simpa[most]using⟨hp,hq⟩) rfl).trans ?_
 simp[shift,ab]
structure JS where
 q:BitVec 32
 a:Int
 t:Int
 n:Int
 deriving DecidableEq
abbrev SJ:Sh:= .cons cJ (.cons LI (.cons LI (.cons LI .nil)))
def jD(s:JS):D:= .agg SJ [.raw (u32 s.q),.raw (it s.a),.raw (it s.t),.raw (it s.n)]
theorem Bm(x y:JS)(h:jD x=jD y):x=y:=by
 obtain⟨a,b,c,d⟩:=x
 obtain⟨a',b',c',d'⟩:=y
 simp only[jD,D.agg.injEq,abC,D.raw.injEq,Ik,BU,acg,aa2]at h
 obtain⟨rfl,rfl,rfl,rfl⟩:=h
 rfl
theorem TN(s:JS):aR (jD s)=false:=rfl
theorem cN(s:JS):(jD s).fits SJ=true:=rfl
theorem Jn(n:Nat)(s:JS):shift n (jD s)=jD s:=by simp[jD,shift,Sh.pure]
theorem Jo(s:JS):(jD s).get [0]=some (.raw (u32 s.q)):=rfl
theorem F7(s:JS):(jD s).get [1]=some (.raw (it s.a)):=rfl
theorem jD_g2(s:JS):(jD s).get [2]=some (.raw (it s.t)):=rfl
theorem VC(s:JS):(jD s).get [3]=some (.raw (it s.n)):=rfl
theorem TO(a b:JS):eqA SJ (jD a) (jD b)=some (decide (a=b)):=by
 obtain⟨q,x,y,z⟩:=a
 obtain⟨q',x',y',z'⟩:=b
 have qE:∀p p':BitVec 32,(p.toNat:Int)=(p'.toNat:Int)↔p=p':=λp p'=>⟨λh=>aaG (by omega),λh=>by rw[h]⟩
 simp only[jD,eqA,ab3,ach,aaU,yz,y6,jF,u32,it,JS.mk.injEq]
 by_cases h1:q=q'<;>by_cases h2:x=x'<;>by_cases h3:y=y'<;>by_cases h4:z=z'<;>simp[h1,h2,h3,h4,qE]
def lD(i:Int):Bool:=decide (i=0)||decide (i=1)
def Dq:Fn:=mV tH (λ_=>true) λi=>(.raw (.bool (lD i)),[])
theorem slot_ok(C:bf)(hC:aJ C P):aN C.aX P 120 (Fn.run Dq):=by
 refine aG (II C hC) λds rows r h=>?_
 obtain⟨d,i,rfl,rfl,hd,hp,rfl⟩:=a8 h
 cases bK hd
 refine⟨rfl,ag rfl ?_⟩
 clear h hd
 unfold xS xT lD
 by_cases c:i=0
 ·have c1:(i=0)=True:=aas c
  simp only[↓ah,aj,simprocAttr,c1,aav,adS]
  exact .val _ rfl
 ·have c1:(i=0)=False:=aax c
  simp only[↓ah,aj,simprocAttr,c1,aaw,acy]
  exact .val _ rfl
theorem kSlot(rows:Rows)(k:D->Rows->Prop)(i:Int):aI Dq rows k [.raw (it i)]=k (.raw (.bool (lD i))) rows:=by
 refine(a9 rfl (eK (lc i) rfl)).trans ?_
 simp[shift,ab]
def eV(s:JS):Bool:=lD s.a&&(lD s.t||(decide (s.t=-1)&&decide (s.n=0)))&&decide (0<=s.n)&&decide (s.n<=3)
noncomputable def qv:Fn:=mV (bx jD) (λ_=>true) λs=>(.raw (.bool (eV s)),[])
theorem X8(C:bf)(hC:aJ C P)(hs:C.fn 120=some Dq):aN C.aX P 59 (Fn.run qv):=by
 refine aG (wG C hC) λds rows r h=>?_
 obtain⟨d,s,rfl,rfl,hd,hp,rfl⟩:=a8 h
 cases aE hd
 refine⟨rfl,ag rfl ?_⟩
 clear h hd
 obtain⟨q,a,t,n⟩:=s
 unfold oh oo
 rcases ac0 (t=-1)with c1|c1<;>rcases ac0 (n=0)with c2|c2<;>rcases ac0 (0<=n)with c3|c3<;>rcases ac0 (n<=3)with c4|c4<;>
  (have e1:=c1;have e2:=c2;have e3:=c3;have e4:=c4
   first|replace e1:=aax e1|replace e1:=aas e1
   first|replace e2:=aax e2|replace e2:=aas e2
   first|replace e3:=aax e3|replace e3:=aas e3
   first|replace e4:=aax e4|replace e4:=aas e4
   clear c1 c2 c3 c4
   cases h1:lD t<;>cases h2:lD a<;>
    (simp only[↓ah,aj,simprocAttr,jD,eV,hs,kSlot,h1,h2,e1,e2,e3,e4,aav,aaw];exact .val _ rfl))
theorem TP(C:bf)(hC:aJ C P):aN C.aX P 16 (Fn.run qv):=by
 refine aG (KD C hC) λds rows r h=>?_
 obtain⟨d,s,rfl,rfl,hd,hp,rfl⟩:=a8 h
 cases aE hd
 refine⟨rfl,ag rfl ?_⟩
 clear h hd
 obtain⟨q,a,t,n⟩:=s
 unfold zC zD
 rcases ac0 (a<0)with c0|c0
 ·have e0:=aas c0
  have h2:lD a=false:=by unfold lD;rw[aaJ (by omega),aaJ (by omega)];rfl
  simp only[↓ah,aj,simprocAttr,jD,eV,h2,e0,aav,aaw]
  exact .val _ rfl
 rcases ac0 (1<a)with c1|c1
 ·have e0:=aax c0
  have e1:=aas c1
  have h2:lD a=false:=by unfold lD;rw[aaJ (by omega),aaJ (by omega)];rfl
  simp only[↓ah,aj,simprocAttr,jD,eV,h2,e0,e1,aav,aaw]
  exact .val _ rfl
 have e0:=aax c0
 have e1:=aax c1
 have h2:lD a=true:=by
  unfold lD
  have:a=0\/a=1:=by omega
  rcases this with rfl|rfl<;>rfl
 rcases ac0 (n<0)with c3|c3
 ·have e3:=aas c3
  have e4:(0<=n)=False:=aax (by omega)
  simp only[↓ah,aj,simprocAttr,jD,eV,h2,e0,e1,e3,e4,aav,aaw]
  try simp only[acK,abQ]
  exact .val _ rfl
 rcases ac0 (3<n)with c5|c5
 ·have e3:=aax c3
  have e4:(0<=n)=True:=aas (by omega)
  have e5:=aas c5
  have e6:(n<=3)=False:=aax (by omega)
  simp only[↓ah,aj,simprocAttr,jD,eV,h2,e0,e1,e3,e4,e5,e6,aav,aaw]
  try simp only[acK,abQ]
  exact .val _ rfl
 have e3:=aax c3
 have e4:(0<=n)=True:=aas (by omega)
 have e5:=aax c5
 have e6:(n<=3)=True:=aas (by omega)
 have hR:∀b:Bool,((lD t||(decide (t=-1)&&decide (n=0)))=b)->eV ⟨q,a,t,n⟩=b:=λb hb=>by
  simp only[eV,h2,hb]
  rw[aaY (by omega:0<=n),aaY (by omega:n<=3)]
  cases b<;>rfl
 rcases(by omega:t=-1\/t=0\/t=1\/(t≠-1/\t≠0/\t≠1))with rfl|rfl|rfl|⟨g1,g2,g3⟩
 ·rcases ac0 (n=0)with c2|c2
  ·have f2:=aas c2
   have:=hR true (by rw[aaY c2];rfl)
   simp only[↓ah,aj,simprocAttr,jD,this,e0,e1,e3,e5,f2,aav,aaw]
   exact .val _ rfl
  ·have f2:=aax c2
   have:=hR false (by rw[aaJ c2];rfl)
   simp only[↓ah,aj,simprocAttr,jD,this,e0,e1,e3,e5,f2,aav,aaw]
   exact .val _ rfl
 ·have:=hR true rfl
  simp only[↓ah,aj,simprocAttr,jD,this,e0,e1,e3,e5,aav,aaw]
  exact .val _ rfl
 ·have:=hR true rfl
  simp only[↓ah,aj,simprocAttr,jD,this,e0,e1,e3,e5,aav,aaw]
  exact .val _ rfl
 ·have f1:=aax g1
  have f2:=aax g2
  have f3:=aax g3
  have:=hR false (by unfold lD;rw[aaJ g1,aaJ g2,aaJ g3];rfl)
  simp only[↓ah,aj,simprocAttr,jD,this,e0,e1,e3,e5,f1,f2,f3,aav,aaw]
  exact .val _ rfl
theorem VD(rows:Rows)(k:D->Rows->Prop)(s:JS):aI qv rows k [jD s]=k (.raw (.bool (eV s))) rows:=by
 refine(a9 (by simp[aW,TN]) (r:=(.raw (.bool (eV s)),[])) ?_).trans ?_
 ·rw[qv,eK (br Bm s) rfl]
 ·simp[shift,ab]
theorem right_bd{s:JS}(h:eV s=true):∃a t n:Nat,s.a=a/\s.t=(t:Int)-1/\s.n=n/\a<=1/\t<=2/\n<=3:=by
 simp only[eV,lD,aan,abI,aat]at h
 obtain⟨⟨⟨h1,h2⟩,h3⟩,h4⟩:=h
 exact⟨s.a.toNat,(s.t+1).toNat,s.n.toNat,by omega,by omega,by omega,by omega,by omega,by omega⟩
def bctl:List (BitVec 8):=[66#8,67#8,84#8,76#8]
def tailJ(s:JS):List (BitVec 8):=[BitVec.ofInt 8 s.a,BitVec.ofInt 8 (s.t+1),BitVec.ofInt 8 s.n,0#8]
def ER(s:JS):List (BitVec 8):=bctl++(bi s.q++tailJ s)
def gq(s:JS):List (BitVec 8):=ER s++(cM (ER s)).take 20
theorem N4(s:JS):(ER s).length=12:=rfl
theorem VE(p:List (BitVec 8)):((cM p).take 20).length=20:=by rw[aau,cm];rfl
theorem oQ(s:JS):(gq s).length=32:=by rw[gq,aao,N4,VE]
noncomputable def tj:Fn:=mV (bx jD) (λ_=>true) λs=>bif eV s then dF (gq s) false else(.raw (.slice none 0 0),[])
theorem X9(C:bf)(hC:aJ C P)(hr:C.fn 59=some qv)(hs:C.fn 95=some Di):aN C.aX P 60 (Fn.run tj):=by
 refine aG (wH C hC) λds rows r h=>?_
 obtain⟨d,s,rfl,rfl,hd,hp,rfl⟩:=a8 h
 cases aE hd
 refine⟨rfl,ag rfl ?_⟩
 clear h hd hp
 unfold oq ot
 have kr:=λrows k=>VD rows k s
 cases hk:eV s
 ·rw[hk]at kr
  simp only[↓ah,aj,simprocAttr,cN,hr,kr,aaM]
  exact .val _ rfl
 ·rw[hk]at kr
  obtain⟨a,t,n,ha,ht,hn,b1,b2,b3⟩:=right_bd hk
  have w:wz (s.t+1)=s.t+1:=aZ (by omega)
  simp only[↓ah,aj,simprocAttr,aM,cN,Jo,F7,jD_g2,VC,w,hr,kr,aaU]
  have hpre:[D.raw (u8 66#8),D.raw (u8 67#8),D.raw (u8 84#8),D.raw (u8 76#8),.raw (u8 ((s.q>>>24).setWidth 8)),.raw (u8 ((s.q>>>16).setWidth 8)),.raw (u8 ((s.q>>>8).setWidth 8)),.raw (u8 (s.q.setWidth 8)),.raw (u8 (BitVec.ofInt 8 s.a)),.raw (u8 (BitVec.ofInt 8 (s.t+1))),.raw (u8 (BitVec.ofInt 8 s.n)),.raw (u8 0#8)]=bs (ER s):=rfl
  rw[hpre]
  have pl:(bs (ER s)).length=12:=rfl
  have my:[ER s].flatten=ER s:=by simp
  simp only[hs]
  refine Eq.mpr (N0 _ _ 4 1 _ _ [ER s] rfl rfl (.cons (aU.own (l:=ER s) rfl 12 rfl) .nil) (by simp) (by rw[my,N4];omega)) ?_
  rw[my]
  have kf:(bs (cM (ER s))).length=32:=by rw[aB,cm]
  have NY:gq s=ER s++(cM (ER s)).take 20:=rfl
  have FB:=oQ s
  have OU:=N4 s
  generalize gq s=B at NY FB⊢
  generalize ER s=p at NY kf pl OU⊢
  have e20:(bs ((cM p).take 20)).length=20:=by rw[aB,VE]
  have t12:p.take 12=p:=aaq (by omega)
  simp only[↓ah,aj,simprocAttr,kf,el_sp,Qe,abi,dO,e20,t12,pl]
  rw[j3,<-NY]
  have hO:dF B false=(.sl L8 0 [] 0 32 false,[some ⟨L8,bs B⟩]):=by rw[dF,FB]
  rw[hO]
  exact .own L8 6 0 32 false false _ rfl rfl id
theorem VF(rows:Rows)(k:D->Rows->Prop)(s:JS)(h:eV s=true):aI tj rows k [jD s]=k (.sl L8 (0+rows.length) [] 0 32 false) (rows++[some ⟨L8,bs (gq s)⟩]):=by
 refine(a9 (by simp[aW,TN]) (r:=dF (gq s) false) ?_).trans ?_
 ·rw[tj,eK (br Bm s) rfl,h];rfl
 ·simp[dF,shift,ab,oQ,Sh.pure]
theorem kBytesN(rows:Rows)(k:D->Rows->Prop)(s:JS)(h:eV s=false):aI tj rows k [jD s]=k (.raw (.slice none 0 0)) rows:=by
 refine(a9 (by simp[aW,TN]) (r:=(.raw (.slice none 0 0),[])) ?_).trans ?_
 ·rw[tj,eK (br Bm s) rfl,h];rfl
 ·simp[shift,ab]
abbrev DX:Sh:= .cons cJ (.cons LB .nil)
abbrev Kq:Sh:= .cons .ref .nil
abbrev TQ:Sh:= .cons .ref (.cons LB .nil)
abbrev Wd:=BitVec 32×Bool
def DY(p:Wd):D:= .agg DX [.raw (u32 p.1),.raw (.bool p.2)]
structure rU where
 ws:List Wd
 e:Bool
 s:Bool
abbrev rU.w(c:rU):List (BitVec 32):=c.ws.map (·.1)
def arV(c:rU):D:= .cd (.agg Kq [.cI DX (c.ws.map DY) c.e])
def tN(c:rU):D:= .cd (.agg TQ [arV c,.raw (.bool c.s)])
theorem wdD_inj(x y:Wd)(h:DY x=DY y):x=y:=by
 unfold DY at h
 injection h with _ h
 injection h with h1 h
 injection h with h2 _
 injection h1 with h1
 injection h2 with h2
 injection h2 with h2
 exact Prod.ext (Go.Am.BU.1 h1) h2
theorem VG{a b:List Wd}(h:a.map DY=b.map DY):a=b:=(adi wdD_inj).1 h
def arK(x:List Wd×Bool):D:=arV ⟨x.1,x.2,false⟩
theorem VH(x y:List Wd×Bool)(h:arK x=arK y):x=y:=by
 unfold arK arV at h
 injection h with h
 injection h with _ h
 injection h with h _
 injection h with _ h1 h2
 exact Prod.ext (VG h1) h2
theorem G7(x y:rU)(h:tN x=tN y):x=y:=by
 obtain⟨xw,xe,xs⟩:=x
 obtain⟨yw,ye,ys⟩:=y
 unfold tN arV at h
 injection h with h
 injection h with _ h
 injection h with h1 h
 injection h with h2 _
 injection h1 with h1
 injection h1 with _ h1
 injection h1 with h1 _
 injection h1 with _ h1 h3
 injection h2 with h2
 injection h2 with h2
 cases VG h1
 subst h2
 subst h3
 rfl
def Qt(l:List (BitVec 32)):D×Rows:=(.sl cJ 0 [] 0 l.length false,[some ⟨cJ,us l⟩])
theorem N5{s:Sh}{l:List D}{i:Nat}(h:i<l.length)(e:Bool)(rows:Rows)(k:D->Rows->Prop):oH s (i:Int) rows k (.cI s l e)=k (.cd l[i]) rows:=by
 simp only[oH,aaB,aap h,bn,aa2]
 rw[aas (by omega:(0:Int)<=(i:Int)),aas (by omega:(i:Int)<(l.length:Int)),aa2,aa2]
theorem us_snoc(l:List (BitVec 32))(i:Nat)(h:i<l.length):us (l.take i)++[.raw (u32 l[i])]=us (l.take (i+1)):=by
 rw[aaR h,<-TB]
 rfl
noncomputable def fWds:Fn:=mV (bx arK) (λx=>decide (x.1.length=64)) λx=>Qt (x.1.map (·.1))
theorem wds_ok(C:bf)(hC:aJ C P):aN C.aX P 78 (Fn.run fWds):=by
 refine aG (AY C hC) λds rows r h=>?_
 obtain⟨d,⟨x,e⟩,rfl,rfl,hd,hp,rfl⟩:=a8 h
 cases aE hd
 simp only[aat]at hp
 refine⟨rfl,ag rfl ?_⟩
 clear h hd
 unfold rk ru
 have hl:(x.map DY).length=64:=by rw[aaE,hp]
 have hm:(x.map (·.1)).length=64:=by rw[aaE,hp]
 simp only[arK,arV,↓ah,aj,simprocAttr,hl]
 refine bg 64 (λi env rows=>has env [(13,.raw (it (i:Int))),(12,.raw (it 64)),(11,.cI DX (x.map DY) e)]/\∃d,look env 3=some d/\iT cJ d rows (us ((x.map (·.1)).take i))) ?_ ?_ ⟨?_,_,?_,.nil⟩
 ·rintro i hi env rows ⟨hh,d,h3,hO⟩ R hR
  simp only[has]at hh
  have e0:((i:Int)<64)=True:=aas (by omega)
  have e1:=ca i (by omega)
  have gi:=λrows k=>N5 (s:=DX) (l:=x.map DY) (i:=i) (by omega) e rows k
  have gx:(x.map DY)[i]'(by omega)= .agg DX [.raw (u32 (x[i]'(by omega)).1),.raw (.bool (x[i]'(by omega)).2)]:=by rw[ady];rfl
  rw[gx]at gi
  simp only[↓ah,aj,simprocAttr,aM,hh,h3,e0,gi]
  refine iq hO.push (by rw[lZ,aau];simp[most];omega) (by rw[lZ,aau];simp[most];omega) λd2 aa F6 qo wv _=>?_
  have hs:=us_snoc (x.map (·.1)) i (by omega)
  rw[ady]at hs
  rw[hs]at F6
  simp only[↓ah,aj,simprocAttr,aM,hh,e1]
  exact hR _ _ ⟨by simp only[has,↓ah,aj,simprocAttr,hh],d2,by simp only[↓ah,aj,simprocAttr],F6⟩
 ·rintro env rows ⟨hh,d,h3,hO⟩ R
  simp only[has]at hh
  have e0:((64:Int)<64)=False:=aax (by omega)
  rw[aaq (by omega)]at hO
  simp only[↓ah,aj,simprocAttr,hh,h3,e0,hO.pM]
  have:=iT.VA hO rfl
  rw[lZ]at this
  exact this
 ·simp only[has,↓ah,aj,simprocAttr]
 ·simp only[↓ah,aj,simprocAttr]
theorem kWds(rows:Rows)(k:D->Rows->Prop)(c:rU)(h:c.ws.length=64):aI fWds rows k [arV c]=k (.sl cJ (0+rows.length) [] 0 64 false) (rows++[some ⟨cJ,us c.w⟩]):=by
 refine(a9 (by rfl) (eK (br VH (c.ws,c.e)) (by simp[h]))).trans ?_
 simp[Qt,shift,ab,Sh.pure,h]
noncomputable def Dr:Fn:=mV (bx tN) (λc=>decide (c.ws.length=64)) λc=>Qt c.w
theorem allc_ok(C:bf)(hC:aJ C P)(h1:C.fn 78=some fWds):aN C.aX P 76 (Fn.run Dr):=by
 refine aG (Iy C hC) λds rows r h=>?_
 obtain⟨d,c,rfl,rfl,hd,hp,rfl⟩:=a8 h
 cases aE hd
 simp only[aat]at hp
 refine⟨rfl,ag rfl ?_⟩
 clear h hd
 unfold xK xL
 have hm:c.w.length=64:=by rw[aaE,hp]
 have kW:=λrows k=>kWds rows k c hp
 have f1:(arV c).fits .ref=true:=rfl
 simp only[tN,↓ah,aj,simprocAttr,h1,kW,f1]
 rw[Qt,hm]
 exact .own _ _ 0 _ _ _ _ rfl rfl (λh=>by cases h)
theorem Mn(rows:Rows)(k:D->Rows->Prop)(c:rU)(h:c.ws.length=64):aI Dr rows k [tN c]=k (.sl cJ (0+rows.length) [] 0 64 false) (rows++[some ⟨cJ,us c.w⟩]):=by
 refine(a9 (by rfl) (eK (br G7 c) (by simp[h]))).trans ?_
 simp[Qt,shift,ab,Sh.pure,h]
def KZ(x:BitVec 8):Nat:=((List.range 8).filter λi=>x.getLsbD i).length
def VI:Fn:=mV rd8 (λ_=>true) λx=>(.raw (it (KZ x:Int)),[])
def popT:ByteArray:=match gH with
 | .seq _ (.seq (.region _ (_::⟨_,.uZ (.const (.string b)) _,_⟩::_)) _)=>b
 | _=>⟨#[]⟩
theorem popT_get:∀n,n<256->popT.data.toList[n]?=some (UInt8.ofNat (KZ (BitVec.ofNat 8 n))):=by decide
theorem ones_ok(C:bf)(hC:aJ C P):aN C.aX P 183 (Fn.run VI):=by
 refine aG (vA C hC) λds rows r h=>?_
 obtain⟨d,x,rfl,rfl,hd,hp,rfl⟩:=a8 h
 cases Ij hd
 refine⟨rfl,ag rfl ?_⟩
 clear h hd
 have hT:=popT_get x.toNat x.isLt
 rw[adI,adJ]at hT
 have hle:KZ x<=8:=by
  refine abd (acX _ _) ?_
  decide
 have hc:(UInt8.ofNat (KZ x)).toBitVec.toNat=KZ x:=by
  show(BitVec.ofNat 8 (KZ x)).toNat=_
  rw[aaK];omega
 simp only[popT,gH]at hT
 unfold gH nK
 simp only[↓ah,aj,simprocAttr,hT,abj,hc]
 exact .val _ rfl
theorem kOnes(rows:Rows)(k:D->Rows->Prop)(x:BitVec 8):aI VI rows k [.raw (u8 x)]=k (.raw (it (KZ x:Int))) rows:=by
 refine(a9 (by rfl) (eK (Np x) rfl)).trans ?_
 simp[shift,ab]
def tzL:List (BitVec 8):=[0,1,28,2,29,14,24,3,30,22,20,15,25,17,4,8,31,27,13,23,21,19,16,7,26,12,18,6,11,5,10,9]
def tzD:D:= .agg (.ar 32 L8) (bs tzL)
def tzS(x:BitVec 32):Nat:=if x=0#32 then 32 else(tzL.getD (((x&&&-x)*125613361#32)>>>27).toNat 0#8).toNat
def fTz:Fn:=mV qs (λ_=>true) λx=>(.raw (it (tzS x:Int)),[])
theorem u_neg32(x:BitVec 32)(k:D->Prop):aUn .neg (u32 x) k=k (.raw (u32 (-x))):=by
 have h:(0-(x.toNat:Int)) %4294967296=((-x).toNat:Int):=by rw[BitVec.toNat_neg];omega
 show k (.raw (.int .u32 (IntKind.u32.wrap (0-(x.toNat:Int)))))=_
 rw[wr32,h]
 rfl
theorem tz_ok(C:bf)(hC:aJ C P)(hg:C.aX 1=some tzD):aN C.aX P 77 (Fn.run fTz):=by
 refine aG (qt C hC) λds rows r h=>?_
 obtain⟨d,x,rfl,rfl,hd,hp,rfl⟩:=a8 h
 cases dH hd
 refine⟨rfl,ag rfl ?_⟩
 clear h hd
 unfold j5 j6
 by_cases hx:x=0#32
 ·have hx':(x=0#32)=True:=aas hx
  simp only[↓ah,aj,simprocAttr,tzS,hx',aav,abX]
  exact .val _ rfl
 ·have hx':(x=0#32)=False:=aax hx
  have hlt:(((x&&&-x)*125613361#32)>>>27).toNat<32:=by
   rw[abH,abb]
   have:=((x&&&-x)*125613361#32).isLt
   omega
  simp only[tzS,aaA hx]
  generalize hy:((x&&&-x)*125613361#32)>>>27=y at*
  have hl:(((y.toNat:Int))<32)=True:=aas (by omega)
  have hb:=j4 (l:=tzL) (i:=y.toNat) hlt
  simp only[↓ah,aj,simprocAttr,u_neg32,hg,tzD,hx',hy,hl,hb,aaw,abj,aaB]
  exact .val _ rfl
theorem kTz(rows:Rows)(k:D->Rows->Prop)(x:BitVec 32):aI fTz rows k [.raw (u32 x)]=k (.raw (it (tzS x:Int))) rows:=by
 refine(a9 (by rfl) (eK (eO x) rfl)).trans ?_
 simp[shift,ab]
theorem tz_le(x:BitVec 32):tzS x<=32:=by
 have h:∀n,n<32->(tzL.getD n 0#8).toNat<32:=by decide
 unfold tzS
 split
 ·exact aaz _
 ·rcases aaZ (((x&&&-x)*125613361#32)>>>27).toNat 32 with c|c
  ·exact aey (h _ c)
  ·rw[aaH,abh (by exact c)];decide
def Ya(w:BitVec 32)(i:Nat):Bool:=decide (5<=KZ ((w>>>(8*i)).setWidth 8))
def fOn:Fn:=tW qs tH (λ_ i=>decide (0<=i)&&decide (i<=3)) λw i=>(.raw (.bool (Ya w i.toNat)),[])
theorem on_ok(C:bf)(hC:aJ C P)(h1:C.fn 183=some VI):aN C.aX P 135 (Fn.run fOn):=by
 refine aG (m_otp_on C hC) λds rows r h=>?_
 obtain⟨d,e,w,i,rfl,rfl,hd,he,hp,rfl⟩:=cQ h
 cases dH hd
 cases bK he
 simp only[aan,aat]at hp
 obtain⟨n,rfl⟩:=aaD hp.1
 refine⟨rfl,ag rfl ?_⟩
 clear h hd he
 unfold P1 P2
 have e1:wz (8*(n:Int))=((8*n:Nat):Int):=by rw[aZ (by omega)];omega
 have e2:((5:Int)<=(KZ ((w>>>(8*n)).setWidth 8):Int))=(5<=KZ ((w>>>(8*n)).setWidth 8)):=by simp;omega
 simp only[↓ah,aj,simprocAttr,h1,kOnes,e1,e2,abj,aaB,Ya]
 exact .val _ rfl
theorem kOn(rows:Rows)(k:D->Rows->Prop)(w:BitVec 32)(i:Nat)(h:i<=3):aI fOn rows k [.raw (u32 w),.raw (it (i:Int))]=k (.raw (.bool (Ya w i))) rows:=by
 refine(a9 (by rfl) (gR (eO w) (lc i) (by simp;omega))).trans ?_
 simp[shift,ab]
def F8(w:BitVec 32):Nat->Nat
 |0=>0
 |i+1=>if Ya w i then i+1 else F8 w i
def ey(c:rU):Nat:=F8 (c.w.getD 0 0#32) 4
noncomputable def Jp:Fn:=mV (bx tN) (λc=>decide (c.ws.length=64)) λc=>(.raw (it (ey c:Int)),[])
theorem life_ok(C:bf)(hC:aJ C P)(h1:C.fn 76=some Dr)(h2:C.fn 135=some fOn):aN C.aX P 71 (Fn.run Jp):=by
 refine aG (Gv C hC) λds rows r h=>?_
 obtain⟨d,c,rfl,rfl,hd,hp,rfl⟩:=a8 h
 cases aE hd
 simp only[aat]at hp
 refine⟨rfl,ag rfl ?_⟩
 clear h hd
 unfold vX vY
 have hm:c.w.length=64:=by rw[aaE,hp]
 have kA:=λrows k=>Mn rows k c hp
 have g0:=ia (l:=c.w) (i:=0) (by omega)
 rw[ey]
 generalize c.w.getD 0 0#32=w at*
 simp only[↓ah,aj,simprocAttr]
 refine bg 4 (λi env rows=>has env [(5,.raw (it (i:Int))),(3,.raw (it (F8 w i:Int))),(0,tN c)]) ?_ ?_ ?_
 ·rintro i hi env rows hh R hR
  simp only[has]at hh
  have e0:((i:Int)<4)=True:=aas (by omega)
  have e1:=ca i (by omega)
  have kO:=λrows k=>kOn rows k w i (by omega)
  cases ho:Ya w i with
  |true=>
   simp only[↓ah,aj,simprocAttr,aM,hh,e0,e1,h1,h2,kA,g0,kO,ho]
   exact hR _ _ (by simp only[has,↓ah,aj,simprocAttr,hh,F8,ho,abX])
  |false=>
   simp only[↓ah,aj,simprocAttr,aM,hh,e0,e1,h1,h2,kA,g0,kO,ho]
   exact hR _ _ (by simp only[has,↓ah,aj,simprocAttr,hh,F8,ho]<;>simp)
 ·rintro env rows hh R
  simp only[has]at hh
  have e0:((4:Int)<4)=False:=aax (by omega)
  simp only[↓ah,aj,simprocAttr,hh,e0]
  exact .val _ rfl
 ·simp only[has,↓ah,aj,simprocAttr,F8]
theorem Yb{α:Type}(l:List α)(i:Nat)(z:α)(h:i<l.length):l.drop i=l.getD i z::l.drop (i+1):=by
 rw[abD h]
 simp[List.getD,h]
def TR:List (BitVec 32)->Nat
 |[]=>0
 |w::l=>if tzS (~~~w)<32 then tzS (~~~w)else tzS (~~~w)+TR l
def js(c:rU):Nat:=min (TR ((c.w.drop 1).take 8)) 255
noncomputable def TS:Fn:=mV (bx tN) (λc=>decide (c.ws.length=64)) λc=>(.raw (it (js c:Int)),[])
theorem ctr_ok(C:bf)(hC:aJ C P)(h1:C.fn 76=some Dr)(h2:C.fn 77=some fTz):aN C.aX P 26 (Fn.run TS):=by
 refine aG (AW C hC) λds rows r h=>?_
 obtain⟨d,c,rfl,rfl,hd,hp,rfl⟩:=a8 h
 cases aE hd
 simp only[aat]at hp
 refine⟨rfl,ag rfl ?_⟩
 clear h hd
 unfold qY qZ
 have hm:c.w.length=64:=by rw[aaE,hp]
 have kA:=λrows k=>Mn rows k c hp
 rw[js]
 generalize c.w=W at*
 have hl8:((W.drop 1).take 8).length=8:=by simp;omega
 have hgw:∀i,i<8->((W.drop 1).take 8).getD i 0#32=W.getD (1+i) 0#32:=λi hi=>by
  rw[aaH,abr hi,abk,<-aaH]
 generalize (W.drop 1).take 8=V at*
 have fin:∀n:Nat,(bif false then max (n:Int) 255 else min (n:Int) 255)=((min n 255:Nat):Int):=λn=>by simp;omega
 simp only[↓ah,aj,simprocAttr,aM,h1,kA]
 refine bg 8 (λi env rows=>has env [(11,.raw (it (i:Int))),(10,.raw (it 8)),(9,.sl cJ 0 [] 1 8 false)]/\rows=[some ⟨cJ,us W⟩]/\∃n:Nat,look env 3=some (.raw (it (n:Int)))/\n<=32*i/\TR (V)=n+TR (V.drop i)) ?_ ?_ ⟨?_,rfl,0,?_,by omega,by simp⟩
 ·rintro i hi env rows ⟨hh,rfl,n,h3,hn,hc⟩ R hR
  simp only[has]at hh
  have e0:((i:Int)<8)=True:=aas (by omega)
  have e1:=ca i (by omega)
  have hw:=Yb V i 0#32 (by omega)
  have gw:(us W)[1+i]?=some (.raw (u32 (V.getD i 0#32))):=by rw[ia (by omega),hgw i hi]
  rw[hw,TR]at hc
  generalize V.getD i 0#32=v at*
  have ht:=tz_le (~~~v)
  have kT:=λrows k=>kTz rows k (~~~v)
  generalize tzS (~~~v)=t at*
  have e2:wz ((n:Int)+(t:Int))=((n+t:Nat):Int):=by rw[aZ (by omega)];omega
  by_cases hlt:t<32
  ·have ZZ:((t:Int)<32)=True:=aas (by omega)
   rw[aaI hlt]at hc
   simp only[↓ah,aj,simprocAttr,aM,hh,h3,e0,gw,h2,kT,e2,ZZ,fin,abj,aaB]
   rw[hc]
   exact .val _ rfl
  ·have ZZ:((t:Int)<32)=False:=aax (by omega)
   rw[aaA hlt]at hc
   simp only[↓ah,aj,simprocAttr,aM,hh,h3,e0,e1,gw,h2,kT,e2,ZZ,abj,aaB]
   exact hR _ _ ⟨by simp only[has,↓ah,aj,simprocAttr,hh],rfl,n+t,by simp only[↓ah,aj,simprocAttr],by omega,by omega⟩
 ·rintro env rows ⟨hh,rfl,n,h3,hn,hc⟩ R
  simp only[has]at hh
  have e0:((8:Int)<8)=False:=aax (by omega)
  rw[acR (adx hl8),TR,acQ]at hc
  simp only[↓ah,aj,simprocAttr,hh,h3,e0,fin]
  rw[hc]
  exact .val _ rfl
 ·simp only[has,↓ah,aj,simprocAttr];rfl
 ·simp only[↓ah,aj,simprocAttr]
abbrev uD(x:BitVec 32):D:= .raw (u32 x)
theorem uD_inj(x y:BitVec 32)(h:uD x=uD y):x=y:=by
 injection h with h
 exact Go.Am.BU.1 h
theorem VJ(l:List (BitVec 32))(n:Nat):(us l).drop n=us (l.drop n):=by simp[us]
theorem VK(l:List (BitVec 32))(n:Nat):(us l).take n=us (l.take n):=by simp[us]
theorem bk.us{rows:Rows}{r off len:Nat}{ex:Bool}{l:List (BitVec 32)}(hl:live rows r=some ⟨cJ,us l⟩)(hn:off+len<=l.length):bk rows (oy cJ uD) (.sl cJ r [] off len ex) ((l.drop off).take len):=by
 refine⟨⟨.cI cJ (jU.us ((l.drop off).take len)) ex,?_,I4 uD_inj _ ex⟩,λh=>by simp[aR]at h⟩
 have:elems rows (.sl cJ r [] off len ex)=some (jU.us ((l.drop off).take len)):=by
  simp only[elems,hl,VJ,VK]
 have hL:((l.drop off).take len).length=len:=by rw[aau,aar];omega
 simp only[view]
 rw[this]
 simp only[lZ,hL]
 simp[Sh.pure]
theorem Yc(l:List (BitVec 32))(i:Nat)(h:i<l.length):gO (l.take i)++bi l[i]=gO (l.take (i+1)):=by
 rw[aaR h,gO,gO,acE,abU]
 simp
noncomputable def fOct:Fn:=mV (oy cJ uD) (λl=>decide (l.length<=1000)) λl=>dF (gO l) false
theorem oct_ok(C:bf)(hC:aJ C P):aN C.aX P 132 (Fn.run fOct):=by
 refine bU (NG C hC) λds rows r h=>?_
 obtain⟨d,l,rfl,rfl,hd,hp,rfl⟩:=a8 h
 obtain⟨e,hx⟩:=uF hd
 simp only[aat]at hp
 refine⟨rfl,_,.cons hx .nil,ag rfl ?_⟩
 clear h hd hx
 unfold Ct Cu
 have hl:(l.map uD).length=l.length:=by rw[aaE]
 simp only[↓ah,aj,simprocAttr,hl]
 refine bg l.length (λi env rows=>has env [(8,.raw (it (i:Int))),(7,.raw (it (l.length:Int))),(6,.cI cJ (l.map uD) e)]/\∃d,look env 3=some d/\iT L8 d rows (bs (gO (l.take i)))) ?_ ?_ ⟨?_,_,?_,.nil⟩
 ·rintro i hi env rows ⟨hh,d,h3,hO⟩ R hR
  simp only[has]at hh
  have e0:((i:Int)<(l.length:Int))=True:=aas (by omega)
  have e1:=ca i (by omega)
  have gi:=λrows k=>N5 (s:=cJ) (l:=l.map uD) (i:=i) (by omega) e rows k
  rw[ady]at gi
  have hs:=Yc l i hi
  generalize l[i]'hi=w at*
  simp only[↓ah,aj,simprocAttr,aM,hh,h3,e0,gi]
  refine iq hO.push (by rw[aB,mr,aau];simp[most];omega) (by rw[aB,mr,aau];simp[most];omega) λd2 aa F6 qo wv _=>?_
  have Kr:iT L8 d2 aa (bs (gO (l.take (i+1)))):=by rw[<-hs,<-j3];exact F6
  simp only[↓ah,aj,simprocAttr,aM,hh,e1]
  exact hR _ _ ⟨by simp only[has,↓ah,aj,simprocAttr,hh],d2,by simp only[↓ah,aj,simprocAttr],Kr⟩
 ·rintro env rows ⟨hh,d,h3,hO⟩ R
  simp only[has]at hh
  have e0:((l.length:Int)<(l.length:Int))=False:=aax (by omega)
  rw[aaV]at hO
  simp only[↓ah,aj,simprocAttr,hh,h3,e0,hO.pM]
  exact hO.Nl
 ·simp only[has,↓ah,aj,simprocAttr]
 ·simp only[↓ah,aj,simprocAttr]
theorem kOct{rows:Rows}{d:D}{l:List (BitVec 32)}(h:bk rows (oy cJ uD) d l)(hl:l.length<=1000)(k:D->Rows->Prop):aI fOct rows k [d]=k (.sl L8 (0+rows.length) [] 0 (gO l).length false) (rows++[some ⟨L8,bs (gO l)⟩]):=by
 refine(cO h (by simp[hl]) rfl k).trans ?_
 simp[dF,shift,ab,Sh.pure]
def jK(c:rU):List (BitVec 8):=gO ((c.w.drop 9).take 14)
noncomputable def Qu:Fn:=mV (bx tN) (λc=>decide (c.ws.length=64)) λc=>dF (jK c) false
theorem keyc_ok(C:bf)(hC:aJ C P)(h1:C.fn 76=some Dr)(h2:C.fn 132=some fOct):aN C.aX P 69 (Fn.run Qu):=by
 refine aG (Ix C hC) λds rows r h=>?_
 obtain⟨d,c,rfl,rfl,hd,hp,rfl⟩:=a8 h
 cases aE hd
 simp only[aat]at hp
 refine⟨rfl,ag rfl ?_⟩
 clear h hd
 unfold xI xJ
 have hm:c.w.length=64:=by rw[aaE,hp]
 have kA:=λrows k=>Mn rows k c hp
 rw[jK]
 have hl:((c.w.drop 9).take 14).length<=1000:=by rw[aau];omega
 have kO:=λex k=>kOct (bk.us (rows:=[some ⟨cJ,us c.w⟩]) (r:=0) (off:=9) (len:=14) (ex:=ex) (l:=c.w) rfl (by omega)) hl k
 have nb:Nm (tN c) (.raw (.pointer none))=some false:=rfl
 simp only[↓ah,aj,simprocAttr,aM,h1,h2,kA,kO,nb]
 exact .own _ _ 0 _ _ _ _ rfl rfl (λh=>by cases h)
theorem kKeyC{rows:Rows}{d:D}{c:rU}(h:bk rows (bx tN) d c)(hc:c.ws.length=64)(k:D->Rows->Prop):aI Qu rows k [d]=k (.sl L8 (0+rows.length) [] 0 56 false) (rows++[some ⟨L8,bs (jK c)⟩]):=by
 refine(cO h (by simp[hc]) rfl k).trans ?_
 have:(jK c).length=56:=by rw[jK,mr,aau,aar,aaE,hc];rfl
 simp[dF,shift,ab,Sh.pure,this]
theorem kLife{rows:Rows}{d:D}{c:rU}(h:bk rows (bx tN) d c)(hc:c.ws.length=64)(k:D->Rows->Prop):aI Jp rows k [d]=k (.raw (it (ey c:Int))) rows:=by
 refine(cO h (by simp[hc]) rfl k).trans ?_
 simp[shift,ab]
theorem kCtr{rows:Rows}{d:D}{c:rU}(h:bk rows (bx tN) d c)(hc:c.ws.length=64)(k:D->Rows->Prop):aI TS rows k [d]=k (.raw (it (js c:Int))) rows:=by
 refine(cO h (by simp[hc]) rfl k).trans ?_
 simp[shift,ab]
theorem bk.tN{rows:Rows}(c:rU):bk rows (bx jU.tN) (jU.tN c) c:=⟨⟨_,rfl,br G7 c⟩,λ_=>br G7 c⟩
def VL:Fn:=mV dB (λp=>decide (p.length<=1000)) λp=>Qt (words (p.length/4) p)
theorem numb_ok(C:bf)(hC:aJ C P):aN C.aX P 106 (Fn.run VL):=by
 refine bU (ND C hC) λds rows r h=>?_
 obtain⟨d,p,rfl,rfl,hd,hp,rfl⟩:=a8 h
 obtain⟨e0,hx⟩:=cb hd
 simp only[aat]at hp
 refine⟨rfl,_,.cons hx .nil,ag rfl ?_⟩
 clear h hd hx
 unfold Ci Cj
 simp only[↓ah,aj,simprocAttr]
 refine bg (p.length/4) (λi env rows=>(∃e,look env 0=some (.cI L8 (bs (p.drop (4*i))) e))/\∃d,look env 3=some d/\iT cJ d rows (us (words i p))) ?_ ?_ ⟨⟨e0,?_⟩,_,?_,.nil⟩
 ·rintro i hi env rows ⟨⟨e,h0⟩,d,h3,hO⟩ R hR
  have hw:=Bh i p
  have hq:4<=(p.drop (4*i)).length:=by rw[aar];omega
  have hdd:p.drop (4*(i+1))=(p.drop (4*i)).drop 4:=by rw[abv];rfl
  have hb:(p.drop (4*i)).length<=1000:=by rw[aar];omega
  rw[qC _ 4 (aaz _)]at hw
  simp only[hdd]at hR
  clear hdd
  generalize p.drop (4*i)=q at*
  have e0:((4:Int)<=((q.length:Nat):Int))=True:=aas (by omega)
  have gi:∀j:Nat,j<4->(bs q)[j]?=some (.raw (u8 (q.getD j 0#8))):=λj hj=>j4 (by omega)
  have g0:=gi 0 (by decide)
  have g1:=gi 1 (by decide)
  have g2:=gi 2 (by decide)
  have g3:=gi 3 (by decide)
  have l0:((0:Int)<((q.length:Nat):Int))=True:=aas (by omega)
  have l1:((1:Int)<((q.length:Nat):Int))=True:=aas (by omega)
  have l2:((2:Int)<((q.length:Nat):Int))=True:=aas (by omega)
  have l3:((3:Int)<((q.length:Nat):Int))=True:=aas (by omega)
  have hT:(bs (q.drop 4)).take (q.length-4)=bs (q.drop 4):=aaq (by rw[aB,aar];omega)
  simp only[↓ah,aj,simprocAttr,aM,h0,h3,aB,e0,g0,g1,g2,g3,l0,l1,l2,l3]
  refine iq hO.push (by rw[lZ,ei];simp[most];omega) (by rw[lZ,ei];simp[most];omega) λd2 aa F6 qo wv _=>?_
  have Kr:iT cJ d2 aa (us (words (i+1) p)):=by
   rw[hw,<-TB];exact F6
  simp only[↓ah,aj,simprocAttr,aM,h0,aB,eP,hT,e0,aaB]
  exact hR _ _ ⟨⟨_,rfl⟩,d2,by simp only[↓ah,aj,simprocAttr],Kr⟩
 ·rintro env rows ⟨⟨e,h0⟩,d,h3,hO⟩ R
  have e0:((4:Int)<=(((p.drop (4*(p.length/4))).length:Nat):Int))=False:=aax (by rw[aar];omega)
  simp only[↓ah,aj,simprocAttr,h0,h3,aB,e0,hO.pM]
  have:=iT.VA hO rfl
  rw[lZ,ei]at this
  rw[Qt,ei]
  exact this
 ·simp only[↓ah,aj,simprocAttr]
 ·simp only[↓ah,aj,simprocAttr]
theorem kNumb(rows:Rows)(k:D->Rows->Prop)(d:D)(p:List (BitVec 8))(h:aU rows d p)(hp:p.length<=1000):aI VL rows k [d]=k (.sl cJ (0+rows.length) [] 0 (p.length/4) false) (rows++[some ⟨cJ,us (words (p.length/4) p)⟩]):=by
 refine(cO (.bs h) (by simp[hp]) rfl k).trans ?_
 simp[Qt,shift,ab,Sh.pure,ei]
theorem bk.usA{rows:Rows}{r n i:Nat}{q:List Nat}{ex:Bool}{row:Row}{l:List (BitVec 32)}(h:live rows r=some row)(hg:dC row.els (i::q)=some (.agg (.ar n cJ) (jU.us l)))(hl:l.length=n):bk rows (oy cJ uD) (.sl cJ r (i::q) 0 n ex) l:=by
 refine⟨⟨.cI cJ (jU.us l) ex,?_,I4 uD_inj _ ex⟩,λh=>by simp[aR]at h⟩
 have:elems rows (.sl cJ r (i::q) 0 n ex)=some (jU.us l):=by
  simp only[elems,h,hg]
  simp[aaq,lZ,hl]
 simp only[view]
 rw[this]
 simp only[lZ,hl]
 simp[Sh.pure]
abbrev K1:Sh:= .cons LI (.cons cJ .nil)
abbrev Wr:=Nat×BitVec 32
def wrD(p:Wr):D:= .agg K1 [.raw (it (p.1:Int)),.raw (u32 p.2)]
def Qv(W:List (BitVec 32))(f:Nat)(l:List (BitVec 32))(i:Nat):List Wr:=
 if W.getD (f+i) 0#32|||l.getD i 0#32=W.getD (f+i) 0#32 then[]else[(f+i,W.getD (f+i) 0#32|||l.getD i 0#32)]
def rV(W:List (BitVec 32))(f:Nat)(l:List (BitVec 32)):Nat->List Wr
 |0=>[]
 |n+1=>rV W f l n++Qv W f l n
def jV(W:List (BitVec 32))(f:Nat)(l:List (BitVec 32)):List Wr:=rV W f l l.length
theorem uM(W:List (BitVec 32))(f:Nat)(l:List (BitVec 32)):∀n,(rV W f l n).length<=n
 |0=>aaz _
 |n+1=>by
  have:=uM W f l n
  rw[rV,aao,Qv]
  split<;>simp<;>omega
def Qw(l:List Wr):D×Rows:=(.sl K1 0 [] 0 l.length false,[some ⟨K1,l.map wrD⟩])
noncomputable def Mo:Fn:=GY (bx tN) tH (oy cJ uD) (λc f l=>decide (c.ws.length=64)&&decide (0<=f)&&decide (f+l.length<=64)) λc f l=>Qw (jV c.w f.toNat l)
theorem plan_ok(C:bf)(hC:aJ C P)(h1:C.fn 76=some Dr):aN C.aX P 107 (Fn.run Mo):=by
 refine bU (Gx C hC) λds rows r h=>?_
 obtain⟨d0,d1,d2,c,f0,l,rfl,rfl,hd,he,hf,hp,rfl⟩:=fp h
 cases aE hd
 cases bK he
 obtain⟨e,hx⟩:=uF hf
 simp only[aan,aat]at hp
 obtain⟨⟨hc,hf0⟩,hl⟩:=hp
 obtain⟨f,rfl⟩:=aaD hf0
 refine⟨rfl,_,.cons (.refl _) (.cons (.refl _) (.cons hx .nil)),ag rfl ?_⟩
 clear h hd he hf hx
 unfold v7 v8
 have hm:c.w.length=64:=by rw[aaE,hc]
 have kA:=λrows k=>Mn rows k c hc
 have hle:(l.map uD).length=l.length:=aaE ..
 rw[jV,aaB]
 have g0:=λi (hi:f+i<64)=>ia (l:=c.w) (i:=f+i) (by omega)
 simp only[↓ah,aj,simprocAttr,hle]
 refine bg l.length (λi env rows=>has env [(13,.raw (it (i:Int))),(12,.raw (it (l.length:Int))),(11,.cI cJ (l.map uD) e),(1,.raw (it (f:Int))),(0,tN c)]/\∃d,look env 7=some d/\iT K1 d rows ((rV c.w f l i).map wrD)) ?_ ?_ ⟨?_,_,?_,.nil⟩
 ·rintro i hi env rows ⟨hh,d,h7,hO⟩ R hR
  simp only[has]at hh
  have e0:((i:Int)<(l.length:Int))=True:=aas (by omega)
  have e1:=ca i (by omega)
  have e2:wz ((f:Int)+(i:Int))=((f+i:Nat):Int):=by rw[aZ (by omega)];omega
  have e3:(((f+i:Nat):Int)<64)=True:=aas (by omega)
  have gi:=λrows k=>N5 (s:=cJ) (l:=l.map uD) (i:=i) (by omega) e rows k
  have gx:(l.map uD)[i]'(by omega)= .raw (u32 (l.getD i 0#32)):=by simp[List.getD,hi]
  rw[gx]at gi
  have g1:=g0 i (by omega)
  have tV:=uM c.w f l i
  have hps:rV c.w f l (i+1)=rV c.w f l i++Qv c.w f l i:=rfl
  rw[Qv]at hps
  generalize l.getD i 0#32=v at*
  generalize c.w.getD (f+i) 0#32=o at*
  by_cases hv:o|||v=o
  ·have mN:(o|||v=o)=True:=aas hv
   rw[aaI hv,aaL]at hps
   simp only[↓ah,aj,simprocAttr,aM,hh,h7,e0,e1,e2,e3,gi,h1,kA,g1,mN,abj,aaB,aav]
   exact hR _ _ ⟨by simp only[has,↓ah,aj,simprocAttr,hh],d,by simp only[↓ah,aj,simprocAttr,h7],by rw[hps];exact hO.push⟩
  ·have mN:(o|||v=o)=False:=aax hv
   rw[aaA hv]at hps
   simp only[↓ah,aj,simprocAttr,aM,hh,h7,e0,e1,e2,e3,gi,h1,kA,g1,mN,abj,aaB,aaw]
   refine iq hO.push (by rw[aaE];simp[most];omega) (by rw[aaE];simp[most];omega) λd2 aa F6 qo wv _=>?_
   simp only[↓ah,aj,simprocAttr,aM,hh,e1]
   exact hR _ _ ⟨by simp only[has,↓ah,aj,simprocAttr,hh],d2,by simp only[↓ah,aj,simprocAttr],by rw[hps,acE];exact F6⟩
 ·rintro env rows ⟨hh,d,h7,hO⟩ R
  simp only[has]at hh
  have e0:((l.length:Int)<(l.length:Int))=False:=aax (by omega)
  simp only[↓ah,aj,simprocAttr,hh,h7,e0,hO.pM]
  have:=iT.VA hO rfl
  rw[aaE]at this
  exact this
 ·simp only[has,↓ah,aj,simprocAttr]
 ·simp only[↓ah,aj,simprocAttr]
theorem kPlan{rows:Rows}{d:D}(c:rU)(f:Nat)(fi:Int)(hf:fi=(f:Int)){l:List (BitVec 32)}(h:bk rows (oy cJ uD) d l)(hc:c.ws.length=64)(hl:f+l.length<=64)(k:D->Rows->Prop):
  aI Mo rows k [tN c,.raw (it fi),d]=k (.sl K1 (0+rows.length) [] 0 (jV c.w f l).length false) (rows++[some ⟨K1,(jV c.w f l).map wrD⟩]):=by
 subst hf
 refine(fH (.tN c) (.int _) h (by simp[hc];omega) rfl k).trans ?_
 simp[Qw,shift,ab,Sh.pure]
noncomputable def G8:Fn:=tW (bx tN) tH (λc n=>decide (c.ws.length=64)&&decide (1<=n)&&decide (n<=4)&&decide ((ey c:Int)<n)) λc n=>
 (.cA [.sl K1 0 [] 0 (jV c.w 0 [255#32<<<(8*(n.toNat-1))]).length false,.raw (it 0)],(Qw (jV c.w 0 [255#32<<<(8*(n.toNat-1))])).2)
theorem Yd(C:bf)(hC:aJ C P)(h1:C.fn 71=some Jp)(h2:C.fn 107=some Mo):aN C.aX P 49 (Fn.run G8):=by
 refine aG (B8 C hC) λds rows r h=>?_
 obtain⟨d,e,c,n,rfl,rfl,hd,he,hp,rfl⟩:=cQ h
 cases aE hd
 cases bK he
 simp only[aan,aat]at hp
 obtain⟨⟨⟨hc,hn1⟩,TT⟩,hl⟩:=hp
 obtain⟨m,rfl⟩:∃m:Nat,n=((m+1:Nat):Int):=⟨n.toNat-1,by omega⟩
 refine⟨rfl,ag rfl ?_⟩
 clear h hd he
 unfold sU sV
 have nb:Nm (tN c) (.raw (.pointer none))=some false:=rfl
 have kL:=λrows k=>kLife (.tN (rows:=rows) c) hc k
 have e1:(((m+1:Nat):Int)<1)=False:=aax (by omega)
 have e2:((4:Int)<((m+1:Nat):Int))=False:=aax (by omega)
 have e3:(((m+1:Nat):Int)<=(ey c:Int))=False:=aax (by omega)
 have e4:wz (((m+1:Nat):Int)-1)=(m:Int):=by rw[aZ (by omega)];omega
 have e5:wz (8*(m:Int))=((8*m:Nat):Int):=by rw[aZ (by omega)];omega
 have kP:=λk=>kPlan (rows:=[some ⟨cJ,us [255#32<<<(8*m)]⟩]) (d:= .sl cJ 0 [] 0 1 true) c 0 0 rfl (l:=[255#32<<<(8*m)]) (bk.us (l:=[255#32<<<(8*m)]) rfl (by simp)) hc (by simp) k
 simp only[us,abq,adv]at kP
 simp only[aaB,Nat.add_sub_cancel]
 simp only[↓ah,aj,simprocAttr,aM,nb,h1,h2,kL,e1,e2,e3,e4,e5,kP,abj,aaB]
 exact .KB _ _ _ _ _ _ _ _ rfl rfl rfl (λh=>by cases h)
theorem kToLife{rows:Rows}{d:D}{c:rU}(h:bk rows (bx tN) d c)(hc:c.ws.length=64)(m:Nat)(hm:m<4)(hl:ey c<=m)(k:D->Rows->Prop):
  aI G8 rows k [d,.raw (it ((m+1:Nat):Int))]=k (.cA [.sl K1 (0+rows.length) [] 0 (jV c.w 0 [255#32<<<(8*m)]).length false,.raw (it 0)]) (rows++[some ⟨K1,(jV c.w 0 [255#32<<<(8*m)]).map wrD⟩]):=by
 refine(gf h (.int _) (by simp[hc];omega) rfl k).trans ?_
 simp[Qw,shift,bB,ab,Sh.pure]
def sD(n:Nat):List (BitVec 32):=(List.range 8).map λj=>BitVec.ofNat 32 (2^(min (n-32*j) 32)-1)
noncomputable def N6:Fn:=tW (bx tN) tH (λc n=>decide (c.ws.length=64)&&decide (0<=n)&&decide (n<=255)&&decide ((js c:Int)<=n)) λc n=>
 (.cA [.sl K1 0 [] 0 (jV c.w 1 (sD n.toNat)).length false,.raw (it 0)],(Qw (jV c.w 1 (sD n.toNat))).2)
theorem jm(n:Nat):(sD n).length=8:=by simp[sD]
theorem Ye:∀n,n<256->(sD n).set (n/32) ((sD n).getD (n/32) 0#32|||1#32<<<(n %32))=sD (n+1):=by decide
theorem toctr_ok(C:bf)(hC:aJ C P)(h1:C.fn 26=some TS)(h2:C.fn 107=some Mo):aN C.aX P 48 (Fn.run N6):=by
 refine aG (xE C hC) λds rows r h=>?_
 obtain⟨d,e,c,n,rfl,rfl,hd,he,hp,rfl⟩:=cQ h
 cases aE hd
 cases bK he
 simp only[aan,aat]at hp
 obtain⟨⟨⟨hc,hn1⟩,TT⟩,hl⟩:=hp
 obtain⟨m,rfl⟩:=aaD hn1
 refine⟨rfl,ag rfl ?_⟩
 clear h hd he
 unfold pc pd
 have nb:Nm (tN c) (.raw (.pointer none))=some false:=rfl
 have kL:=λrows k=>kCtr (.tN (rows:=rows) c) hc k
 have e1:((m:Int)<0)=False:=aax (by omega)
 have e2:((255:Int)<(m:Int))=False:=aax (by omega)
 have e3:((m:Int)<(js c:Int))=False:=aax (by omega)
 have hz:List.replicate 8 (D.raw (u32 0#32))=us (sD 0):=rfl
 rw[aaB]
 simp only[hz]
 simp only[↓ah,aj,simprocAttr,aM,nb,h1,kL,e1,e2,e3]
 refine bg m (λi env rows=>has env [(24,.raw (it (i:Int))),(23,.raw (it (m:Int))),(6,.ptr (.ar 8 cJ) 0 [0]),(0,tN c)]/\rows=[some ⟨.ar 8 cJ,[.agg (.ar 8 cJ) (us (sD i))]⟩]) ?_ ?_ ⟨?_,rfl⟩
 ·rintro i hi env rows ⟨hh,rfl⟩ R hR
  simp only[has]at hh
  have e0:((i:Int)<(m:Int))=True:=aas (by omega)
  have e1:=ca i (by omega)
  have e2:wz (Int.tdiv (i:Int) 32)=((i/32:Nat):Int):=tdivN i 32 (by omega)
  have e3:Int.tmod (i:Int) 32=((i %32:Nat):Int):=rfl
  have e4:(((i/32:Nat):Int)<8)=True:=aas (by omega)
  have g:=ia (l:=sD i) (i:=i/32) (by rw[jm];omega)
  have hs:=Ye i (by omega)
  simp only[↓ah,aj,simprocAttr,aM,hh,e0,e1,e2,e3,e4,g,Bg,hs,abj,aaB]
  exact hR _ _ ⟨by simp only[has,↓ah,aj,simprocAttr,hh],rfl⟩
 ·rintro env rows ⟨hh,rfl⟩ R
  simp only[has]at hh
  have e0:((m:Int)<(m:Int))=False:=aax (by omega)
  have kP:=λex k=>kPlan (rows:=[some ⟨.ar 8 cJ,[.agg (.ar 8 cJ) (us (sD m))]⟩]) (d:= .sl cJ 0 [0] 0 8 ex) c 1 1 rfl (l:=sD m) (bk.usA (n:=8) rfl rfl (jm m)) hc (by rw[jm];decide) k
  simp only[↓ah,aj,simprocAttr,aM,hh,e0,h2,kP]
  exact .KB _ _ _ _ _ _ _ _ rfl rfl rfl (λh=>by cases h)
 ·simp only[has,↓ah,aj,simprocAttr]
theorem kToCtr{rows:Rows}{d:D}{c:rU}(h:bk rows (bx tN) d c)(hc:c.ws.length=64)(m:Nat)(hm:m<=255)(hl:js c<=m)(k:D->Rows->Prop):
  aI N6 rows k [d,.raw (it (m:Int))]=k (.cA [.sl K1 (0+rows.length) [] 0 (jV c.w 1 (sD m)).length false,.raw (it 0)]) (rows++[some ⟨K1,(jV c.w 1 (sD m)).map wrD⟩]):=by
 refine(gf h (.int _) (by simp[hc];omega) rfl k).trans ?_
 simp[Qw,shift,bB,ab,Sh.pure]
def idL:List (BitVec 8):=2#8::List.replicate 15 0#8
noncomputable def N7:Fn:=GY (bx tN) dB (bx Av) (λc p n=>decide (c.ws.length=64)&&decide (p.length=56)&&decide (n.length=16)&&decide (ey c=0)&&(c.w.drop 9).all λw=>decide (w=0#32)) λc p n=>
 (.cA [.sl K1 0 [] 0 (jV c.w 9 (words 14 p++words 4 n)).length false,.raw (it 0)],(Qw (jV c.w 9 (words 14 p++words 4 n))).2)
theorem tokey_ok(C:bf)(hC:aJ C P)(h0:C.fn 76=some Dr)(h1:C.fn 71=some Jp)(h2:C.fn 107=some Mo)(h3:C.fn 106=some VL):aN C.aX P 46 (Fn.run N7):=by
 refine bU (Er C hC) λds rows r h=>?_
 obtain⟨d0,d1,d2,c,p,n,rfl,rfl,hd,he,hf,hp,rfl⟩:=fp h
 cases aE hd
 cases aE hf
 obtain⟨e,hx⟩:=cb he
 simp only[aan,aat]at hp
 obtain⟨⟨⟨⟨hc,hp56⟩,hn⟩,hl⟩,hz⟩:=hp
 refine⟨rfl,_,.cons (.refl _) (.cons hx (.cons (.refl _) .nil)),ag rfl ?_⟩
 clear h hd he hf hx
 unfold uw ux
 have nb:Nm (tN c) (.raw (.pointer none))=some false:=rfl
 have hm:c.w.length=64:=by rw[aaE,hc]
 have kA:=λrows k=>Mn rows k c hc
 have kL:=λrows k=>kLife (.tN (rows:=rows) c) hc k
 rw[hl]at kL
 have w14:=ei 14 p
 have w4:=ei 4 n
 have kN1:=λrows k=>kNumb rows k (.cI L8 (bs p) e) p (ez.to (.inr ⟨e,rfl⟩)) (by omega)
 have kN2:=λex k=>kNumb [some ⟨.ar 16 L8,[.agg (.ar 16 L8) (bs n)]⟩,some ⟨cJ,us (words 14 p)⟩] k (.sl L8 0 [0] 0 16 ex) n (aU.tf (n:=16) rfl rfl hn) (by omega)
 rw[hp56]at kN1
 rw[hn]at kN2
 have hsr:(us (words 4 n)).take 4=us (words 4 n):=aaq (by rw[lZ,w4];exact aaz _)
 have hu4:(us (words 4 n)).length=4:=by rw[lZ,w4]
 have hu14:(us (words 14 p)).take 14=us (words 14 p):=aaq (by rw[lZ,w14];exact aaz _)
 have hv14:(us (words 14 p)).length=14:=by rw[lZ,w14]
 have hwl:(words 14 p++words 4 n).length=18:=by rw[aao,w14,w4]
 have hW:∀i,i<18->(us c.w)[9+i]?=some (.raw (u32 0#32)):=λi hi=>by
  have h2:(c.w.drop 9)[i]'(by rw[aar];omega)=0#32:=ac1 (aa7.1 hz _ (abz _))
  rw[ia (by omega),aaH,aap (by omega)]
  rw[aeo]at h2
  simp[h2]
 simp only[Av,↓ah,aj,simprocAttr,aM,nb,h1,kL,hp56,aB,h3,kN1,kN2,hsr,hu4,hu14,hv14]
 rw[TB]
 generalize words 14 p++words 4 n=l at*
 refine bg 18 (λi env rows=>has env [(29,.raw (it (i:Int))),(28,.raw (it 18)),(27,.sl cJ 3 [] 0 18 false),(8,.sl cJ 3 [] 0 18 false),(0,tN c)]/\live rows 3=some ⟨cJ,us l⟩) ?_ ?_ ⟨?_,rfl⟩
 ·rintro i hi env rows ⟨hh,hq⟩ R hR
  simp only[has]at hh
  have e0:((i:Int)<18)=True:=aas (by omega)
  have e1:=ca i (by omega)
  have e2:wz (9+(i:Int))=((9+i:Nat):Int):=by rw[aZ (by omega)];omega
  have e3:(((9+i:Nat):Int)<64)=True:=aas (by omega)
  have g:=ia (l:=l) (i:=i) (by omega)
  have g2:=hW i hi
  have z:∀v:BitVec 32,0#32&&&~~~v=0#32:=λv=>BitVec.zero_and
  simp only[↓ah,aj,simprocAttr,aM,hh,hq,e0,e1,e2,e3,g,g2,z,h0,kA,abj,aaB]
  exact hR _ _ ⟨by simp only[has,↓ah,aj,simprocAttr,hh],ae hq _⟩
 ·rintro env rows ⟨hh,hq⟩ R
  simp only[has]at hh
  have e0:((18:Int)<18)=False:=aax (by omega)
  have hr:=bk.us (rows:=rows) (r:=3) (off:=0) (len:=18) (ex:=false) hq (by omega)
  rw[abi,aaq (by omega)]at hr
  have kP:=λk=>kPlan c 9 9 rfl hr hc (by omega) k
  simp only[↓ah,aj,simprocAttr,aM,hh,e0,h2,kP]
  exact .KB _ _ _ _ _ _ _ _ (by rw[bw];rfl) rfl rfl (λh=>by cases h)
 ·simp only[has,↓ah,aj,simprocAttr]
theorem kToKey{rows:Rows}{d e:D}{c:rU}{p:List (BitVec 8)}(h:bk rows (bx tN) d c)(hc:c.ws.length=64)(hb:aU rows e p)(hp:p.length=56)(hl:ey c=0)(hz:∀w∈c.w.drop 9,w=0#32)(k:D->Rows->Prop):
  aI N7 rows k [d,e,.agg (.ar 16 L8) (bs idL)]=k (.cA [.sl K1 (0+rows.length) [] 0 (jV c.w 9 (words 14 p++words 4 idL)).length false,.raw (it 0)]) (rows++[some ⟨K1,(jV c.w 9 (words 14 p++words 4 idL)).map wrD⟩]):=by
 refine(fH h (.bs hb) (G5 idL) (by simp[hc,hp,hl,idL];simpa using hz) rfl k).trans ?_
 simp[Qw,shift,bB,ab,Sh.pure]
end jU
end Go.Am

namespace Go.Am
attribute [local congr] dq bW dt bX bY cB bI bZ b5 cC bu cD b6 dj
namespace jU
open Go.Am.F
def zp(t:Nat)(s:Site)(c msg:List (BitVec 8)):List Nat:=bV t (dY s.id s.q c msg)
theorem N8(t:Nat)(s:Site)(c msg:List (BitVec 8)):(zp t s c msg).length=pT t:=by simp[zp,bV,uL]
theorem G9{t:Nat}(h:sr t=true)(d:List (BitVec 8))(i:Nat):(bV t d).getD i 0<=2^wT t-1:=by
 by_cases c:i<(bV t d).length
 ·have hc:=c
  simp only[bV,uL,aaE,ac2]at hc
  simp only[bV,uL,List.getD,abu,adB hc,acN,acI]
  exact Dn _ _ _ (gI h).1
 ·rw[List.getD,abh (by omega)];exact acp _
def lE(t:Nat)(s:Site)(aF c msg:List (BitVec 8))(n:Nat):List (List (BitVec 8)):=(List.range n).map λi=>zn s.id s.q i ((zp t s c msg).getD i 0) 0 (uJ s.id s.q i aF)
theorem ES(t:Nat)(s:Site)(aF c msg:List (BitVec 8))(n:Nat):∀x∈lE t s aF c msg n,x.length=32:=by
 intro x hx
 obtain⟨i,-,rfl⟩:=acS.1 hx
 exact qu _ _ _ _ _ _ (ij _ _ _ _ _)
def nc(t:BitVec 32)(s:Site)(aF c msg:List (BitVec 8)):List (BitVec 8):=bi t++c++(lE t.toNat s aF c msg (pT t.toNat)).flatten
theorem uN(t:BitVec 32)(s:Site)(aF c msg:List (BitVec 8))(hc:c.length=32):(nc t s aF c msg).length=36+32*pT t.toNat:=by
 rw[nc,aao,aao,px (ES _ _ _ _ _ _),hc,lE,aaE,ac2];rfl
noncomputable def VM:Fn:=gn5 qs (bx dS) (bx aO) (bx aO) dB (λ_ s x c _=>decide (s.id.length=16)&&decide (x.length=32)&&decide (c.length=32)) λt s x c m=>bif sr t.toNat then(.cA [.sl L8 0 [] 0 (36+32*pT t.toNat) false,.raw (it 0)],[some ⟨L8,bs (nc t s x c m)⟩])else(.cA [.raw (.slice none 0 0),.raw (it 6)],[])
theorem sign_ok(C:bf)(hC:aJ C P)(h1:C.fn 37=some j8)(h2:C.fn 167=some Aw)(h3:C.fn 100=some yQ)(h4:C.fn 98=some yd)(h5:C.fn 111=some Jm)(h6:C.fn 110=some vG):aN C.aX P 112 (Fn.run VM):=by
 refine aG (Tp C hC) λds rows r h=>?_
 obtain⟨d0,d1,d2,d3,d4,t,s,aF,c,msg,rfl,rfl,g0,g1,g2,g3,g4,hp,rfl⟩:=Qn h
 cases dH g0
 cases aE g1
 cases aE g2
 cases aE g3
 have gm:=dR g4
 simp only[aan,aat]at hp
 obtain⟨⟨eY,n9⟩,jZ⟩:=hp
 clear h g0 g1 g2 g3 g4
 have hz:D.agg pz [.raw (it 0),.raw (it 0),.raw (it 0)]=ib ⟨0,0,0⟩:=rfl
 have kP:=λrows k=>jJ rows k t
 cases hk:sr t.toNat
 ·rw[hk]at kP
  refine⟨rfl,ag rfl ?_⟩
  unfold A3 A4
  simp only[hz,dw]
  simp only[↓ah,aj,simprocAttr,aM,aO,h1,kP,cL,cS,aba,aaM]
  exact .val _ rfl
 ·have hpt:pT t.toNat<=265:=(gI hk).2.2.1
  have hpw:2^wT t.toNat<=256:=EQ (gI hk).1
  have hsg:nc t s aF c msg=bi t++c++(lE t.toNat s aF c msg (pT t.toNat)).flatten:=rfl
  have ww:=G9 hk (dY s.id s.q c msg)
  have pU:=N8 t.toNat s c msg
  have H9:(dY s.id s.q c msg).length=32:=cm _
  have kD:=λrows k=>G6 rows k t (dY s.id s.q c msg) H9 hk
  have Kx:∀i,(lE t.toNat s aF c msg i).flatten++zn s.id s.q i ((zp t.toNat s c msg).getD i 0-0) 0 (uJ s.id s.q i aF)=(lE t.toNat s aF c msg (i+1)).flatten:=λi=>by simp[lE,abN]
  have my:∀i,(bi t++c++(lE t.toNat s aF c msg i).flatten).length=36+32*i:=λi=>by
   rw[aao,aao,px (ES _ _ _ _ _ _),jZ,lE,aaE,ac2];rfl
  rw[hk]at kP
  refine⟨rfl,ag rfl ?_⟩
  unfold A3 A4
  simp only[hz,dw]
  simp only[↓ah,aj,simprocAttr,aM,aO,h1,kP,cL,cS,h2,Qp,aa8,aaU]
  rw[oP (n:=32) rfl rfl jZ]
  have tk:List.take 4 (bs (bi t))=bs (bi t):=rfl
  refine⟨by rw[aB];exact jZ,rfl,by rw[aB];omega,by rw[aB];omega,?_⟩
  rw[tk,j3,aB,jZ]
  simp only[↓ah,aj,simprocAttr,aM,h5]
  refine Eq.mpr (Vz _ _ s c msg d4 (gm.to) eY jZ) ?_
  simp only[↓ah,aj,simprocAttr,aM,h6,kD]
  have hf0:bi t++c++(lE t.toNat s aF c msg 0).flatten=bi t++c:=by simp[lE]
  refine bg (pT t.toNat) (λi env rows=>has env [(36,.raw (it (i:Int))),(35,.raw (it (pT t.toNat:Int))),(34,.sl LI 6 [] 0 (pT t.toNat) false),(7,.ptr (.ar 32 L8) 1 [0]),(6,.ptr nQ 0 [0])]/\
   live rows 0=some ⟨nQ,[dS s]⟩/\live rows 1=some ⟨.ar 32 L8,[.agg (.ar 32 L8) (bs aF)]⟩/\live rows 6=some ⟨LI,(bV t.toNat (dY s.id s.q c msg)).map sC⟩/\
   ∃d',look env 14=some d'/\iT L8 d' rows (bs (bi t++c++(lE t.toNat s aF c msg i).flatten))) ?_ ?_ ⟨?_,rfl,rfl,rfl,.sl L8 5 [] 0 36 false,?_,.inr ⟨5,false,by rw[aB,my 0],by rw[hf0];rfl⟩⟩
  ·rintro i hi env rows ⟨hh,r0,r1,r6,d',h14,hO⟩ R hR
   simp only[has]at hh
   have e0:((i:Int)<(pT t.toNat:Int))=True:=aas (by omega)
   have e1:=ca i (by omega)
   have b0:∀n:Nat,((0:Int)<=(n:Int))=True:=λn=>aas (by omega)
   have hai:=ww i
   have gi:((bV t.toNat (dY s.id s.q c msg)).map sC)[i]?=some (.raw (it ((zp t.toNat s c msg).getD i 0:Int))):=by
    have hl:i<(bV t.toNat (dY s.id s.q c msg)).length:=by rw[show(bV t.toNat (dY s.id s.q c msg)).length=pT t.toNat from pU];exact hi
    simp[sC,zp,List.getD,hl]
   have hai:(zp t.toNat s c msg).getD i 0<=255:=by have:(zp t.toNat s c msg).getD i 0<=2^wT t.toNat-1:=hai;omega
   have hs:=Kx i
   generalize (zp t.toNat s c msg).getD i 0=ai at*
   have kS:=λrows k=>N3 rows k s i aF eY (by omega) n9
   have kC:=λrows k=>Jl rows k s i 0 ai (uJ s.id s.q i aF) eY (by omega) (by decide) (by omega) (ij _ _ _ _ _)
   have hx:=qu s.id s.q i (ai-0) 0 (uJ s.id s.q i aF) (ij _ _ _ _ _)
   rw[show((0:Nat):Int)=0 from rfl]at kC
   generalize zn s.id s.q i (ai-0) 0 (uJ s.id s.q i aF)=xi at*
   have ea:∀ex,elems (rows++[some ⟨.ar 32 L8,[.agg (.ar 32 L8) (bs xi)]⟩]) (.sl L8 rows.length [0] 0 32 ex)=some (bs xi):=λex=>oP (n:=32) (by rw[bw];rfl) rfl hx
   simp only[↓ah,aj,simprocAttr,aM,hh,e0,e1,b0,h14,cS,r0,r1,r6,gi,h3,kS,h4,kC,ea,aB,hx]
   refine iq hO.push (by rw[aB,aB,hx,my];simp[most];omega) (by rw[aB,aB,hx,my];simp[most];omega) λd2 aa F6 qo wv _=>?_
   rw[j3,aaC _ _ xi,hs]at F6
   have Zv:=qo 0 _ (ae r0 _) (λex=>jI hO r0 (by decide) ex _)
   have r1':=qo 1 _ (ae r1 _) (λex=>jI hO r1 (by decide) ex _)
   have r6':=qo 6 _ (ae r6 _) (λex=>jI hO r6 (by decide) ex _)
   simp only[↓ah,aj,simprocAttr,aM,hh,e1]
   exact hR _ _ ⟨by simp only[has,↓ah,aj,simprocAttr,hh],Zv,r1',r6',d2,by simp only[↓ah,aj,simprocAttr],F6⟩
  ·rintro env rows ⟨hh,r0,r1,r6,d',h14,hO⟩ R
   simp only[has]at hh
   have e0:((pT t.toNat:Int)<(pT t.toNat:Int))=False:=aax (by omega)
   rw[<-hsg]at hO
   simp only[↓ah,aj,simprocAttr,aM,hh,e0,h14,hO.pM]
   have hl:=uN t s aF c msg jZ
   rcases hO with⟨h,_⟩|⟨r,ex,rfl,hlv⟩
   ·have:=abB List.length h;rw[aB,hl]at this;simp at this
   ·rw[aB,hl]
    exact .KB L8 r 0 _ ex false _ _ hlv rfl rfl (λh=>by cases h)
  ·simp only[has,↓ah,aj,simprocAttr]
  ·simp only[↓ah,aj,simprocAttr]
theorem kSign(rows:Rows)(k:D->Rows->Prop)(t:BitVec 32)(s:Site)(x c m:List (BitVec 8))(d:D)(hd:aU rows d m)(eY:s.id.length=16)(hx:x.length=32)(hc:c.length=32)(ht:sr t.toNat=true):
  aI VM rows k [.raw (u32 t),dS s,.agg (.ar 32 L8) (bs x),.agg (.ar 32 L8) (bs c),d]=k (.cA [.sl L8 (0+rows.length) [] 0 (36+32*pT t.toNat) false,.raw (it 0)]) (rows++[some ⟨L8,bs (nc t s x c m)⟩]):=by
 refine(Qo (bk.raw (eO t)) (lQ s rows) (iM x) (iM c) (.bs hd) (by simp[eY,hx,hc]) (by simp[ht,cj,jG,aO,Sh.pure,be]) k).trans ?_
 simp[ht,shift,bB,ab,Sh.pure]
def dJ(p:List (BitVec 8)):BitVec 32:=cR p
def gS(p:List (BitVec 8)):Int:=if p.length<4 then 2 else bif !sr (dJ p).toNat then 6 else if p.length=36+32*pT (dJ p).toNat then 0 else 2
def chunk(p:List (BitVec 8))(i:Nat):List (BitVec 8):=(p.drop (36+32*i)).take 32
def chunks(p:List (BitVec 8))(n:Nat):List (List (BitVec 8)):=(List.range n).map (chunk p)
def fh(p:List (BitVec 8)):List (BitVec 8):=(p.drop 4).take 32
def ET:Fn:=mV dB (λp=>decide (p.length<=1099511627776)) λp=>if gS p=0 then(.cA [.raw (u32 (dJ p)),aO (fh p),.sl (.ar 32 L8) 0 [] 0 (pT (dJ p).toNat) false,.raw (it 0)],[some ⟨.ar 32 L8,(chunks p (pT (dJ p).toNat)).map aO⟩])
 else(.cA [.raw (u32 0#32),aO qg,.raw (.slice none 0 0),.raw (it (gS p))],[])
theorem split_ok(C:bf)(hC:aJ C P)(h1:C.fn 37=some j8):aN C.aX P 147 (Fn.run ET):=by
 refine bU (P4 C hC) λds rows r h=>?_
 obtain⟨d,p,rfl,rfl,g0,hp,rfl⟩:=a8 h
 obtain⟨ex,hx⟩:=cb g0
 simp only[aat]at hp
 refine⟨rfl,_,.cons hx .nil,ag rfl ?_⟩
 clear h g0 hx
 have hz:D.agg pz [.raw (it 0),.raw (it 0),.raw (it 0)]=ib ⟨0,0,0⟩:=rfl
 unfold FQ FR
 simp only[hz,dw]
 by_cases c4:p.length<4
 ·have c4':((p.length:Int)<4)=True:=aas (by omega)
  have he:gS p=2:=by rw[gS,aaI c4]
  rw[he,aaA (by decide)]
  simp only[↓ah,aj,simprocAttr,aM,aB,c4',aav]
  exact .val _ rfl
 have c4':((p.length:Int)<4)=False:=aax (by omega)
 have b0:∀n:Nat,((0:Int)<=(n:Int))=True:=λn=>aas (by omega)
 have b1:((1:Int)<(p.length:Int))=True:=aas (by omega)
 have b2:((2:Int)<(p.length:Int))=True:=aas (by omega)
 have b3:((3:Int)<(p.length:Int))=True:=aas (by omega)
 have b4:((0:Int)<(p.length:Int))=True:=aas (by omega)
 have t0:(bs p)[0]?=some (.raw (u8 (p.getD 0 0#8))):=j4 (by omega)
 have t1:(bs p)[1]?=some (.raw (u8 (p.getD 1 0#8))):=j4 (by omega)
 have t2:(bs p)[2]?=some (.raw (u8 (p.getD 2 0#8))):=j4 (by omega)
 have t3:(bs p)[3]?=some (.raw (u8 (p.getD 3 0#8))):=j4 (by omega)
 have hsT:(p.getD 0 0#8).setWidth 32<<<24|||(p.getD 1 0#8).setWidth 32<<<16|||(p.getD 2 0#8).setWidth 32<<<8|||(p.getD 3 0#8).setWidth 32=dJ p:=rfl
 have kP:=λrows k=>jJ rows k (dJ p)
 cases hk:sr (dJ p).toNat
 ·have he:gS p=6:=by rw[gS,aaA c4,hk];rfl
  rw[he,aaA (by decide)]
  rw[hk]at kP
  simp only[↓ah,aj,simprocAttr,aM,aB,c4',b0,b1,b2,b3,b4,t0,t1,t2,t3,aaw,h1,hsT,kP,cL,aba]
  exact .val _ rfl
 have hpt:pT (dJ p).toNat<=265:=(gI hk).2.2.1
 have g1:(ib (lC (dJ p).toNat)).get [1]=some (.raw (it (pT (dJ p).toNat:Int))):=rfl
 have q1:wz ((pT (dJ p).toNat:Int)+1)=((pT (dJ p).toNat+1:Nat):Int):=ca _ (by omega)
 have q2:wz (32*((pT (dJ p).toNat+1:Nat):Int))=((32*(pT (dJ p).toNat+1):Nat):Int):=by rw[aZ (by omega)];omega
 have q3:wz (4+((32*(pT (dJ p).toNat+1):Nat):Int))=((36+32*pT (dJ p).toNat:Nat):Int):=by rw[aZ (by omega)];omega
 rw[hk]at kP
 by_cases cl:p.length=36+32*pT (dJ p).toNat
 ·have cl':((p.length:Int)=((36+32*pT (dJ p).toNat:Nat):Int))=True:=aas (by omega)
  have he:gS p=0:=by rw[gS,aaA c4,hk,aaI cl];rfl
  rw[aaI he]
  have g36:((36:Int)<=(p.length:Int))=True:=aas (by omega)
  simp only[↓ah,aj,simprocAttr,aM,aB,c4',b0,b1,b2,b3,b4,t0,t1,t2,t3,aaw,aav,h1,hsT,kP,cL,aa8,g1,q1,q2,q3,cl',g36,eP,dO]
  have hd0:(p.drop 36).take (p.length-36)=p.drop 36:=aaq (by rw[aar];omega)
  rw[hd0]
  generalize qJ none p.length p.length p.length ex=ex0
  have OU:1<=pT (dJ p).toNat:=by rcases EN hk with e|e|e|e<;>rw[e]<;>decide
  generalize pT (dJ p).toNat=NP at*
  generalize dJ p=T at*
  have jZ:∀i,i<NP->(chunk p i).length=32:=λi hi=>by rw[chunk,aau,aar];omega
  have hds:∀i,(chunks p i).map aO++[.agg (.ar 32 L8) (bs (chunk p i))]=(chunks p (i+1)).map aO:=λi=>by simp[chunks,abN,aO]
  have pU:∀i,(chunks p i).length=i:=λi=>by simp[chunks]
  refine bg NP (λi env rows=>has env [(6,.raw (u32 T)),(0,.cI L8 (bs p) ex),(3,.ptr (.ar 32 L8) 0 [0])]/\live rows 0=some ⟨.ar 32 L8,[.agg (.ar 32 L8) (bs qg)]⟩/\
   (∃e',look env 10=some (.cI L8 (bs (p.drop (36+32*i))) e'))/\∃d',look env 9=some d'/\iT (.ar 32 L8) d' rows ((chunks p i).map aO)/\(∀r ex n,d'= .sl (.ar 32 L8) r [] 0 n ex->1<=r)) ?_ ?_ ⟨?_,rfl,⟨ex0,?_⟩,.raw (.slice none 0 0),?_,.inl ⟨rfl,rfl⟩,λr ex n h=>?_⟩
  ·rintro i hi env rows ⟨hh,r0,⟨e',h10⟩,d',h9,hO,hne⟩ R hR
   simp only[has]at hh
   have DZ:(p.drop (36+32*i)).length=32*(NP-i):=by rw[aar];omega
   have e0:((0:Int)<((32*(NP-i):Nat):Int))=True:=aas (by omega)
   have e1:((32:Int)<=((32*(NP-i):Nat):Int))=True:=aas (by omega)
   have lt0:=bb r0
   simp only[↓ah,aj,simprocAttr,aM,hh,h10,h9,aB,DZ,e0,e1,eP,dO,aav]
   have Ay:List.take 32 (List.drop (36+32*i) p)=chunk p i:=rfl
   have hch2:List.take 32 (chunk p i)=chunk p i:=aaq (by rw[jZ i hi];exact aaz _)
   simp only[Ay,hch2]
   refine⟨by rw[jZ i hi];exact aaz _,uH hO.push (by rw[aaE,pU];simp[most];omega) (by rw[aaE,pU];simp[most];omega) λaa nV qo wv=>?_⟩
   rw[hds,aao]at nV
   have nV:live aa (rows.length+1)=_:=nV
   have Zv:=qo 0 _ (ae r0 _) (λex n e=>by have:=hne _ _ _ e;omega)
   have Pz:List.take (32*(NP-i)-32) (List.drop 32 (List.drop (36+32*i) p))=p.drop (36+32*(i+1)):=by
    rw[abv,show 36+32*i+32=36+32*(i+1) by omega,aaq (by rw[aar];omega)]
   simp only[↓ah,aj,simprocAttr,aM,hh,h10,aB,DZ,e1,eP,dO,Pz]
   refine hR _ _ ⟨by simp only[has,↓ah,aj,simprocAttr,hh],Zv,⟨qJ none (32*(NP-i)) (32*(NP-i)) (32*(NP-i)) e',by simp only[↓ah,aj,simprocAttr]⟩,.sl (.ar 32 L8) (rows.length+1) [] 0 ((chunks p i).length+1) false,by simp only[↓ah,aj,simprocAttr,aaE],.inr ⟨_,false,by rw[aaE,pU,pU],nV⟩,λr ex n e=>by injection e with _ e;omega⟩
  ·rintro env rows ⟨hh,r0,⟨e',h10⟩,d',h9,hO,hne⟩ R
   simp only[has]at hh
   have DZ:(p.drop (36+32*NP)).length=0:=by rw[aar];omega
   have g36:((36:Int)<=(p.length:Int))=True:=aas (by omega)
   have w0:=λy=>aD (y:=y) r0
   simp only[↓ah,aj,simprocAttr,aM,hh,h10,h9,aB,DZ,g36,eP,dO,hO.pM,r0]
   have hsc:List.take 32 (List.drop 4 p)=fh p:=rfl
   have kf:(fh p).length=32:=by rw[fh,aau,aar];omega
   have hsc2:List.take 32 (fh p)=fh p:=aaq (by rw[kf];exact aaz _)
   simp only[hsc,hsc2,w0]
   refine⟨by rw[kf];exact aaz _,?_⟩
   rcases hO with⟨h,_⟩|⟨r,N9,rfl,hlv⟩
   ·have:=abB List.length h;rw[aaE,pU]at this;simp at this;omega
   ·have hr0:=hne r N9 _ rfl
    have hlv2:=df (y:=⟨.ar 32 L8,[.agg (.ar 32 L8) (bs (fh p))]⟩) hlv (q:=0) (by omega)
    rw[aaE,pU]
    exact .ownU [.raw (u32 T),aO (fh p)] (.ar 32 L8) r 0 _ N9 false _ [.raw (it 0)] hlv2 rfl rfl rfl (λh=>by cases h)
  ·simp only[has,↓ah,aj,simprocAttr]
  ·simp only[↓ah,aj,simprocAttr]
  ·simp only[↓ah,aj,simprocAttr]
  ·cases h
 ·have cl':((p.length:Int)=((36+32*pT (dJ p).toNat:Nat):Int))=False:=aax (by omega)
  have he:gS p=2:=by rw[gS,aaA c4,hk,aaA cl];rfl
  rw[he,aaA (by decide)]
  simp only[↓ah,aj,simprocAttr,aM,aB,c4',b0,b1,b2,b3,b4,t0,t1,t2,t3,aaw,h1,hsT,kP,cL,aa8,g1,q1,q2,q3,cl']
  exact .val _ rfl
theorem kSplit(rows:Rows)(k:D->Rows->Prop)(d:D)(p:List (BitVec 8))(hd:aU rows d p)(hp:p.length<=1099511627776)(he:gS p=0):
  aI ET rows k [d]=k (.cA [.raw (u32 (dJ p)),.agg (.ar 32 L8) (bs (fh p)),.sl (.ar 32 L8) (0+rows.length) [] 0 (pT (dJ p).toNat) false,.raw (it 0)]) (rows++[some ⟨.ar 32 L8,(chunks p (pT (dJ p).toNat)).map aO⟩]):=by
 refine(cO (.bs hd) (by simp[hp]) (by simp[he,cj,jG,aO,Sh.pure,be]) k).trans ?_
 simp[he,aO,shift,bB,ab,Sh.pure]
theorem kSplitE(rows:Rows)(k:D->Rows->Prop)(d:D)(p:List (BitVec 8))(hd:aU rows d p)(hp:p.length<=1099511627776)(he:¬gS p=0):
  aI ET rows k [d]=k (.cA [.raw (u32 0#32),.agg (.ar 32 L8) (bs qg),.raw (.slice none 0 0),.raw (it (gS p))]) rows:=by
 refine(cO (.bs hd) (by simp[hp]) (by simp[he,cj,jG,aO,Sh.pure,be]) k).trans ?_
 simp[he,aO,shift,bB,ab,Sh.pure]
theorem VN{p:List (BitVec 8)}(h:gS p=0):4<=p.length/\sr (dJ p).toNat=true/\p.length=36+32*pT (dJ p).toNat:=by
 unfold gS at h
 split at h
 ·cases h
 ·cases hk:sr (dJ p).toNat with
  |false=>rw[hk]at h;cases h
  |true=>
   rw[hk]at h
   simp only[aa8,aaM]at h
   split at h
   ·exact⟨by omega,rfl,by assumption⟩
   ·cases h
def Jq(s:Site)(p msg:List (BitVec 8))(i:Nat):List (BitVec 8):=
 zn s.id s.q i (2^wT (dJ p).toNat-1-(zp (dJ p).toNat s (fh p) msg).getD i 0) ((zp (dJ p).toNat s (fh p) msg).getD i 0) (chunk p i)
def OV(s:Site)(p msg:List (BitVec 8))(n i:Nat):List (List (BitVec 8)):=(List.range n).map λj=>if j<i then Jq s p msg j else chunk p j
def mH(s:Site)(p msg:List (BitVec 8)):List (BitVec 8):=Dl s.id s.q ((List.range (pT (dJ p).toNat)).map (Jq s p msg))
theorem clL_0(s:Site)(p msg:List (BitVec 8))(n:Nat):OV s p msg n 0=chunks p n:=by simp[OV,chunks]
theorem clL_n(s:Site)(p msg:List (BitVec 8))(n:Nat):OV s p msg n n=(List.range n).map (Jq s p msg):=by
 apply acC
 intro j hj
 rw[aaI (adq.1 hj)]
theorem clL_set(s:Site)(p msg:List (BitVec 8))(n i:Nat)(h:i<n):(OV s p msg n i).set i (Jq s p msg i)=OV s p msg n (i+1):=by
 apply acH (by simp[OV])
 intro j h1 h2
 have hj:j<n:=by simpa[OV]using h2
 rw[List.getElem_set]
 by_cases c:i=j
 ·subst c;simp[OV]
 ·rw[aaA c]
  simp only[OV,ady,List.getElem_range]
  by_cases c2:j<i
  ·rw[aaI c2,aaI (by omega)]
  ·rw[aaA c2,aaA (by omega)]
theorem VO{s:Site}{p msg:List (BitVec 8)}{i:Nat}(h:(chunk p i).length=32):(Jq s p msg i).length=32:=qu _ _ _ _ _ _ h
noncomputable def Jr:Fn:=GY (bx dS) dB dB (λs p m=>decide (s.id.length=16)&&decide (p.length<=1099511627776)) λs p m=>if gS p=0 then(.cA [aO (mH s p m),.raw (it 0)],[])else(.cA [aO qg,.raw (it (gS p))],[])
theorem claim_ok(C:bf)(hC:aJ C P)(h1:C.fn 37=some j8)(h2:C.fn 99=some X3)(h4:C.fn 98=some yd)(h5:C.fn 111=some Jm)(h6:C.fn 110=some vG)(h7:C.fn 147=some ET)(h8:C.fn 101=some Qq):aN C.aX P 90 (Fn.run Jr):=by
 refine aG (PZ C hC) λds rows r h=>?_
 obtain⟨d0,d1,d2,s,p,msg,rfl,rfl,g0,g1,g2,hp,rfl⟩:=fp h
 cases aE g0
 have gp:=dR g1
 have gm:=dR g2
 simp only[aan,aat]at hp
 obtain⟨eY,tV⟩:=hp
 clear h g0 g1 g2
 have hz:D.agg pz [.raw (it 0),.raw (it 0),.raw (it 0)]=ib ⟨0,0,0⟩:=rfl
 refine⟨rfl,ag rfl ?_⟩
 unfold FK FL
 simp only[hz,dw]
 by_cases he:gS p=0
 ·rw[aaI he]
  obtain⟨h4l,hk,hl⟩:=VN he
  have kSp:=λrows k=>kSplit rows k d1 p gp.to tV he
  have hcS:mH s p msg=Dl s.id s.q (OV s p msg (pT (dJ p).toNat) (pT (dJ p).toNat)):=by rw[clL_n,mH]
  have tE:=clL_set s p msg (pT (dJ p).toNat)
  have h00:=clL_0 s p msg (pT (dJ p).toNat)
  have hcE:∀i,Jq s p msg i=zn s.id s.q i (2^wT (dJ p).toNat-1-(zp (dJ p).toNat s (fh p) msg).getD i 0) ((zp (dJ p).toNat s (fh p) msg).getD i 0) (chunk p i):=λi=>rfl
  have hpt:pT (dJ p).toNat<=265:=(gI hk).2.2.1
  have hpw:2^wT (dJ p).toNat<=256:=EQ (gI hk).1
  have kP:=λrows k=>jJ rows k (dJ p)
  have kE:=λrows k=>kEnd rows k (lC (dJ p).toNat) (gI hk).1
  have hew:(lC (dJ p).toNat).w=wT (dJ p).toNat:=rfl
  rw[hk]at kP
  rw[hew]at kE
  have hc32:(fh p).length=32:=by rw[fh,aau,aar];omega
  have Ay:∀i,i<pT (dJ p).toNat->(chunk p i).length=32:=λi hi=>by rw[chunk,aau,aar];omega
  have kM:=λrows k=>Vz rows k s (fh p) msg d2 (gm.to) eY hc32
  have H9:(dY s.id s.q (fh p) msg).length=32:=cm _
  have kD:=λrows k=>G6 rows k (dJ p) (dY s.id s.q (fh p) msg) H9 hk
  have pU:=N8 (dJ p).toNat s (fh p) msg
  have ww:=G9 hk (dY s.id s.q (fh p) msg)
  simp only[↓ah,aj,simprocAttr,aM,aO,cS,cL,h7,kSp,h1,kP,h5,kM,h6,kD]
  rw[<-h00]
  have lK:∀i,i<pT (dJ p).toNat->((OV s p msg (pT (dJ p).toNat) i).map aO)[i]?=some (.agg (.ar 32 L8) (bs (chunk p i))):=λi hi=>by
   simp[OV,aO,hi]
  have HD:∀i,(OV s p msg (pT (dJ p).toNat) i).length=pT (dJ p).toNat:=λi=>by simp[OV]
  have hsm:∀i,i<pT (dJ p).toNat->((OV s p msg (pT (dJ p).toNat) i).map aO).set i (.agg (.ar 32 L8) (bs (Jq s p msg i)))=(OV s p msg (pT (dJ p).toNat) (i+1)).map aO:=λi hi=>by
   rw[<-tE i hi,acr];rfl
  have qE:∀x∈OV s p msg (pT (dJ p).toNat) (pT (dJ p).toNat),x.length=32:=by
   intro x hx
   rw[clL_n]at hx
   obtain⟨i,hi,rfl⟩:=acS.1 hx
   exact VO (Ay i (adq.1 hi))
  have g0':∀i,i<pT (dJ p).toNat->((bV (dJ p).toNat (dY s.id s.q (fh p) msg)).map sC)[i]?=some (.raw (it ((zp (dJ p).toNat s (fh p) msg).getD i 0:Int))):=λi hi=>by
   have hl:i<(bV (dJ p).toNat (dY s.id s.q (fh p) msg)).length:=by rw[show(bV (dJ p).toNat (dY s.id s.q (fh p) msg)).length=pT (dJ p).toNat from pU];exact hi
   simp[sC,zp,List.getD,hl]
  have b0:∀n:Nat,((0:Int)<=(n:Int))=True:=λn=>aas (by omega)
  have hdg':∀i,(zp (dJ p).toNat s (fh p) msg).getD i 0<=2^wT (dJ p).toNat-1:=ww
  generalize bV (dJ p).toNat (dY s.id s.q (fh p) msg)=DG at*
  generalize pT (dJ p).toNat=n at*
  refine bg n (λi env rows=>has env [(39,.raw (it (i:Int))),(38,.raw (it (n:Int))),(37,.sl LI 5 [] 0 n false),(12,.ptr pz 4 [0]),(10,.sl (.ar 32 L8) 2 [] 0 n false),(6,.ptr (.ar 32 L8) 1 [0]),(3,.ptr nQ 0 [0])]/\
   rows=[some ⟨nQ,[dS s]⟩,some ⟨.ar 32 L8,[.agg (.ar 32 L8) (bs qg)]⟩,some ⟨.ar 32 L8,(OV s p msg n i).map aO⟩,some ⟨.ar 32 L8,[.agg (.ar 32 L8) (bs (fh p))]⟩,some ⟨pz,[ib (lC (dJ p).toNat)]⟩,some ⟨LI,DG.map sC⟩]) ?_ ?_ ⟨?_,rfl⟩
  ·rintro i hi env rows ⟨hh,rfl⟩ R hR
   simp only[has]at hh
   have e0:((i:Int)<(n:Int))=True:=aas (by omega)
   have e1:=ca i (by omega)
   have hx:=Ay i hi
   have kC:=λrows k=>Jl rows k s i ((zp (dJ p).toNat s (fh p) msg).getD i 0) (2^wT (dJ p).toNat-1) (chunk p i) eY (by omega) (by have:=hdg' i;omega) (by omega) hx
   rw[<-hcE i]at kC
   have gi:=g0' i hi
   have gl:=lK i hi
   have gs:=hsm i hi
   simp only[↓ah,aj,simprocAttr,aM,hh,e0,e1,b0,cS,cL,gi,h2,kE,gl,h4,kC,gs]
   exact hR _ _ ⟨by simp only[has,↓ah,aj,simprocAttr,hh],rfl⟩
  ·rintro env rows ⟨hh,rfl⟩ R
   simp only[has]at hh
   have e0:((n:Int)<(n:Int))=False:=aax (by omega)
   simp only[↓ah,aj,simprocAttr,aM,hh,e0,cS,h8]
   refine Eq.mpr (kFold _ _ s _ _ (bk.dl rfl (HD n)) eY qE (by rw[HD];omega)) ?_
   rw[<-hcS]
   simp only[↓ah,aj,simprocAttr,aM,hh]
   exact .val _ rfl
  ·simp only[has,↓ah,aj,simprocAttr]
 ·rw[aaA he]
  have kSp:=λrows k=>kSplitE rows k d1 p gp.to tV he
  have he':(gS p=0)=False:=aax he
  simp only[↓ah,aj,simprocAttr,aM,aO,cS,h7,kSp,he',aaw,aba]
  exact .val _ rfl
theorem kClaim(rows:Rows)(k:D->Rows->Prop)(s:Site)(d e:D)(p m:List (BitVec 8))(hd:aU rows d p)(hm:aU rows e m)(eY:s.id.length=16)(hp:p.length<=1099511627776)(he:gS p=0):
  aI Jr rows k [dS s,d,e]=k (.cA [.agg (.ar 32 L8) (bs (mH s p m)),.raw (it 0)]) rows:=by
 refine(fH (lQ s rows) (.bs hd) (.bs hm) (by simp[eY,hp]) (by simp[he,cj,jG,aO,Sh.pure,be]) k).trans ?_
 simp[he,aO,shift,bB,ab,Sh.pure]
theorem Js(t:BitVec 32):cR (bi t)=t:=by
 apply aaG
 have h:=XZ ((t>>>24).setWidth 8) ((t>>>16).setWidth 8) ((t>>>8).setWidth 8) (t.setWidth 8)
 rw[show cR (bi t)=cR [(t>>>24).setWidth 8,(t>>>16).setWidth 8,(t>>>8).setWidth 8,t.setWidth 8]from rfl,<-h]
 exact TH t
theorem Jt{l:List (List (BitVec 8))}(h:∀x∈l,x.length=32):∀i (hi:i<l.length),(l.flatten.drop (32*i)).take 32=l[i]:=by
 induction l with
 |nil=>intro i hi;simp at hi
 | cons x l ih =>
  intro i hi
  have hx:=h x (by simp)
  cases i with
  |zero=>rw[Nat.mul_zero,abi,abl,<-hx,aa0];rfl
  |succ i=>
   rw[abl,show 32*(i+1)=x.length+32*i by omega,aeg]
   exact ih (λy hy=>h y (by simp[hy])) i (by simpa using hi)
section
variable (t:BitVec 32) (s:Site) (aF c m:List (BitVec 8))
theorem sig_T:dJ (nc t s aF c m)=t:=by
 rw[dJ,<-qC _ 4 (by decide),nc,aaC]
 show cR (bi t)=t
 exact Js t
variable (hc:c.length=32)
include hc
theorem sig_C:fh (nc t s aF c m)=c:=by
 rw[fh,nc,aaC]
 show(c++(lE t.toNat s aF c m (pT t.toNat)).flatten).take 32=c
 have h:=aa0 (l₁:=c) (l₂:=(lE t.toNat s aF c m (pT t.toNat)).flatten)
 rw[hc]at h
 exact h
theorem Yf(i:Nat)(hi:i<pT t.toNat):chunk (nc t s aF c m) i=zn s.id s.q i ((zp t.toNat s c m).getD i 0) 0 (uJ s.id s.q i aF):=by
 have h36:(bi t++c).length=36:=by rw[aao,hc];rfl
 have tV:(lE t.toNat s aF c m (pT t.toNat)).length=pT t.toNat:=by simp[lE]
 rw[chunk,nc,show 36+32*i=(bi t++c).length+32*i by omega,aeg,Jt (ES _ _ _ _ _ _) i (by omega)]
 simp[lE]
theorem TU(ht:sr t.toNat=true):mH s (nc t s aF c m) m=zo t.toNat s aF:=by
 have hT:=sig_T t s aF c m
 have hC:=sig_C t s aF c m hc
 rw[mH,hT,zo,jE]
 congr 1
 apply acC
 intro i hi
 have hi:=adq.1 hi
 have hle:(zp t.toNat s c m).getD i 0<=2^wT t.toNat-1:=G9 ht _ i
 rw[Jq,hT,hC,Yf t s aF c m hc i hi]
 generalize (zp t.toNat s c m).getD i 0=a at*
 have:=Dk s.id s.q i (2^wT t.toNat-1-a) a 0 (uJ s.id s.q i aF)
 rw[abE]at this
 rw[<-this]
 congr 1
 omega
end
abbrev K2:Sh:= .cons cJ (.cons cJ (.cons (.ar 16 L8) (.cons (.ar 32 L8) .nil)))
noncomputable def Az:Fn:=mV dB (λa=>Nat.ble 4 a.length) λa=>(.raw (u32 (cR a)),[])
theorem lnum_ok(C:bf)(hC:aJ C P):aN C.aX P 146 (Fn.run Az):=by
 refine aG (XJ C hC) λds rows r h=>?_
 obtain⟨d,a,rfl,rfl,hd,hp,rfl⟩:=a8 h
 have ha:=dR hd
 simp only[abo]at hp
 refine⟨rfl,ag rfl ?_⟩
 unfold LP LQ
 have e0:∀(k:D->Rows->Prop) rows,oH (.leaf (.int .u8)) 0 rows k d=k (.cd (.raw (u8 (a.getD 0 0#8)))) rows:=λk rows=>by have:=fX (k:=k) (rows:=rows) (n:=0) ha (by omega);simpa using this
 have e1:∀(k:D->Rows->Prop) rows,oH (.leaf (.int .u8)) 1 rows k d=k (.cd (.raw (u8 (a.getD 1 0#8)))) rows:=λk rows=>by have:=fX (k:=k) (rows:=rows) (n:=1) ha (by omega);simpa using this
 have e2:∀(k:D->Rows->Prop) rows,oH (.leaf (.int .u8)) 2 rows k d=k (.cd (.raw (u8 (a.getD 2 0#8)))) rows:=λk rows=>by have:=fX (k:=k) (rows:=rows) (n:=2) ha (by omega);simpa using this
 have e3:∀(k:D->Rows->Prop) rows,oH (.leaf (.int .u8)) 3 rows k d=k (.cd (.raw (u8 (a.getD 3 0#8)))) rows:=λk rows=>by have:=fX (k:=k) (rows:=rows) (n:=3) ha (by omega);simpa using this
 simp only[↓ah,aj,simprocAttr,e0,e1,e2,e3]
 exact .val _ rfl
theorem kLNum(rows:Rows)(k:D->Rows->Prop)(d:D)(p:List (BitVec 8))(h:aU rows d p)(hp:4<=p.length):aI Az rows k [d]=k (.raw (u32 (cR p))) rows:=by
 refine(cO (bk.bs h) (by simpa using hp) rfl k).trans ?_
 simp[shift,ab]
def hT(t:Nat):Nat:=if 5<=t/\t<=9 then 5*(t-4)else if 3758096384<t/\t<=3758096388 then t-3758096384 else 0
def Ks(t:Nat):Bool:=decide (5<=t/\t<=9\/3758096384<t/\t<=3758096388)
theorem hT_le(t:Nat):hT t<=25:=by
 unfold hT;split
 ·omega
 ·split<;>omega
theorem Yg{t:BitVec 32}(h:Ks t.toNat=true):t=5#32\/t=6#32\/t=7#32\/t=8#32\/t=9#32\/t=3758096385#32\/t=3758096386#32\/t=3758096387#32\/t=3758096388#32:=by
 simp only[Ks,aat]at h
 have:t.toNat=5\/t.toNat=6\/t.toNat=7\/t.toNat=8\/t.toNat=9\/t.toNat=3758096385\/t.toNat=3758096386\/t.toNat=3758096387\/t.toNat=3758096388:=by omega
 have g:∀n,n<4294967296->t.toNat=n->t=BitVec.ofNat 32 n:=λn hn e=>aaG (by rw[e,aaK,aby hn])
 rcases this with h|h|h|h|h|h|h|h|h<;>have:=g _ (by decide) h<;>simp[this]
def yS:Fn:=mV qs (λ_=>true) λt=>(.cA [.raw (it (hT t.toNat:Int)),.raw (.bool (Ks t.toNat))],[])
theorem Yh(C:bf)(hC:aJ C P):aN C.aX P 36 (Fn.run yS):=by
 refine aG (Nw C hC) λds rows r h=>?_
 obtain⟨d,t,rfl,rfl,hd,hp,rfl⟩:=a8 h
 cases dH hd
 refine⟨rfl,ag rfl ?_⟩
 clear h hd
 unfold BY BZ
 cases hk:Ks t.toNat
 ·have hz:hT t.toNat=0:=by
   simp only[Ks,ab7]at hk
   unfold hT;split
   ·omega
   ·split<;>omega
  rw[hz]
  simp only[Ks,ab7]at hk
  have a1:(5#32<=t)=(5<=t.toNat):=propext abS
  have a2:(t<=9#32)=(t.toNat<=9):=propext abS
  have a3:(3758096384#32<t)=(3758096384<t.toNat):=propext acz
  have a4:(t<=3758096388#32)=(t.toNat<=3758096388):=propext abS
  by_cases c1:5<=t.toNat<;>by_cases c2:t.toNat<=9<;>by_cases c3:3758096384<t.toNat<;>by_cases c4:t.toNat<=3758096388<;>
   first
   |omega
   |(simp only[↓ah,aj,simprocAttr,a1,a2,a3,a4,c1,c2,c3,c4,aav,aaw];exact .val _ rfl)
 ·rcases Yg hk with rfl|rfl|rfl|rfl|rfl|rfl|rfl|rfl|rfl<;>
  ·simp only[↓ah,aj,simprocAttr,BitVec.reduceLT,BitVec.reduceLE,BitVec.reduceSub,BitVec.reduceToNat,aav,aaw]
   exact .val _ rfl
theorem Ha(rows:Rows)(k:D->Rows->Prop)(t:BitVec 32):aI yS rows k [.raw (u32 t)]=k (.cA [.raw (it (hT t.toNat:Int)),.raw (.bool (Ks t.toNat))]) rows:=by
 refine(cO (bk.raw (eO t)) rfl rfl k).trans ?_
 simp[shift,bB,ab]
structure Key where
 t:BitVec 32
 o:BitVec 32
 id:List (BitVec 8)
 root:List (BitVec 8)
def EU(k:Key):D:= .agg K2 [.raw (u32 k.t),.raw (u32 k.o),.agg (.ar 16 L8) (bs k.id),.agg (.ar 32 L8) (bs k.root)]
def Yi:Key:=⟨0#32,0#32,List.replicate 16 0#8,List.replicate 32 0#8⟩
def keyOf(p:List (BitVec 8)):Key:=⟨cR p,cR (p.drop 4),(p.drop 8).take 16,p.drop 24⟩
def fj(p:List (BitVec 8)):Key×Int:=
 bif decide (p.length=56)then
  (bif Ks (cR p).toNat&&sr (cR (p.drop 4)).toNat then(keyOf p,0)else(Yi,6))
 else(Yi,2)
noncomputable def Ju:Fn:=mV dB (λa=>Nat.ble a.length most) λp=>(.cA [EU (fj p).1,.raw (it (fj p).2)],[])
theorem Jv(rows:Rows)(k:D->Rows->Prop)(x:List (BitVec 8))(e:Bool)(h:4<=x.length):aI Az rows k [.cI L8 (bs x) e]=k (.raw (u32 (cR x))) rows:=by
 refine(a9 rfl (eK (qV x e) (by simpa using h))).trans ?_
 simp[shift,ab]
theorem readK_ok(C:bf)(hC:aJ C P)(h1:C.fn 146=some Az)(h2:C.fn 36=some yS)(h3:C.fn 37=some j8):aN C.aX P 143 (Fn.run Ju):=by
 refine bU (Tt C hC) λds rows r h=>?_
 obtain⟨d,p,rfl,rfl,hd,hp,rfl⟩:=a8 h
 obtain⟨x,hx⟩:=cb hd
 refine⟨rfl,_,.cons hx .nil,ag rfl ?_⟩
 simp only[abo]at hp
 unfold most at hp
 clear h hx hd
 unfold IN IP
 have hz:D.fits (.agg K2 [.raw (u32 0#32),.raw (u32 0#32),.agg (.ar 16 L8) (List.replicate 16 (.raw (u8 0#8))),.agg (.ar 32 L8) (List.replicate 32 (.raw (u8 0#8)))]) K2=true:=rfl
 by_cases hl:p.length=56
 ·have d0:4<=p.length:=by omega
  have d4:4<=(p.drop 4).length:=by rw[aar];omega
  have tk4:(bs (p.drop 4)).take 52=bs (p.drop 4):=aaq (by rw[aB,aar];omega)
  have tk8:(bs (p.drop 8)).take 16=bs ((p.drop 8).take 16):=dO _ _
  have tkk:(bs ((p.drop 8).take 16)).take 16=bs ((p.drop 8).take 16):=aaq (by rw[aB,aau];omega)
  have tk24:(bs (p.drop 24)).take 32=bs (p.drop 24):=aaq (by rw[aB,aar];omega)
  simp only[↓ah,aj,simprocAttr,aB,hl,h1,Jv _ _ _ _ d0,Jv _ _ _ _ d4,eP,tk4,tk8,tkk,tk24,aar,hz]
  have l16:(List.take 16 (List.drop 8 p)).length=16:=by rw[aau,aar];omega
  have l32:(List.drop 24 p).length=32:=by rw[aar];omega
  refine⟨by omega,?_⟩
  simp only[↓ah,aj,simprocAttr,aM,l16,l32,h2,h3,Ha,jJ,hz,ib,tkk,tk24]
  have hq:fj p=if Ks (cR p).toNat&&sr (cR (p.drop 4)).toNat then(keyOf p,0)else(Yi,6):=by
   simp only[fj,hl,aav,aaU]
   cases Ks (cR p).toNat&&sr (cR (p.drop 4)).toNat<;>rfl
  rw[hq]
  cases g1:Ks (cR p).toNat<;>cases g2:sr (cR (p.drop 4)).toNat<;>
  ·simp only[↓ah,aj,simprocAttr,aa8,aba,ach,acK,abQ,abX,adg,abW,D.fits]
   try exact .val _ rfl
 ·have sO:((p.length:Int)=56)=False:=aax (by omega)
  have hq:fj p=(Yi,2):=by simp[fj,hl]
  rw[hq]
  simp only[↓ah,aj,simprocAttr,aB,sO]
  exact .val _ rfl
end jU
end Go.Am

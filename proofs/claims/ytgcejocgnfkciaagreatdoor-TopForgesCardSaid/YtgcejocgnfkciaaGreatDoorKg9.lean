import Derived.Test.YtgcejocgnfkciaaGreatDoorKg8
set_option linter.unusedSimpArgs false
set_option linter.unusedVariables false
set_option maxRecDepth 10000
set_option maxHeartbeats 4000000
namespace Go.Am
attribute [local congr] dq bW dt bX bY cB bI bZ b5 cC bu cD b6 dj
namespace jU
open Go.Am.F
theorem lfour_ok(C:bf)(hC:aJ C P):aN C.aX P 50 (Fn.run Aw):=by
 refine aG (Tg C hC) λds rows r h=>?_
 obtain⟨d,n,rfl,rfl,hd,hp,rfl⟩:=a8 h
 cases dH hd
 refine⟨rfl,ag rfl ?_⟩
 clear h hd
 unfold Ir Is
 simp only[↓ah,aj,simprocAttr]
 exact .own _ 0 0 4 true false _ rfl rfl (λh=>by cases h)
def Mp(id:List (BitVec 8))(r:BitVec 32)(kd:Nat)(l:List (List (BitVec 8))):List (BitVec 8):=cM (id++bi r++eN kd++l.flatten)
def uO(id:List (BitVec 8))(r:BitVec 32)(a b:List (BitVec 8)):List (BitVec 8):=Mp id r 33667 [a,b]
def dZ(id:List (BitVec 8))(r:BitVec 32)(k:List (BitVec 8)):List (BitVec 8):=Mp id r 33410 [k]
theorem Mq(id:List (BitVec 8))(r:BitVec 32)(a b:List (BitVec 8)):(uO id r a b).length=32:=cm _
theorem oR(id:List (BitVec 8))(r:BitVec 32)(a:List (BitVec 8)):(dZ id r a).length=32:=cm _
noncomputable def Qx:Fn:=Zw (bx Av) qs tH (oy (.ar 32 L8) aO) (λid _ n l=>decide (id.length=16)&&Bk n 65536&&Jj l&&decide (l.length<=1000000)) λid r n l=>(aO (Mp id r n.toNat l),[])
theorem hash_ok(C:bf)(hC:aJ C P)(h1:C.fn 157=some Qj)(h2:C.fn 50=some Aw)(h3:C.fn 158=some td)(h4:C.fn 159=some vE):aN C.aX P 102 (Fn.run Qx):=by
 refine bU (Tm C hC) λds rows r h=>?_
 obtain⟨d0,d1,d2,d3,id,r,n,l,rfl,rfl,g0,g1,g2,g3,hp,rfl⟩:=rQ h
 cases aE g0
 cases dH g1
 cases bK g2
 obtain⟨ex,hx⟩:=uF g3
 simp only[aan,aat,py,rS]at hp
 obtain⟨⟨⟨eY,hn⟩,qE⟩,HD⟩:=hp
 refine⟨rfl,_,.cons (.refl _) (.cons (.refl _) (.cons (.refl _) (.cons hx .nil))),ag rfl ?_⟩
 clear h g0 g1 g2 g3 hx
 obtain⟨m,rfl⟩:=aaD hn.1
 have hm:m<65536:=by omega
 unfold IB IC
 have e8:∀k,cF .shr (it (m:Int)) (u64 8#64) k=k (.raw (it ((m/256:Nat):Int))):=λk=>Vy m 8 .u64 (by decide) k
 have e1:BitVec.ofInt 8 ((m/256:Nat):Int)=BitVec.ofNat 8 (m/256):=aa4 _ _
 have e2:BitVec.ofInt 8 (m:Int)=BitVec.ofNat 8 m:=aa4 _ _
 have id_fits:(Av id).fits (.ar 16 L8)=true:=rfl
 simp only[dw,TL]
 simp only[↓ah,aj,simprocAttr,aM,Av,nP,h1,TG,h3]
 refine Eq.mpr (lW _ _ _ _ id (aU.tf (n:=16) rfl rfl eY) oO) ?_
 have o0:=fq id Bx oO
 simp only[↓ah,aj,simprocAttr,aM,h2,Qp,h3]
 refine Eq.mpr (lW _ _ _ _ (bi r) (aU.own rfl _ rfl) o0) ?_
 have o1:=fq (bi r) _ o0
 simp only[↓ah,aj,simprocAttr,aM,e8,e1,e2,h3]
 refine Eq.mpr (lW _ _ _ _ (eN m) (aU.own rfl _ rfl) o1) ?_
 have o2:=fq (eN m) _ o1
 simp only[↓ah,aj,simprocAttr,aM,nP,aaE]
 have hok:∀i,(feed (feed (feed (feed Bx id) (bi r)) (eN m)) (l.take i).flatten).ok=true:=λi=>fq _ _ o2
 have e:pw (feed (feed (feed (feed Bx id) (bi r)) (eN m)) (l.take l.length).flatten)=Mp id r m l:=by
  rw[aaV,Mp,cM,<-eu,<-eu,<-eu]
  simp only[aaC]
 have hst:feed (feed (feed (feed Bx id) (bi r)) (eN m)) (l.take 0).flatten=feed (feed (feed Bx id) (bi r)) (eN m):=by rw[abL];rfl
 rw[<-hst]
 have hsucc:∀i (h:i<l.length),feed (feed (feed (feed (feed Bx id) (bi r)) (eN m)) (l.take i).flatten) l[i]=feed (feed (feed (feed Bx id) (bi r)) (eN m)) (l.take (i+1)).flatten:=λi h=>by
  rw[<-eu,aaR h,abU];simp
 generalize feed (feed (feed Bx id) (bi r)) (eN m)=B at*
 refine bg l.length (λi env rows=>has env [(27,.raw (it (i:Int))),(26,.raw (it (l.length:Int))),(25,.cI (.ar 32 L8) (l.map aO) ex),(9,.ptr OT 4 [0]),(8,.ptr (.ar 32 L8) 1 [0])]/\
  live rows 4=some ⟨OT,[uG (feed B (l.take i).flatten)]⟩/\live rows 1=some ⟨.ar 32 L8,[.agg (.ar 32 L8) (bs qg)]⟩) ?_ ?_ ⟨?_,rfl,rfl⟩
 ·rintro i hi env rows ⟨hh,r3,r1⟩ R hR
  simp only[has]at hh
  have e0:((i:Int)<(l.length:Int))=True:=aas (by omega)
  have b0:∀n:Nat,((0:Int)<=(n:Int))=True:=λn=>aas (by omega)
  have e1:=ca i (by omega)
  have hx:=qE _ (abz hi)
  have g:(l.map aO)[i]?=some (.agg (.ar 32 L8) (bs l[i])):=by simp[aO,hi]
  have hs:=hsucc i hi
  generalize l[i]=xi at*
  have r3A:=λL=>ae r3 L
  simp only[↓ah,aj,simprocAttr,aM,hh,e0,e1,b0,aaE,g,r3A,h3]
  refine Eq.mpr (lW _ _ _ _ xi (aU.tf (n:=32) (by rw[bw];rfl) rfl hx) (hok i)) ?_
  rw[hs]
  simp only[↓ah,aj,simprocAttr,aM,hh,e1,r3A,nP]
  exact hR _ _ ⟨by simp only[has,↓ah,aj,simprocAttr,hh],aD (r3A _),df (ae r1 _) (by decide)⟩
 ·rintro env rows ⟨hh,r3,r1⟩ R
  simp only[has]at hh
  have e0:((l.length:Int)<(l.length:Int))=False:=aax (by omega)
  have w1:=λx=>aD (y:=x) r1
  simp only[↓ah,aj,simprocAttr,aM,hh,e0,r3,r1,h4,Bj _ _ _ (hok _),e,w1]
  exact .val _ rfl
 ·simp only[has,↓ah,aj,simprocAttr]
theorem kHash(rows:Rows)(k:D->Rows->Prop)(id:List (BitVec 8))(r:BitVec 32)(m:Nat)(d:D)(l:List (List (BitVec 8)))(hd:bk rows (oy (.ar 32 L8) aO) d l)(eY:id.length=16)(hm:m<65536)(qE:∀x∈l,x.length=32)(HD:l.length<=1000000):
  aI Qx rows k [.agg (.ar 16 L8) (bs id),.raw (u32 r),.raw (it (m:Int)),d]=k (.agg (.ar 32 L8) (bs (Mp id r m l))) rows:=by
 refine(uK (G5 id) (bk.raw (eO r)) (bk.int _) hd (by simp[eY,py.2 qE,HD,Bk];omega) rfl k).trans ?_
 simp[aO,shift,ab,Sh.pure]
noncomputable def Mr:Fn:=GY (bx Av) qs (bx aO) (λid _ x=>decide (id.length=16)&&decide (x.length=32)) λid r x=>(aO (dZ id r x),[])
theorem leaf_ok(C:bf)(hC:aJ C P)(h1:C.fn 102=some Qx):aN C.aX P 41 (Fn.run Mr):=by
 refine aG (Te C hC) λds rows r h=>?_
 obtain⟨d0,d1,d2,id,r,x,rfl,rfl,g0,g1,g2,hp,rfl⟩:=fp h
 cases aE g0
 cases dH g1
 cases aE g2
 simp only[aan,aat]at hp
 refine⟨rfl,ag rfl ?_⟩
 clear h g0 g1 g2
 unfold Im Io
 simp only[dw]
 have kH:=λrows k d hd=>kHash rows k id r 33410 d [x] hd hp.1 (by decide) (by simp[hp.2]) (by simp)
 rw[show((33410:Nat):Int)=33410 from rfl]at kH
 simp only[↓ah,aj,simprocAttr,aM,Av,aO,h1]
 refine Eq.mpr (kH _ _ _ (bk.dl (l:=[x]) rfl rfl)) ?_
 simp only[↓ah,aj,simprocAttr,aM]
 exact .val _ rfl
theorem VP(rows:Rows)(k:D->Rows->Prop)(id:List (BitVec 8))(r:BitVec 32)(x:List (BitVec 8))(eY:id.length=16)(hx:x.length=32):
  aI Mr rows k [.agg (.ar 16 L8) (bs id),.raw (u32 r),.agg (.ar 32 L8) (bs x)]=k (.agg (.ar 32 L8) (bs (dZ id r x))) rows:=by
 refine(fH (G5 id) (bk.raw (eO r)) (iM x) (by simp[eY,hx]) rfl k).trans ?_
 simp[aO,shift,ab,Sh.pure]
noncomputable def Mt:Fn:=Zw (bx Av) qs (bx aO) (bx aO) (λid _ x y=>decide (id.length=16)&&decide (x.length=32)&&decide (y.length=32)) λid r x y=>(aO (uO id r x y),[])
theorem node_ok(C:bf)(hC:aJ C P)(h1:C.fn 102=some Qx):aN C.aX P 42 (Fn.run Mt):=by
 refine aG (Tf C hC) λds rows r h=>?_
 obtain⟨d0,d1,d2,d3,id,r,x,y,rfl,rfl,g0,g1,g2,g3,hp,rfl⟩:=rQ h
 cases aE g0
 cases dH g1
 cases aE g2
 cases aE g3
 simp only[aan,aat]at hp
 refine⟨rfl,ag rfl ?_⟩
 clear h g0 g1 g2 g3
 unfold Ip Iq
 simp only[dw]
 have kH:=λrows k d hd=>kHash rows k id r 33667 d [x,y] hd hp.1.1 (by decide) (by simp[hp.1.2,hp.2]) (by simp)
 rw[show((33667:Nat):Int)=33667 from rfl]at kH
 simp only[↓ah,aj,simprocAttr,aM,Av,aO,h1]
 refine Eq.mpr (kH _ _ _ (bk.dl (l:=[x,y]) rfl rfl)) ?_
 simp only[↓ah,aj,simprocAttr,aM]
 exact .val _ rfl
theorem Jw(rows:Rows)(k:D->Rows->Prop)(id:List (BitVec 8))(r:BitVec 32)(x y:List (BitVec 8))(eY:id.length=16)(hx:x.length=32)(hy:y.length=32):
  aI Mt rows k [.agg (.ar 16 L8) (bs id),.raw (u32 r),.agg (.ar 32 L8) (bs x),.agg (.ar 32 L8) (bs y)]=k (.agg (.ar 32 L8) (bs (uO id r x y))) rows:=by
 refine(uK (G5 id) (bk.raw (eO r)) (iM x) (iM y) (by simp[eY,hx,hy]) rfl k).trans ?_
 simp[aO,shift,ab,Sh.pure]
theorem kReadK(rows:Rows)(k:D->Rows->Prop)(d:D)(p:List (BitVec 8))(h:aU rows d p)(hp:p.length<=1099511627776):aI Ju rows k [d]=k (.cA [EU (fj p).1,.raw (it (fj p).2)]) rows:=by
 refine(cO (bk.bs h) (by simpa[most]using hp) rfl k).trans ?_
 simp[shift,bB,ab,EU,Sh.pure]
def Oa:Fn:=mV tH (λ_=>true) λe=>(.cA [.raw (u32 0#32),.raw (.slice none 0 0),.raw (u32 0#32),.raw (.slice none 0 0),.raw (it e)],[])
theorem nonep_ok(C:bf)(hC:aJ C P):aN C.aX P 144 (Fn.run Oa):=by
 refine aG (KT C hC) λds rows r h=>?_
 obtain⟨d,t,rfl,rfl,hd,hp,rfl⟩:=a8 h
 cases bK hd
 refine⟨rfl,ag rfl ?_⟩
 clear h hd
 unfold Af Ag
 simp only[↓ah,aj,simprocAttr]
 exact .val _ rfl
theorem tO(rows:Rows)(k:D->Rows->Prop)(e:Int):aI Oa rows k [.raw (it e)]=k (.cA [.raw (u32 0#32),.raw (.slice none 0 0),.raw (u32 0#32),.raw (.slice none 0 0),.raw (it e)]) rows:=by
 refine(cO (bk.int e) rfl rfl k).trans ?_
 simp[shift,bB,ab]
theorem readS_le(p:List (BitVec 8)):(fj p).2=0\/(fj p).2=6\/(fj p).2=2:=by
 unfold fj
 cases decide (p.length=56)
 ·exact .inr (.inr rfl)
 ·cases Ks (cR p).toNat&&sr (cR (p.drop 4)).toNat
  ·exact .inr (.inl rfl)
  ·exact .inl rfl
def pA(p:List (BitVec 8)):BitVec 32:=cR p
def Qy(p:List (BitVec 8)):BitVec 32:=cR (p.drop 4)
def oA(p:List (BitVec 8)):Nat:=pT (Qy p).toNat
def K3(p:List (BitVec 8)):BitVec 32:=cR (p.drop (40+32*oA p))
def oa(p:List (BitVec 8)):Nat:=hT (K3 p).toNat
def lF(p:List (BitVec 8)):List (BitVec 8):=(p.drop 4).take (36+32*oA p)
def VQ(p:List (BitVec 8))(i:Nat):List (BitVec 8):=(p.drop (44+32*oA p+32*i)).take 32
def GK(p:List (BitVec 8))(i:Nat):List (BitVec 8):=p.drop (44+32*oA p+32*i)
def iN(p:List (BitVec 8))(n:Nat):List (List (BitVec 8)):=(List.range n).map (VQ p)
def dM(p:List (BitVec 8)):Int:=
 if p.length<8 then 2 else if sr (Qy p).toNat=false then 6 else if p.length<44+32*oA p then 2 else if Ks (K3 p).toNat=false then 6
 else if p.length≠44+32*oA p+32*oa p\/(pA p).toNat>>>oa p≠0 then 2 else 0
theorem yg{p:List (BitVec 8)}(h:dM p=0):sr (Qy p).toNat=true/\Ks (K3 p).toNat=true/\p.length=44+32*oA p+32*oa p/\(pA p).toNat>>>oa p=0:=by
 unfold dM at h
 split at h
 ·cases h
 split at h
 ·cases h
 split at h
 ·cases h
 split at h
 ·cases h
 split at h
 ·cases h
 rename_i h1 h2 h3 h4 h5
 refine⟨by simpa using h2,by simpa using h4,?_,?_⟩<;>omega
theorem Hb{t:Nat}(h:Ks t=true):1<=hT t:=by
 unfold Ks at h
 unfold hT
 simp only[aat]at h
 split
 ·omega
 ·split<;>omega
noncomputable def EV:Fn:=mV dB (λp=>decide (p.length<=1099511627776)) λp=>if dM p=0 then
  (.cA [.raw (u32 (pA p)),.sl L8 0 [] 0 (36+32*oA p) false,.raw (u32 (K3 p)),.sl (.ar 32 L8) 1 [] 0 (oa p) false,.raw (it 0)],[some ⟨L8,bs (lF p)⟩,some ⟨.ar 32 L8,(iN p (oa p)).map aO⟩])
 else(.cA [.raw (u32 0#32),.raw (.slice none 0 0),.raw (u32 0#32),.raw (.slice none 0 0),.raw (it (dM p))],[])
theorem parts_ok(C CT:bf)(hC:aJ C P)(h1:C.fn 146=some Az)(h2:C.fn 36=some yS)(h3:C.fn 37=some j8)(h4:C.fn 144=some Oa)(n5:C.fn 145=none)(r5:C.fy 145=some (aQ CT 2 lq lp)):
  aN C.aX P 89 (Fn.run EV):=by
 refine bU (PY C hC) λds rows r h=>?_
 obtain⟨d,p,rfl,rfl,hd,hp,rfl⟩:=a8 h
 obtain⟨x,hx⟩:=cb hd
 refine⟨rfl,_,.cons hx .nil,ag rfl ?_⟩
 simp only[aat]at hp
 clear h hx hd
 unfold FI FJ
 have mb:MY 144 [144]=true:=rfl
 by_cases hl:p.length<4
 ·have hq:dM p=2:=by unfold dM;rw[aaI (by omega)]
  have c1:((p.length:Int)<4)=True:=aas (by omega)
  rw[hq,aaA (by decide)]
  simp only[↓ah,aj,simprocAttr,aM,aB,nG,n5,r5,lp,lq,c1,mb,h4,tO]
  exact .val _ rfl
 have c1:((p.length:Int)<4)=False:=aax (by omega)
 have g1:((4:Int)<=(p.length:Int))=True:=aas (by omega)
 have tk:(bs (p.drop 4)).take (p.length-4)=bs (p.drop 4):=aaq (by rw[aB,aar];exact aaz _)
 by_cases h8:p.length<8
 ·have hq:dM p=2:=by unfold dM;rw[aaI h8]
  have c2:(((p.length-4:Nat):Int)<4)=True:=aas (by omega)
  rw[hq,aaA (by decide)]
  simp only[↓ah,aj,simprocAttr,aM,aB,nG,n5,r5,lp,lq,c1,c2,g1,eP,tk,aar,mb,h4,tO]
  exact .val _ rfl
 have c2:(((p.length-4:Nat):Int)<4)=False:=aax (by omega)
 have d4:4<=(p.drop 4).length:=by rw[aar];omega
 have kL:=λrows k e=>Jv rows k (p.drop 4) e d4
 have eo:cR (p.drop 4)=Qy p:=rfl
 have cL:∀x:Par,D.fits (.agg pz [.raw (it (x.w:Int)),.raw (it (x.p:Int)),.raw (it (x.l:Int))]) pz=true:=λx=>rfl
 rw[eo]at kL
 cases ho:sr (Qy p).toNat with
 |false=>
  have hq:dM p=6:=by unfold dM;rw[aaA h8,aaI ho]
  rw[hq,aaA (by decide)]
  simp only[↓ah,aj,simprocAttr,aM,aB,nG,n5,r5,lp,lq,c1,c2,g1,eP,tk,aar,mb,h4,tO,h1,kL,h3,jJ,ib,ho,cL,aba]
  exact .val _ rfl
 |true=>
 have hpt:oA p<=265:=(gI ho).2.2.1
 have ep:((lC (Qy p).toNat).p:Int)=((oA p:Nat):Int):=rfl
 have q1:wz ((oA p:Int)+1)=((oA p+1:Nat):Int):=ca _ (by omega)
 have q2:wz (32*((oA p+1:Nat):Int))=((32*(oA p+1):Nat):Int):=by rw[aZ (by omega)];omega
 have q3:wz (4+((32*(oA p+1):Nat):Int))=((36+32*oA p:Nat):Int):=by rw[aZ (by omega)];omega
 simp only[↓ah,aj,simprocAttr,aM,aB,nG,n5,r5,lp,lq,c1,c2,g1,eP,tk,aar,mb,h4,tO,h1,kL,h3,jJ,ib,ho,cL,aa8,ep,q1,q2,q3]
 have b0:∀n:Nat,((0:Int)<=(n:Int))=True:=λn=>aas (by omega)
 by_cases c:p.length-4<36+32*oA p
 ·have hq:dM p=2:=by unfold dM;rw[aaA h8,aaA (by rw[ho];decide),aaI (by omega)]
  have c3:(((p.length-4:Nat):Int)<((36+32*oA p:Nat):Int))=True:=aas (by omega)
  rw[hq,aaA (by decide)]
  simp only[↓ah,aj,simprocAttr,aM,c3,mb,h4,tO]
  exact .val _ rfl
 have c3:(((p.length-4:Nat):Int)<((36+32*oA p:Nat):Int))=False:=aax (by omega)
 have c4:(((36+32*oA p:Nat):Int)<=((p.length-4:Nat):Int))=True:=aas (by omega)
 have tk2:List.take (p.length-4-(36+32*oA p)) (List.drop (36+32*oA p) (List.drop 4 p))=p.drop (40+32*oA p):=by
  rw[abv,aaq (by rw[aar];omega)]
  congr 1;omega
 have tk1:List.take (36+32*oA p) (List.drop 4 p)=lF p:=rfl
 by_cases h3':p.length<44+32*oA p
 ·have hq:dM p=2:=by unfold dM;rw[aaA h8,aaA (by rw[ho];decide),aaI h3']
  have c5:(((p.length-(40+32*oA p):Nat):Int)<4)=True:=aas (by omega)
  rw[hq,aaA (by decide)]
  simp only[↓ah,aj,simprocAttr,aM,c3,c4,c5,b0,aB,aar,eP,dO,tk2,mb,h4,tO]
  exact .val _ rfl
 have c5:(((p.length-(40+32*oA p):Nat):Int)<4)=False:=aax (by omega)
 have d5:4<=(p.drop (40+32*oA p)).length:=by rw[aar];omega
 have kT:=λrows k e=>Jv rows k (p.drop (40+32*oA p)) e d5
 rw[show cR (p.drop (40+32*oA p))=K3 p from rfl]at kT
 cases hh:Ks (K3 p).toNat with
 |false=>
  have hq:dM p=6:=by unfold dM;rw[aaA h8,aaA (by rw[ho];decide),aaA h3',aaI hh]
  rw[hq,aaA (by decide)]
  simp only[↓ah,aj,simprocAttr,aM,c3,c4,c5,b0,aB,aar,eP,dO,tk2,mb,h4,tO,h1,kT,h2,Ha,hh,aba]
  exact .val _ rfl
 |true=>
 have GL:=Hb hh
 have Yj:=hT_le (K3 p).toNat
 have ehh:hT (K3 p).toNat=oa p:=rfl
 rw[ehh]at GL Yj
 have d0:4<=(p.take 4).length:=by rw[aau];omega
 have kQ:=λrows k e=>Jv rows k (p.take 4) e d0
 rw[qC p 4 (aaz _),show cR p=pA p from rfl]at kQ
 have c6:((4:Int)<=((p.length-(40+32*oA p):Nat):Int))=True:=aas (by omega)
 have c7:wz (32*((oa p:Nat):Int))=((32*oa p:Nat):Int):=by rw[aZ (by omega)];omega
 have tk3:List.take (p.length-(40+32*oA p)-4) (List.drop 4 (List.drop (40+32*oA p) p))=p.drop (44+32*oA p):=by
  rw[abv,aaq (by rw[aar];omega)]
  congr 1;omega
 simp only[↓ah,aj,simprocAttr,aM,c3,c4,c5,c6,c7,b0,aB,aar,eP,dO,tk2,tk3,mb,h4,tO,h1,kT,kQ,h2,Ha,hh,ehh,aa8]
 have bq:∀m:Nat,(pA p>>>m=0#32)↔(pA p).toNat>>>m=0:=λm=>by
  constructor
  ·intro h;have:=abB BitVec.toNat h;simpa using this
  ·intro h;apply aaG;simpa using h
 by_cases cl:p.length=44+32*oA p+32*oa p
 rotate_left
 ·have hq:dM p=2:=by unfold dM;rw[aaA h8,aaA (by rw[ho];decide),aaA h3',aaA (by rw[hh];decide),aaI (.inl cl)]
  have c8:(((p.length-(44+32*oA p):Nat):Int)=((32*oa p:Nat):Int))=False:=aax (by omega)
  rw[hq,aaA (by decide)]
  simp only[↓ah,aj,simprocAttr,aM,c8,mb,h4,tO]
  exact .val _ rfl
 have c8:(((p.length-(44+32*oA p):Nat):Int)=((32*oa p:Nat):Int))=True:=aas (by omega)
 by_cases cq:(pA p).toNat>>>oa p=0
 rotate_left
 ·have hq:dM p=2:=by unfold dM;rw[aaA h8,aaA (by rw[ho];decide),aaA h3',aaA (by rw[hh];decide),aaI (.inr cq)]
  have c9:(pA p>>>oa p=0#32)=False:=aax (λh=>cq ((bq _).1 h))
  rw[hq,aaA (by decide)]
  simp only[↓ah,aj,simprocAttr,aM,c8,c9,b0,aaB,mb,h4,tO]
  exact .val _ rfl
 have hq:dM p=0:=by unfold dM;rw[aaA h8,aaA (by rw[ho];decide),aaA h3',aaA (by rw[hh];decide),aaA (by omega)]
 have c9:(pA p>>>oa p=0#32)=True:=aas ((bq _).2 cq)
 rw[aaI hq]
 simp only[↓ah,aj,simprocAttr,aM,c8,c9,b0,aaB]
 have jZ:∀i,i<oa p->(VQ p i).length=32:=λi hi=>by rw[VQ,aau,aar];omega
 have hds:∀i,(iN p i).map aO++[.agg (.ar 32 L8) (bs (VQ p i))]=(iN p (i+1)).map aO:=λi=>by simp[iN,abN,aO]
 have pU:∀i,(iN p i).length=i:=λi=>by simp[iN]
 have tk1':List.take (36+32*oA p-0) (List.drop 4 p)=lF p:=rfl
 rw[tk1']
 generalize qJ (some (((36+32*oA p:Nat):Int))) (36+32*oA p) (36+32*oA p) (p.length-4) (qJ none p.length p.length p.length x)=e12
 generalize qJ none (p.length-(40+32*oA p)) (p.length-(40+32*oA p)) (p.length-(40+32*oA p)) (qJ none (p.length-4) (p.length-4) (p.length-4) (qJ none p.length p.length p.length x))=e0
 have er:List.drop (44+32*oA p) p=GK p 0:=rfl
 have DZ:∀i,i<=oa p->(GK p i).length=32*(oa p-i):=λi hi=>by rw[GK,aar];omega
 have hrn:∀i,List.drop 32 (GK p i)=GK p (i+1):=λi=>by rw[GK,abv];rfl
 have hrt:∀i,List.take 32 (GK p i)=VQ p i:=λi=>rfl
 rw[er]
 refine bg (oa p) (λi env rows=>has env [(13,.raw (u32 (K3 p))),(15,.raw (u32 (pA p))),(8,.ptr .ref 0 [0]),(12,.cI L8 (bs (lF p)) e12)]/\
  (∃e,live rows 0=some ⟨.ref,[.cI L8 (bs (GK p i)) e]⟩)/\∃d',look env 16=some d'/\iT (.ar 32 L8) d' rows ((iN p i).map aO)/\(∀r ex n,d'= .sl (.ar 32 L8) r [] 0 n ex->1<=r)) ?_ ?_ ⟨?_,⟨e0,rfl⟩,.raw (.slice none 0 0),?_,.inl ⟨rfl,rfl⟩,λr ex n h=>?_⟩
 ·rintro i hi env rows ⟨hw,⟨e',r0⟩,d',h16,hO,hne⟩ R hR
  simp only[has]at hw
  have hl:=DZ i (by omega)
  have hn:=hrn i
  have ht:=hrt i
  have tV:=jZ i hi
  have hln:(GK p (i+1)).length=32*(oa p-i)-32:=by rw[DZ _ (by omega)];omega
  have f0:((0:Int)<((32*(oa p-i):Nat):Int))=True:=aas (by omega)
  have f1:(((32*(oa p-i):Nat):Int)<32)=False:=aax (by omega)
  have f2:((32:Int)<=((32*(oa p-i):Nat):Int))=True:=aas (by omega)
  have lt0:=bb r0
  have w0:=λy=>aD (y:=y) r0
  generalize 32*(oa p-i)=M at*
  have tkn:List.take (M-32) (GK p (i+1))=GK p (i+1):=aaq (by omega)
  have tkp:List.take 32 (VQ p i)=VQ p i:=aaq (by omega)
  generalize GK p i=X at*
  simp only[↓ah,aj,simprocAttr,aM,hw,h16,r0,w0,aB,hl,f0,f1,f2,eP,dO,nG,n5,r5,lp,lq,b0,hn,ht,tkn,tkp,tV]
  have hL:∀A Y,live (rows.set 0 (some A)++[some Y]) rows.length=some Y:=λA Y=>by
   have:=vR (rows.set 0 (some A)) Y
   simpa using this
  have OW:∀A,iT (.ar 32 L8) d' (rows.set 0 (some A)) ((iN p i).map aO):=λA=>by
   rcases hO with h|⟨r,ex,rfl,h⟩
   ·exact .inl h
   ·exact .inr ⟨r,ex,rfl,df h (by have:=hne _ _ _ rfl;omega)⟩
  simp only[↓ah,aj,simprocAttr,hL,List.take]
  refine uH (OW _).push (by rw[aaE,pU];simp[most];omega) (by rw[aaE,pU];simp[most];omega) λaa nV qo wv=>?_
  rw[hds]at nV
  have Zv:=qo 0 _ (a7 (w0 _)) (λex n e=>by have:=hne _ _ _ e;omega)
  have hlg:∀A:Row,(rows.set 0 (some A)++[some (⟨.ar 32 L8,[.agg (.ar 32 L8) (bs (VQ p i))]⟩:Row)]).length=rows.length+1:=λA=>by simp
  rw[hlg]at nV
  simp only[↓ah,aj,simprocAttr,aM,hw,hlg]
  refine hR _ _ ⟨by simp only[has,↓ah,aj,simprocAttr,hw],⟨_,Zv⟩,.sl (.ar 32 L8) (rows.length+1) [] 0 ((iN p i).length+1) false,by simp only[↓ah,aj,simprocAttr,aaE,hlg],.inr ⟨_,false,by rw[aaE,pU,pU],nV⟩,λr ex n e=>by injection e with _ e;omega⟩
 ·rintro env rows ⟨hw,⟨e',r0⟩,d',h16,hO,hne⟩ R
  simp only[has]at hw
  have hl:=DZ (oa p) (aaz _)
  rw[acq,Nat.mul_zero]at hl
  have Xa:(lF p).length=36+32*oA p:=by rw[lF,aau,aar];omega
  simp only[↓ah,aj,simprocAttr,aM,hw,h16,r0,aB,hl,hO.pM]
  refine⟨by rw[Xa];omega,by rw[Xa];omega,?_⟩
  rw[Xa]
  have Mc:1<=(iN p (oa p)).length:=by rw[pU];exact GL
  rcases hO with⟨h,_⟩|⟨r,N9,rfl,hlv⟩
  ·have:=abB List.length h;rw[aaE,aaT]at this;omega
  ·have hlt:=bb hlv
   rw[aaE,pU]
   have l1:live (rows++[none,some (⟨L8,bs (lF p)⟩:Row)]) (rows.length+1)=some ⟨L8,bs (lF p)⟩:=by rw[aK];rfl
   exact .own2 [.raw (u32 (pA p))] [.raw (u32 (K3 p))] [.raw (it 0)] L8 (.ar 32 L8) (rows.length+1) r 0 _ 0 _ false false N9 false _ _ l1 (a7 hlv) (by omega) rfl rfl rfl rfl rfl (λh=>h) (λh=>by cases h)
 ·simp only[has,↓ah,aj,simprocAttr]
 ·simp only[↓ah,aj,simprocAttr]
 ·cases h
theorem Jx{p:List (BitVec 8)}(h:dM p=0):(lF p).length=36+32*oA p:=by
 obtain⟨-,-,h,-⟩:=yg h
 rw[lF,aau,aar];omega
theorem EW(p:List (BitVec 8))(n:Nat):(iN p n).length=n:=by simp[iN]
theorem Qz{p:List (BitVec 8)}(h:dM p=0):∀x∈iN p (oa p),x.length=32:=by
 obtain⟨-,-,h,-⟩:=yg h
 intro x hx
 obtain⟨i,hi,rfl⟩:=acS.1 hx
 have:=adq.1 hi
 rw[VQ,aau,aar];omega
theorem kParts(rows:Rows)(k:D->Rows->Prop)(d:D)(p:List (BitVec 8))(hd:aU rows d p)(hp:p.length<=1099511627776)(he:dM p=0):
  aI EV rows k [d]=k (.cA [.raw (u32 (pA p)),.sl L8 (0+rows.length) [] 0 (36+32*oA p) false,.raw (u32 (K3 p)),.sl (.ar 32 L8) (1+rows.length) [] 0 (oa p) false,.raw (it 0)])
   (rows++[some ⟨L8,bs (lF p)⟩,some ⟨.ar 32 L8,(iN p (oa p)).map aO⟩]):=by
 refine(cO (bk.bs hd) (by simpa using hp) (by simp only[aaI he];rfl) k).trans ?_
 simp only[aaI he]
 simp[shift,bB,ab,Sh.pure]
theorem kPartsE(rows:Rows)(k:D->Rows->Prop)(d:D)(p:List (BitVec 8))(hd:aU rows d p)(hp:p.length<=1099511627776)(he:¬dM p=0):
  aI EV rows k [d]=k (.cA [.raw (u32 0#32),.raw (.slice none 0 0),.raw (u32 0#32),.raw (.slice none 0 0),.raw (it (dM p))]) rows:=by
 refine(cO (bk.bs hd) (by simpa using hp) (by simp only[aaA he];rfl) k).trans ?_
 simp only[aaA he]
 simp[shift,bB,ab]
def Ds(id:List (BitVec 8))(r:BitVec 32)(d x:List (BitVec 8)):List (BitVec 8):=if r&&&1#32=1#32 then uO id (r>>>1) x d else uO id (r>>>1) d x
theorem Yk(id:List (BitVec 8))(r:BitVec 32)(d x:List (BitVec 8)):(Ds id r d x).length=32:=by
 unfold Ds;split<;>exact Mq _ _ _ _
def dI(id:List (BitVec 8))(r:BitVec 32)(d:List (BitVec 8))(path:List (List (BitVec 8))):Nat->List (BitVec 8)
 |0=>d
 |i+1=>Ds id (r>>>i) (dI id r d path i) (path.getD i [])
theorem Ob(id:List (BitVec 8))(r:BitVec 32)(d:List (BitVec 8))(path:List (List (BitVec 8)))(h:d.length=32):∀i,(dI id r d path i).length=32
 |0=>h
 |i+1=>Yk _ _ _ _
def vH(id:List (BitVec 8))(q:BitVec 32)(d:List (BitVec 8))(path:List (List (BitVec 8))):List (BitVec 8):=dI id (q+1#32<<<path.length) d path path.length
theorem VS(r:BitVec 32)(i:Nat):(r>>>i)>>>1=r>>>(i+1):=(BitVec.shiftRight_add r i 1).symm
theorem and1(r:BitVec 32):r %2#32=r&&&1#32:=by
 apply aaG
 rw[abJ,ad1]
 exact(ade r.toNat 1).symm
def Mu(bD sig:List (BitVec 8)):Int:=
 if(fj bD).2≠0 then(fj bD).2 else if dM sig≠0 then dM sig else if K3 sig=(fj bD).1.t/\Qy sig=(fj bD).1.o then 0 else 6
def Yl(bD msg sig:List (BitVec 8)):List (BitVec 8):=
 vH (fj bD).1.id (pA sig) (dZ (fj bD).1.id (pA sig+1#32<<<oa sig) (mH ⟨(fj bD).1.id,pA sig⟩ (lF sig) msg)) (iN sig (oa sig))
theorem rtS_len(bD msg sig:List (BitVec 8)):(Yl bD msg sig).length=32:=Ob _ _ _ _ (oR _ _ _) _
theorem Jy(s:Site)(p m:List (BitVec 8)):(mH s p m).length=32:=cm _
theorem QA(p:List (BitVec 8)):(fj p).1.id.length=16/\(fj p).1.root.length=32:=by
 unfold fj
 by_cases c:p.length=56
 ·simp only[c,aav,aaU]
  cases Ks (cR p).toNat&&sr (cR (p.drop 4)).toNat
  ·exact⟨rfl,rfl⟩
  ·simp only[aaU,keyOf,aau,aar];omega
 ·simp only[c,aaw,aaM];exact⟨rfl,rfl⟩
theorem Mv{p:List (BitVec 8)}(h:dM p=0):gS (lF p)=0:=by
 obtain⟨h1,h2,h3,h4⟩:=yg h
 have hl:=Jx h
 have hT:dJ (lF p)=Qy p:=by
  show cR _=cR _
  rw[lF,qC _ _ (by omega)]
 rw[gS,aaA (by omega),hT,h1,hl]
 show(if 36+32*oA p=36+32*oA p then(0:Int)else 2)=0
 rw[aaI rfl]
theorem one_T{p:List (BitVec 8)}:cR (lF p)=Qy p:=by rw[lF,qC _ _ (by omega)];rfl
noncomputable def VT:Fn:=GY dB dB dB (λa b c=>decide (a.length<=1099511627776)&&decide (b.length<=1099511627776)&&decide (c.length<=1099511627776)) λa b c=>
 (.cA [aO (if Mu a c=0 then Yl a b c else qg),.raw (it (Mu a c))],[])
theorem root_ok(C:bf)(hC:aJ C P)(h1:C.fn 143=some Ju)(h2:C.fn 89=some EV)(h3:C.fn 146=some Az)(h4:C.fn 90=some Jr)(h5:C.fn 41=some Mr)(h6:C.fn 42=some Mt):aN C.aX P 142 (Fn.run VT):=by
 refine bU (Ts C hC) λds rows r h=>?_
 obtain⟨d0,d1,d2,bD,msg,sig,rfl,rfl,g0,g1,g2,hp,rfl⟩:=fp h
 obtain⟨x0,hx0⟩:=cb g0
 obtain⟨x1,sn⟩:=cb g1
 obtain⟨x2,BQ⟩:=cb g2
 simp only[aan,aat]at hp
 obtain⟨⟨OU,Mc⟩,sq⟩:=hp
 refine⟨rfl,_,.cons hx0 (.cons sn (.cons BQ .nil)),ag rfl ?_⟩
 clear h g0 g1 g2 hx0 sn BQ
 unfold IL IM
 have bL:=λ(rows:Rows) (l:List (BitVec 8)) (e:Bool)=>(ez.to (rows:=rows) (d:= .cI L8 (bs l) e) (.inr ⟨e,rfl⟩))
 have kR:=λrows k=>kReadK rows k _ bD (bL rows bD x0) OU
 have hz:D.agg K2 [.raw (u32 0#32),.raw (u32 0#32),.agg (.ar 16 L8) (List.replicate 16 (.raw (u8 0#8))),.agg (.ar 32 L8) (List.replicate 32 (.raw (u8 0#8)))]=EU Yi:=rfl
 have nS:∀k,(EU k).fits K2=true:=λ_=>rfl
 simp only[hz,dw]
 have eY:=(QA bD).1
 have hE:=readS_le bD
 by_cases c0:(fj bD).2=0
 rotate_left
 ·have e:Mu bD sig=(fj bD).2:=by rw[Mu,aaI c0]
  have c0':=aax c0
  rw[e,aaA c0]
  simp only[↓ah,aj,simprocAttr,aM,h1,kR,nS,c0']
  exact .val _ rfl
 have hne:¬(fj bD).2≠0:=by simp[c0]
 by_cases c1:dM sig=0
 rotate_left
 ·have e:Mu bD sig=dM sig:=by rw[Mu,aaA hne,aaI c1]
  have kP:=λrows k=>kPartsE rows k _ sig (bL rows sig x2) sq c1
  have K4:=aax c1
  rw[e,aaA c1]
  simp only[↓ah,aj,simprocAttr,aM,h1,kR,nS,c0,h2,kP,K4]
  exact .val _ rfl
 have kP:=λrows k=>kParts rows k _ sig (bL rows sig x2) sq c1
 have Xa:=Jx c1
 have hot:=@one_T sig
 have gt:∀k:Key,(EU k).get [0]=some (.raw (u32 k.t)):=λ_=>rfl
 have go:∀k:Key,(EU k).get [1]=some (.raw (u32 k.o)):=λ_=>rfl
 have gi:∀k:Key,(EU k).get [2]=some (.agg (.ar 16 L8) (bs k.id)):=λ_=>rfl
 have hl4:4<=(lF sig).length:=by omega
 have hlh:=hT_le (K3 sig).toNat
 rw[show hT (K3 sig).toNat=oa sig from rfl]at hlh
 have tV:=EW sig (oa sig)
 have hp32:=Qz c1
 have hrt:K3 sig=(fj bD).1.t/\Qy sig=(fj bD).1.o->Mu bD sig=0:=λh=>by rw[Mu,aaA hne,aaA (by simp[c1]),aaI h]
 have hrn:¬(K3 sig=(fj bD).1.t/\Qy sig=(fj bD).1.o)->Mu bD sig=6:=λh=>by rw[Mu,aaA hne,aaA (by simp[c1]),aaA h]
 have hsp:=Mv c1
 have hrS:Yl bD msg sig=vH (fj bD).1.id (pA sig) (dZ (fj bD).1.id (pA sig+1#32<<<oa sig) (mH ⟨(fj bD).1.id,pA sig⟩ (lF sig) msg)) (iN sig (oa sig)):=rfl
 rw[hrS]
 have hE0:(fj bD).2=0:=c0
 rw[hE0]at kR
 clear hE c0 hne hE0
 generalize (fj bD).1=K at*
 by_cases ht:K3 sig=K.t
 rotate_left
 ·have e:=hrn (λh=>ht h.1)
  have xq:=aax ht
  rw[e,aaA (by decide)]
  simp only[↓ah,aj,simprocAttr,aM,h1,kR,nS,h2,kP,h3,gt,xq]
  exact .val _ rfl
 have xq:=aas ht
 have kN:=λrows k hd=>kLNum rows k (.sl L8 2 [] 0 (36+32*oA sig) false) (lF sig) hd hl4
 rw[hot]at kN
 have kN0:=λk=>kN [some ⟨.ar 32 L8,[.agg (.ar 32 L8) (bs qg)]⟩,some ⟨K2,[EU K]⟩,some ⟨L8,bs (lF sig)⟩,some ⟨.ar 32 L8,(iN sig (oa sig)).map aO⟩] k (aU.own rfl _ Xa.symm)
 by_cases ho:Qy sig=K.o
 rotate_left
 ·have e:=hrn (λh=>ho h.2)
  have SH:=aax ho
  rw[e,aaA (by decide)]
  simp only[↓ah,aj,simprocAttr,aM,h1,kR,nS,h2,kP,h3,gt,go,xq,SH,kN0]
  exact .val _ rfl
 have SH:=aas ho
 have e:=hrt ⟨ht,ho⟩
 rw[e,aaI rfl]
 have jZ:=Jy ⟨K.id,pA sig⟩ (lF sig) msg
 simp only[↓ah,aj,simprocAttr,aM,h1,kR,nS,h2,kP,h3,gt,go,gi,xq,SH,kN0,h4]
 refine Eq.mpr (kClaim _ _ ⟨K.id,pA sig⟩ _ _ (lF sig) msg (aU.own rfl _ Xa.symm) (bL _ msg x1) eY (by have:=(yg c1).2.2.1;omega) hsp) ?_
 have b0:∀n:Nat,((0:Int)<=(n:Int))=True:=λn=>aas (by omega)
 generalize mH ⟨K.id,pA sig⟩ (lF sig) msg=CL at*
 simp only[↓ah,aj,simprocAttr,aM,gi,b0,aaB,h5,VP _ _ _ _ _ eY jZ]
 have pU:=Ob K.id (pA sig+1#32<<<oa sig) (dZ K.id (pA sig+1#32<<<oa sig) CL) (iN sig (oa sig)) (oR _ _ _)
 have hcs:vH K.id (pA sig) (dZ K.id (pA sig+1#32<<<oa sig) CL) (iN sig (oa sig))=dI K.id (pA sig+1#32<<<oa sig) (dZ K.id (pA sig+1#32<<<oa sig) CL) (iN sig (oa sig)) (oa sig):=by rw[vH,tV]
 rw[hcs]
 have hd0:dZ K.id (pA sig+1#32<<<oa sig) CL=dI K.id (pA sig+1#32<<<oa sig) (dZ K.id (pA sig+1#32<<<oa sig) CL) (iN sig (oa sig)) 0:=rfl
 generalize dZ K.id (pA sig+1#32<<<oa sig) CL=L0 at*
 generalize pA sig+1#32<<<oa sig=R0 at*
 generalize hN:oa sig=N at*
 generalize iN sig N=l at*
 refine bg N (λi env rows=>has env [(77,.raw (it (i:Int))),(76,.raw (it (N:Int))),(75,.sl (.ar 32 L8) 3 [] 0 N false),(16,.raw (u32 (R0>>>i))),(8,.ptr K2 1 [0]),(17,.ptr (.ar 32 L8) 5 [0]),(6,.ptr (.ar 32 L8) 0 [0])]/\
  live rows 0=some ⟨.ar 32 L8,[.agg (.ar 32 L8) (bs qg)]⟩/\live rows 1=some ⟨K2,[EU K]⟩/\live rows 3=some ⟨.ar 32 L8,l.map aO⟩/\live rows 5=some ⟨.ar 32 L8,[.agg (.ar 32 L8) (bs (dI K.id R0 L0 l i))]⟩) ?_ ?_ ⟨?_,rfl,rfl,rfl,rfl⟩
 ·rintro i hi env rows ⟨hh,r0,r1,r3,r5⟩ R hR
  simp only[has]at hh
  have e0:((i:Int)<(N:Int))=True:=aas (by omega)
  have e1:=ca i (by omega)
  have wE:i<l.length:=by omega
  have zA:=hp32 _ (abz wE)
  have g:(l.map aO)[i]?=some (.agg (.ar 32 L8) (bs l[i])):=by simp[aO,wE]
  have hcl2:=pU i
  have hn:dI K.id R0 L0 l (i+1)=Ds K.id (R0>>>i) (dI K.id R0 L0 l i) l[i]:=by
   show Ds _ _ _ (l.getD i [])=_
   simp[List.getD,wE]
  have lt0:=bb r0
  have lt1:=bb r1
  have lt3:=bb r3
  have lt5:=bb r5
  rw[hn]at hR
  generalize l[i]=x at*
  generalize dI K.id R0 L0 l i=dc at*
  have r1A:=λL=>ae r1 L
  have r5A:=λL=>ae r5 L
  have hs:=VS R0 i
  have hst:Ds K.id (R0>>>i) dc x=if R0>>>i&&&1#32=1#32 then uO K.id (R0>>>(i+1)) x dc else uO K.id (R0>>>(i+1)) dc x:=by rw[Ds,hs]
  have s1:(1#64).toNat=1:=rfl
  by_cases hb:(R0>>>i&&&1#32=1#32)
  ·rw[hst,aaI hb]at hR
   have eb:=aas hb
   simp only[↓ah,aj,simprocAttr,aM,hh,e0,e1,b0,g,r3,r1A,r5A,gi,s1,hs,eb,h6,Jw _ _ _ _ _ _ eY zA hcl2]
   refine hR _ _ ⟨by simp only[has,↓ah,aj,simprocAttr,hh],?_,?_,?_,?_⟩
   ·rw[az (by omega)];exact a7 r0
   ·rw[az (by omega)];exact a7 r1
   ·rw[az (by omega)];exact a7 r3
   ·exact aD (a7 r5)
  ·rw[hst,aaA hb]at hR
   have eb:=aax hb
   simp only[↓ah,aj,simprocAttr,aM,hh,e0,e1,b0,g,r3,r1A,r5A,gi,s1,hs,eb,h6,Jw _ _ _ _ _ _ eY hcl2 zA]
   refine hR _ _ ⟨by simp only[has,↓ah,aj,simprocAttr,hh],?_,?_,?_,?_⟩
   ·rw[az (by omega)];exact a7 r0
   ·rw[az (by omega)];exact a7 r1
   ·rw[az (by omega)];exact a7 r3
   ·exact aD (a7 r5)
 ·rintro env rows ⟨hh,r0,r1,r3,r5⟩ R
  simp only[has]at hh
  have e0:((N:Int)<(N:Int))=False:=aax (by omega)
  have w1:=λx=>aD (y:=x) r0
  simp only[↓ah,aj,simprocAttr,aM,hh,e0,r5,r0,w1]
  exact .val _ rfl
 ·have e:R0>>>0=R0:=by simp
  rw[e]
  simp only[has,↓ah,aj,simprocAttr]
theorem kRoot(rows:Rows)(k:D->Rows->Prop)(d0 d1 d2:D)(a b c:List (BitVec 8))(h0:aU rows d0 a)(h1:aU rows d1 b)(h2:aU rows d2 c)(ha:a.length<=1099511627776)(hb:b.length<=1099511627776)(hc:c.length<=1099511627776):
  aI VT rows k [d0,d1,d2]=k (.cA [.agg (.ar 32 L8) (bs (if Mu a c=0 then Yl a b c else qg)),.raw (it (Mu a c))]) rows:=by
 refine(fH (.bs h0) (.bs h1) (.bs h2) (by simp[ha,hb,hc]) rfl k).trans ?_
 simp[aO,shift,bB,ab,Sh.pure]
def nU(bD msg sig:List (BitVec 8)):Int:=if Mu bD sig=0 then(if Yl bD msg sig=(fj bD).1.root then 0 else 5)else Mu bD sig
noncomputable def yT:Fn:=GY dB dB dB (λa b c=>decide (a.length<=1099511627776)&&decide (b.length<=1099511627776)&&decide (c.length<=1099511627776)) λa b c=>(.raw (it (nU a b c)),[])
theorem Ym(C:bf)(hC:aJ C P)(h1:C.fn 143=some Ju)(h2:C.fn 142=some VT):aN C.aX P 88 (Fn.run yT):=by
 refine bU (NB C hC) λds rows r h=>?_
 obtain⟨d0,d1,d2,bD,msg,sig,rfl,rfl,g0,g1,g2,hp,rfl⟩:=fp h
 obtain⟨x0,hx0⟩:=cb g0
 obtain⟨x1,sn⟩:=cb g1
 obtain⟨x2,BQ⟩:=cb g2
 simp only[aan,aat]at hp
 obtain⟨⟨OU,Mc⟩,sq⟩:=hp
 refine⟨rfl,_,.cons hx0 (.cons sn (.cons BQ .nil)),ag rfl ?_⟩
 clear h g0 g1 g2 hx0 sn BQ
 unfold Cd Ce
 have bL:=λ(rows:Rows) (l:List (BitVec 8)) (e:Bool)=>(ez.to (rows:=rows) (d:= .cI L8 (bs l) e) (.inr ⟨e,rfl⟩))
 have hz:D.agg K2 [.raw (u32 0#32),.raw (u32 0#32),.agg (.ar 16 L8) (List.replicate 16 (.raw (u8 0#8))),.agg (.ar 32 L8) (List.replicate 32 (.raw (u8 0#8)))]=EU Yi:=rfl
 have nS:∀k,(EU k).fits K2=true:=λ_=>rfl
 have gr:∀k:Key,(EU k).get [3]=some (.agg (.ar 32 L8) (bs k.root)):=λ_=>rfl
 have kR:=λrows k=>kReadK rows k _ bD (bL rows bD x0) OU
 have kT:=λrows k=>kRoot rows k _ _ _ bD msg sig (bL rows bD x0) (bL rows msg x1) (bL rows sig x2) OU Mc sq
 simp only[hz,dw]
 by_cases c0:Mu bD sig=0
 ·have e:=rtS_len bD msg sig
  have e2:=(QA bD).2
  have eq:=vF (Yl bD msg sig) (fj bD).1.root e e2
  have hv:nU bD msg sig=if Yl bD msg sig=(fj bD).1.root then 0 else 5:=by rw[nU,aaI c0]
  rw[hv]
  simp only[c0,abX]at kT
  by_cases c1:Yl bD msg sig=(fj bD).1.root
  ·rw[aaI c1]
   rw[aaY c1]at eq
   simp only[↓ah,aj,simprocAttr,aM,h1,kR,nS,h2,kT,gr,eq]
   exact .val _ rfl
  ·rw[aaA c1]
   rw[aaJ c1]at eq
   simp only[↓ah,aj,simprocAttr,aM,h1,kR,nS,h2,kT,gr,eq]
   exact .val _ rfl
 ·have hv:nU bD msg sig=Mu bD sig:=by rw[nU,aaA c0]
  have c0':=aax c0
  rw[hv]
  simp only[↓ah,aj,simprocAttr,aM,h1,kR,nS,h2,kT,gr,c0']
  exact .val _ rfl
theorem VU(rows:Rows)(k:D->Rows->Prop)(d0 d1 d2:D)(a b c:List (BitVec 8))(h0:aU rows d0 a)(h1:aU rows d1 b)(h2:aU rows d2 c)(ha:a.length<=1099511627776)(hb:b.length<=1099511627776)(hc:c.length<=1099511627776):
  aI yT rows k [d0,d1,d2]=k (.raw (it (nU a b c))) rows:=by
 refine(fH (.bs h0) (.bs h1) (.bs h2) (by simp[ha,hb,hc]) rfl k).trans ?_
 simp[shift,ab]
abbrev eW:Sh:=Nt
abbrev kg:Sh:=S24
abbrev F9:Sh:=S16
abbrev QB:Sh:=S13
abbrev Bn:Sh:=qK LS LB
abbrev Dt:Sh:=qK F9 LI
structure gu where
 t:BitVec 32
 o:BitVec 32
 id:List (BitVec 8)
 aF:List (BitVec 8)
 ns:List (List (BitVec 8))
 en:Bool
 nx:BitVec 32
 sm:List D
 tm:List D
 ld:D
def jM(s:gu):D:= .cd (.agg eW [.raw (u32 s.t),.raw (u32 s.o),.agg (.ar 16 L8) (bs s.id),.agg (.ar 32 L8) (bs s.aF),.cI (.ar 32 L8) (s.ns.map aO) s.en,.raw (u32 s.nx),.om Bn s.sm,.om Dt s.tm,s.ld])
theorem Ga:∀{a b:List (List (BitVec 8))},a.map aO=b.map aO->a=b
 |[],[],_=>rfl
 |[],_::_,h=>by simp at h
 | _::_,[],h=>by simp at h
 |x::a,y::b,h=>by
  simp only[abq,abC]at h
  rw[yc x y h.1,Ga h.2]
theorem qw(x y:gu)(h:jM x=jM y):x=y:=by
 obtain⟨t,o,id,aF,ns,en,nx,sm,tm,ld⟩:=x
 obtain⟨t',o',id',seed',ns',en',nx',sm',tm',ld'⟩:=y
 simp only[jM,D.cd.injEq,D.agg.injEq,abC,D.raw.injEq,D.cI.injEq,D.om.injEq,aa2,acg]at h
 obtain⟨h1,h2,h3,h4,⟨h5,h6⟩,h7,h8,h9,h10⟩:=h
 rw[qD h1,qD h2,rO h3,rO h4,Ga h5,h6,qD h7,h8,h9,h10]
def iO(s:gu):Nat:=s.ns.length/2
def jt(s:gu):Bool:=decide (s.id.length=16)&&decide (s.aF.length=32)&&Jj s.ns&&decide (4<=s.ns.length)&&decide (s.ns.length<=2048)&&decide (s.ns.length %2=0)&&!aR s.ld
theorem dG{s:gu}:jt s=true↔s.id.length=16/\s.aF.length=32/\(∀x∈s.ns,x.length=32)/\4<=s.ns.length/\s.ns.length<=2048/\s.ns.length %2=0/\aR s.ld=false:=by
 simp only[jt,aan,aat,py,acL]
 constructor
 ·rintro⟨⟨⟨⟨⟨⟨h1,h2⟩,h3⟩,h4⟩,h5⟩,h6⟩,h7⟩;exact⟨h1,h2,h3,h4,h5,h6,h7⟩
 ·rintro⟨h1,h2,h3,h4,h5,h6,h7⟩;exact⟨⟨⟨⟨⟨⟨h1,h2⟩,h3⟩,h4⟩,h5⟩,h6⟩,h7⟩
theorem lR{s:gu}(h:aR s.ld=false):aR (jM s)=false:=by
 simp[jM,aR,aW,Sh.pure,h]
noncomputable def tq:Fn:=mV (bx jM) jt λs=>(.raw (it (iO s:Int)),[])
theorem Yn(C:bf)(hC:aJ C P):aN C.aX P 38 (Fn.run tq):=by
 refine aG (zc C hC) λds rows r h=>?_
 obtain⟨d,s,rfl,rfl,hd,hp,rfl⟩:=a8 h
 cases aE hd
 obtain⟨eY,n9,qE,TT,hn,yL,Lz⟩:=dG.1 hp
 refine⟨rfl,ag rfl ?_⟩
 clear h hd
 unfold p7 p8
 have e1:((s.ns.length:Nat):Int).tdiv 2=((iO s:Nat):Int):=rfl
 have e2:wz ((iO s:Nat):Int)=((iO s:Nat):Int):=aZ (by unfold iO;omega)
 simp only[jM,↓ah,aj,simprocAttr,aM,aaE,e1,e2]
 exact .val _ rfl
theorem kLeavesV(rows:Rows)(k:D->Rows->Prop)(d:D)(s:gu)(h:bk rows (bx jM) d s)(hp:jt s=true):aI tq rows k [d]=k (.raw (it (iO s:Int))) rows:=by
 refine(cO h hp rfl k).trans ?_
 simp[shift,ab]
theorem Jz(rows:Rows)(k:D->Rows->Prop)(s:gu)(hp:jt s=true):aI tq rows k [jM s]=k (.raw (it (iO s:Int))) rows:=by
 refine(a9 (by simp[aW,lR (dG.1 hp).2.2.2.2.2.2]) (eK (br qw s) hp)).trans ?_
 simp[shift,ab]
noncomputable def JA:Fn:=tW (bx jM) qs (λs _=>jt s) λs q=>(dS ⟨s.id,q⟩,[])
theorem site_ok(C:bf)(hC:aJ C P):aN C.aX P 40 (Fn.run JA):=by
 refine aG (B7 C hC) λds rows r h=>?_
 obtain⟨d,d2,s,q,rfl,rfl,hd,tD,hp,rfl⟩:=cQ h
 cases aE hd
 cases dH tD
 obtain⟨eY,n9,qE,TT,hn,yL,Lz⟩:=dG.1 hp
 refine⟨rfl,ag rfl ?_⟩
 clear h hd tD
 unfold sP sQ
 have hz:D.agg nQ [.agg (.ar 16 L8) (List.replicate 16 (.raw (u8 0#8))),.raw (u32 0#32)]=dS ⟨List.replicate 16 0#8,0#32⟩:=rfl
 simp only[hz]
 simp only[jM,↓ah,aj,simprocAttr,aM,cS]
 exact .val _ rfl
theorem kSiteV(rows:Rows)(k:D->Rows->Prop)(d:D)(s:gu)(q:BitVec 32)(h:bk rows (bx jM) d s)(hp:jt s=true):aI JA rows k [d,.raw (u32 q)]=k (dS ⟨s.id,q⟩) rows:=by
 refine(gf h (bk.raw (eO q)) hp rfl k).trans ?_
 simp[dS,shift,ab,Sh.pure]
theorem kSiteC(rows:Rows)(k:D->Rows->Prop)(s:gu)(q:BitVec 32)(hp:jt s=true):aI JA rows k [jM s,.raw (u32 q)]=k (dS ⟨s.id,q⟩) rows:=by
 refine(a9 (by simp[aW,lR (dG.1 hp).2.2.2.2.2.2,aR]) (gR (br qw s) (eO q) hp)).trans ?_
 simp[dS,shift,ab,Sh.pure]
noncomputable def VV:Fn:=mV (bx jM) jt λs=>(.raw (it ((iO s:Int)-(s.nx.toNat:Int))),[])
theorem left_ok(C:bf)(hC:aJ C P)(h1:C.fn 38=some tq):aN C.aX P 109 (Fn.run VV):=by
 refine aG (Ck C hC) λds rows r h=>?_
 obtain⟨d,s,rfl,rfl,hd,hp,rfl⟩:=a8 h
 cases aE hd
 obtain⟨eY,n9,qE,TT,hn,yL,Lz⟩:=dG.1 hp
 refine⟨rfl,ag rfl ?_⟩
 clear h hd
 unfold sX sY
 have kL:=λrows k=>Jz rows k s hp
 have hx:=s.nx.isLt
 have e2:wz ((iO s:Int)-(s.nx.toNat:Int))=(iO s:Int)-(s.nx.toNat:Int):=aZ (by unfold iO;omega)
 simp only[jM]at kL
 simp only[jM,↓ah,aj,simprocAttr,aM,h1,kL,e2]
 exact .val _ rfl
theorem kLeftV(rows:Rows)(k:D->Rows->Prop)(d:D)(s:gu)(h:bk rows (bx jM) d s)(hp:jt s=true):aI VV rows k [d]=k (.raw (it ((iO s:Int)-(s.nx.toNat:Int)))) rows:=by
 refine(cO h hp rfl k).trans ?_
 simp[shift,ab]
def cy(s:gu):List (BitVec 8):=bi s.t++bi s.o++s.id++s.ns.getD 1 []
theorem jn{s:gu}(hp:jt s=true):(cy s).length=56:=by
 obtain⟨eY,n9,qE,TT,hn,yL,Lz⟩:=dG.1 hp
 have:=qE _ (abz (show 1<s.ns.length by omega))
 have e:s.ns.getD 1 []=s.ns[1]'(by omega):=by simp[List.getD,show 1<s.ns.length by omega]
 rw[cy,e]
 simp only[aao,this,eY]
 rfl
theorem sg_n1{s:gu}(hp:jt s=true):(s.ns.map aO)[1]?=some (.agg (.ar 32 L8) (bs (s.ns.getD 1 [])))/\(s.ns.getD 1 []).length=32:=by
 obtain⟨eY,n9,qE,TT,hn,yL,Lz⟩:=dG.1 hp
 have:=qE _ (abz (show 1<s.ns.length by omega))
 have e:s.ns.getD 1 []=s.ns[1]'(by omega):=by simp[List.getD,show 1<s.ns.length by omega]
 rw[e]
 exact⟨by simp[aO,show 1<s.ns.length by omega],this⟩
noncomputable def uP:Fn:=mV (bx jM) jt λs=>dF (cy s) false
theorem TV(C:bf)(hC:aJ C P)(h1:C.fn 50=some Aw):aN C.aX P 10 (Fn.run uP):=by
 refine aG (za C hC) λds rows r h=>?_
 obtain⟨d,s,rfl,rfl,hd,hp,rfl⟩:=a8 h
 cases aE hd
 obtain⟨eY,n9,qE,TT,hn,yL,Lz⟩:=dG.1 hp
 refine⟨rfl,ag rfl ?_⟩
 clear h hd
 unfold pW pX
 obtain⟨g1,sO⟩:=sg_n1 hp
 have b1:((1:Int)<(s.ns.length:Int))=True:=aas (by omega)
 have w4:∀x:BitVec 32,List.take 4 (bs (bi x))=bs (bi x):=λx=>aaq (aaz _)
 have l4:∀x:BitVec 32,(bs (bi x)).length=4:=λx=>rfl
 have i16:List.take 16 (bs s.id)=bs s.id:=aaq (by rw[aB,eY];exact aaz _)
 have l16:(bs s.id).length=16:=by rw[aB,eY]
 have n32:List.take 32 (bs (s.ns.getD 1 []))=bs (s.ns.getD 1 []):=aaq (by rw[aB,sO];exact aaz _)
 have ln:(bs (s.ns.getD 1 [])).length=32:=by rw[aB,sO]
 have t8:List.take 8 (bs (bi s.t++bi s.o))=bs (bi s.t++bi s.o):=aaq (aaz _)
 have l8:(bs (bi s.t++bi s.o)).length=8:=rfl
 have l24:(bs (bi s.t++(bi s.o++s.id))).length=24:=by rw[aB,aao,aao,eY];rfl
 have t24:List.take 24 (bs (bi s.t++(bi s.o++s.id)))=bs (bi s.t++(bi s.o++s.id)):=aaq (by rw[l24];exact aaz _)
 simp only[jM,↓ah,aj,simprocAttr,aM,h1,Qp,w4,l4,i16,l16,t8,l8,t24,l24,n32,ln,g1,b1,j3,aaE]
 have e:bs (bi s.t++(bi s.o++(s.id++s.ns.getD 1 [])))=bs (cy s):=by rw[cy];simp only[aaC]
 show wF _ _ (.sl L8 0 [] 0 (cy s).length false) [some ⟨L8,bs (cy s)⟩]
 rw[jn hp,e]
 exact .own L8 4 0 56 false false ⟨L8,bs (cy s)⟩ rfl rfl (λh=>h)
theorem JB(rows:Rows)(k:D->Rows->Prop)(d:D)(s:gu)(h:bk rows (bx jM) d s)(hp:jt s=true):aI uP rows k [d]=k (.sl L8 (0+rows.length) [] 0 56 false) (rows++[some ⟨L8,bs (cy s)⟩]):=by
 refine(cO h hp rfl k).trans ?_
 simp[dF,shift,ab,Sh.pure,jn hp]
theorem xor1(r:Nat):r^^^1=if r %2=0 then r+1 else r-1:=by
 have h1:(r^^^1)/2=r/2:=by
  have:=Nat.xor_div_two_pow (a:=r) (b:=1) (n:=1)
  simpa using this
 have h2:(r^^^1) %2=(r+1) %2:=by
  have:=Nat.xor_mod_two_pow (a:=r) (b:=1) (n:=1)
  rw[Nat.pow_one]at this
  rw[this]
  have e0:(0:Nat)^^^1 %2=1:=rfl
  have e1:(1:Nat)^^^1 %2=0:=rfl
  rcases Nat.mod_two_eq_zero_or_one r with h|h<;>rw[h]
  ·rw[e0];omega
  ·rw[e1];omega
 split<;>omega
theorem xor_it(r:Nat)(h:r<4611686018427387904)(k:D->Prop):cF .xor (it (r:Int)) (it 1) k=k (.raw (it ((r^^^1:Nat):Int))):=by
 have e1:BitVec.ofInt IntKind.i64.bits (r:Int)=BitVec.ofNat 64 r:=aa4 _ _
 have e2:BitVec.ofInt IntKind.i64.bits (1:Int)=BitVec.ofNat 64 1:=rfl
 have hx:r^^^1<9223372036854775808:=by have:=xor1 r;split at this<;>omega
 have e3:(BitVec.ofNat 64 r^^^BitVec.ofNat 64 1).toNat=r^^^1:=by
  rw[BitVec.toNat_xor,aaK,aaK,aby (by omega)]
 simp only[cF,it,aa2]
 rw[e1,e2]
 show k (.raw (.int .i64 (wz (((BitVec.ofNat 64 r^^^BitVec.ofNat 64 1).toNat:Nat):Int))))=_
 rw[e3,aZ (by omega)]
def gD(s:gu)(q:Nat):Nat:=Nat.log2 (iO s+q)
def pO(s:gu)(q i:Nat):List (BitVec 8):=s.ns.getD (((iO s+q)/2^i)^^^1) []
def jW(s:gu)(q:Nat):List (List (BitVec 8)):=(List.range (gD s q)).map (pO s q)
theorem oS(s:gu)(q:Nat):(jW s q).length=gD s q:=by simp[jW]
theorem QC{s:gu}(hp:jt s=true){q:Nat}(hq:q<iO s)(i:Nat):(s.ns.map aO)[((iO s+q)/2^i)^^^1]?=some (.agg (.ar 32 L8) (bs (pO s q i)))/\(pO s q i).length=32/\((iO s+q)/2^i)^^^1<s.ns.length:=by
 obtain⟨eY,n9,qE,TT,hn,yL,Lz⟩:=dG.1 hp
 have hr:(iO s+q)/2^i<=iO s+q:=adF _ _
 have hl:iO s+q<s.ns.length:=by unfold iO at*;omega
 have hx:=xor1 ((iO s+q)/2^i)
 have hlt:((iO s+q)/2^i)^^^1<s.ns.length:=by split at hx<;>omega
 have e:pO s q i=s.ns[((iO s+q)/2^i)^^^1]:=by simp[pO,List.getD,hlt]
 rw[e]
 exact⟨by simp[aO,hlt],qE _ (abz hlt),hlt⟩
theorem Du{s:gu}(hp:jt s=true){q:Nat}(hq:q<iO s):∀x∈jW s q,x.length=32:=by
 intro x hx
 obtain⟨i,_,rfl⟩:=acS.1 hx
 exact(QC hp hq i).2.1
noncomputable def Gb:Fn:=tW (bx jM) qs (λs _=>jt s) λs q=>if q.toNat<iO s then(.sl (.ar 32 L8) 0 [] 0 (gD s q.toNat) false,[some ⟨.ar 32 L8,(jW s q.toNat).map aO⟩])else(.raw (.slice none 0 0),[])
theorem Mw{s:gu}(hp:jt s=true)(q:Nat):1<=gD s q:=by
 obtain⟨eY,n9,qE,TT,hn,yL,Lz⟩:=dG.1 hp
 have:iO s+q≠0:=by unfold iO;omega
 exact(Nat.le_log2 this).2 (by unfold iO;omega)
theorem path_ok(C:bf)(hC:aJ C P)(h1:C.fn 38=some tq):aN C.aX P 113 (Fn.run Gb):=by
 refine aG (Cn C hC) λds rows r h=>?_
 obtain⟨d,d2,s,q,rfl,rfl,hd,tD,hp,rfl⟩:=cQ h
 cases aE hd
 cases dH tD
 obtain⟨eY,n9,qE,TT,hn,yL,Lz⟩:=dG.1 hp
 refine⟨rfl,ag rfl ?_⟩
 clear h hd tD
 unfold sZ s3
 have kL:=λrows k=>Jz rows k s hp
 simp only[jM]at kL
 have hq32:=q.isLt
 have hlv:iO s<=1024:=by unfold iO;omega
 have hcv:BitVec.ofInt 64 ((iO s:Nat):Int)=BitVec.ofNat 64 (iO s):=aa4 _ _
 by_cases hq:q.toNat<iO s
 rotate_left
 ·have c1:(BitVec.ofNat 64 (iO s)<=q.setWidth 64)=True:=aas (by rw[abS,aaK,aa9];omega)
  rw[aaA hq]
  simp only[jM,↓ah,aj,simprocAttr,aM,h1,kL,hcv,c1]
  exact .val _ rfl
 have c1:(BitVec.ofNat 64 (iO s)<=q.setWidth 64)=False:=aax (by rw[abS,aaK,aa9];omega)
 rw[aaI hq]
 generalize hQ:q.toNat=Q at*
 have a1:wz ((iO s:Int)+(Q:Int))=((iO s+Q:Nat):Int):=by rw[aZ (by omega)];omega
 have hN1:=Mw hp Q
 have hpg:=λi=>QC hp hq i
 have hN:∀i,i<gD s Q->1<(iO s+Q)/2^i:=λi hi=>by
  have h0:iO s+Q≠0:=by unfold iO;omega
  have:=(Nat.le_log2 h0 (k:=i+1)).1 hi
  rw[aeh]at this
  exact(Nat.le_div_iff_mul_le (adG i)).2 (by omega)
 have hNe:(iO s+Q)/2^gD s Q<=1:=by
  have h0:iO s+Q≠0:=by unfold iO;omega
  have:=(Nat.log2_lt h0 (k:=gD s Q+1)).1 (by unfold gD;omega)
  rw[aeh]at this
  have:=(Nat.div_lt_iff_lt_mul (adG (gD s Q)) (x:=iO s+Q) (y:=2)).2 (by omega)
  omega
 have hds:∀i,((List.range i).map (pO s Q)).map aO++[.agg (.ar 32 L8) (bs (pO s Q i))]=((List.range (i+1)).map (pO s Q)).map aO:=λi=>by simp[abN,aO]
 simp only[jM,↓ah,aj,simprocAttr,aM,h1,kL,hcv,c1,hQ,a1]
 have e1:∀(m:Nat) k,cF .shr (it (m:Int)) (u64 1#64) k=k (.raw (it ((m/2^1:Nat):Int))):=λm k=>Vy m 1 .u64 (by decide) k
 have hR:iO s+Q<=2048:=by unfold iO at*;omega
 have hdv:∀i,(iO s+Q)/2^i<=2048:=λi=>abd (adF _ _) hR
 have Kt:∀i,(iO s+Q)/2^i/2^1=(iO s+Q)/2^(i+1):=λi=>by rw[Nat.div_div_eq_div_mul,<-aeE]
 have hR0:(iO s+Q)/2^0=iO s+Q:=by simp
 have hpG:jW s Q=(List.range (gD s Q)).map (pO s Q):=rfl
 rw[hpG]
 have kf:aR s.ld=false:=Lz
 generalize hV:(D.agg eW [.raw (u32 s.t),.raw (u32 s.o),.agg (.ar 16 L8) (bs s.id),.agg (.ar 32 L8) (bs s.aF),.cI (.ar 32 L8) (s.ns.map aO) s.en,.raw (u32 s.nx),.om Bn s.sm,.om Dt s.tm,s.ld]).cd=V
 have hfa:V=(D.agg eW [.raw (u32 s.t),.raw (u32 s.o),.agg (.ar 16 L8) (bs s.id),.agg (.ar 32 L8) (bs s.aF),.cI (.ar 32 L8) (s.ns.map aO) s.en,.raw (u32 s.nx),.om Bn s.sm,.om Dt s.tm,s.ld]).cd:=hV.symm
 refine bg (gD s Q) (λi env rows=>has env [(6,.raw (it (((iO s+Q)/2^i:Nat):Int))),(0,V)]/\∃d',look env 5=some d'/\iT (.ar 32 L8) d' rows (((List.range i).map (pO s Q)).map aO)) ?_ ?_ ⟨?_,.raw (.slice none 0 0),?_,.inl ⟨rfl,rfl⟩⟩
 ·rintro i hi env rows ⟨hw,d',h5,hO⟩ R hRR
  simp only[has]at hw
  obtain⟨g1,g2,g3⟩:=hpg i
  have hgt:=hN i hi
  have hle:=hdv i
  have hxi:=xor_it ((iO s+Q)/2^i) (by omega)
  have hnx':=Kt i
  have hde:=hds i
  have b0:∀n:Nat,((0:Int)<=(n:Int))=True:=λn=>aas (by omega)
  generalize (iO s+Q)/2^i=r at*
  generalize pO s Q i=x at*
  have f0:((1:Int)<(r:Int))=True:=aas (by omega)
  have f1:(((r^^^1:Nat):Int)<(s.ns.length:Int))=True:=aas (by omega)
  have w0:look env 0=_:=hw.2.1.trans (abB some hfa)
  have w6:=hw.1
  simp only[↓ah,aj,simprocAttr,aM,w0,w6,h5,f0,hxi,b0,f1,aaE,g1,e1,hnx']
  have wE:(List.range i).length=i:=ac2
  have hN12:gD s Q<=11:=by
   have h0:iO s+Q≠0:=by unfold iO;omega
   have:=(Nat.log2_lt h0 (k:=12)).2 (by omega)
   unfold gD;omega
  refine iq hO.push (by rw[aaE,aaE,wE];simp[most];omega) (by rw[aaE,aaE,wE];simp[most];omega) λd2 aa F6 qo wv _=>?_
  rw[hde]at F6
  simp only[↓ah,aj,simprocAttr,aM,w0,w6,hxi,e1,hnx']
  exact hRR _ _ ⟨by simp only[has,↓ah,aj,simprocAttr,w0,hfa],d2,by simp only[↓ah,aj,simprocAttr],F6⟩
 ·rintro env rows ⟨hw,d',h5,hO⟩ R
  simp only[has]at hw
  have f0:((1:Int)<(((iO s+Q)/2^gD s Q:Nat):Int))=False:=aax (by omega)
  simp only[↓ah,aj,simprocAttr,aM,hw.1,h5,f0]
  rcases hO with⟨h,_⟩|⟨r,N9,rfl,hlv⟩
  ·have:=abB List.length h
   rw[aaE,aaE,ac2,aaT]at this
   omega
  ·rw[aaE,aaE,ac2]
   exact .own (.ar 32 L8) r 0 _ N9 false _ hlv rfl (λh=>by cases h)
 ·rw[hR0];simp only[has,↓ah,aj,simprocAttr]
 ·simp only[↓ah,aj,simprocAttr]
theorem kPathC(rows:Rows)(k:D->Rows->Prop)(s:gu)(q:BitVec 32)(hp:jt s=true)(hq:q.toNat<iO s):
  aI Gb rows k [jM s,.raw (u32 q)]=k (.sl (.ar 32 L8) (0+rows.length) [] 0 (gD s q.toNat) false) (rows++[some ⟨.ar 32 L8,(jW s q.toNat).map aO⟩]):=by
 refine(a9 (by simp[aW,lR (dG.1 hp).2.2.2.2.2.2,aR]) (gR (br qw s) (eO q) hp)).trans ?_
 simp only[aaI hq]
 simp[shift,ab,Sh.pure]
theorem kPathV(rows:Rows)(k:D->Rows->Prop)(d:D)(s:gu)(q:BitVec 32)(h:bk rows (bx jM) d s)(hp:jt s=true)(hq:q.toNat<iO s):
  aI Gb rows k [d,.raw (u32 q)]=k (.sl (.ar 32 L8) (0+rows.length) [] 0 (gD s q.toNat) false) (rows++[some ⟨.ar 32 L8,(jW s q.toNat).map aO⟩]):=by
 refine(gf h (bk.raw (eO q)) hp (by simp only[aaI hq];rfl) k).trans ?_
 simp only[aaI hq]
 simp[shift,ab,Sh.pure]
def iP(s:gu)(q:BitVec 32)(c m:List (BitVec 8)):List (BitVec 8):=bi q++nc s.o ⟨s.id,q⟩ s.aF c m++bi s.t++(jW s q.toNat).flatten
theorem pathN_le{s:gu}(hp:jt s=true){q:Nat}(hq:q<iO s):gD s q<=11:=by
 obtain⟨eY,n9,qE,TT,hn,yL,Lz⟩:=dG.1 hp
 have h0:iO s+q≠0:=by unfold iO;omega
 have:=(Nat.log2_lt h0 (k:=12)).2 (by unfold iO at*;omega)
 unfold gD;omega
theorem Dv{s:gu}(hp:jt s=true){q:BitVec 32}(hq:q.toNat<iO s)(c m:List (BitVec 8))(hc:c.length=32):(iP s q c m).length=44+32*pT s.o.toNat+32*gD s q.toNat:=by
 rw[iP]
 simp only[aao,uN _ _ _ _ _ hc,px (Du hp hq),oS]
 show 4+(36+32*pT s.o.toNat)+4+32*gD s q.toNat=_
 omega
noncomputable def Bo:Fn:=Zw (bx jM) qs (bx aO) dB (λs _ c m=>jt s&&sr s.o.toNat&&decide (c.length=32)&&decide (m.length<=1099511627776)) λs q c m=>
 if q.toNat<iO s then(.cA [.sl L8 0 [] 0 (44+32*pT s.o.toNat+32*gD s q.toNat) false,.raw (it 0)],[some ⟨L8,bs (iP s q c m)⟩])else(.cA [.raw (.slice none 0 0),.raw (it 1)],[])
theorem force_ok(C:bf)(hC:aJ C P)(h1:C.fn 38=some tq)(h2:C.fn 40=some JA)(h3:C.fn 113=some Gb)(h4:C.fn 50=some Aw)(h5:C.fn 112=some VM):aN C.aX P 54 (Fn.run Bo):=by
 refine bU (AX C hC) λds rows r h=>?_
 obtain⟨d0,d1,d2,d3,s,q,c,m,rfl,rfl,g0,g1,g2,g3,hp,rfl⟩:=rQ h
 cases aE g0
 cases dH g1
 cases aE g2
 obtain⟨xm,hx⟩:=cb g3
 simp only[aan,aat]at hp
 obtain⟨⟨⟨hp,ho⟩,hc⟩,hm⟩:=hp
 obtain⟨eY,n9,qE,TT,hn,yL,Lz⟩:=dG.1 hp
 refine⟨rfl,_,.cons (.refl _) (.cons (.refl _) (.cons (.refl _) (.cons hx .nil))),ag rfl ?_⟩
 clear h g0 g1 g2 g3 hx
 unfold rf rj
 have kL:=λrows k=>Jz rows k s hp
 have kS:=λrows k=>kSiteC rows k s q hp
 have hlv:iO s<=1024:=by unfold iO;omega
 have hq32:=q.isLt
 have hcv:BitVec.ofInt 64 ((iO s:Nat):Int)=BitVec.ofNat 64 (iO s):=aa4 _ _
 have bL:=λ(rows:Rows) (l:List (BitVec 8)) (e:Bool)=>(ez.to (rows:=rows) (d:= .cI L8 (bs l) e) (.inr ⟨e,rfl⟩))
 have kG:=λrows k=>kSign rows k s.o ⟨s.id,q⟩ s.aF c m (.cI L8 (bs m) xm) (bL rows m xm) eY n9 hc ho
 simp only[dw]
 by_cases hq:q.toNat<iO s
 rotate_left
 ·have c1:(BitVec.ofNat 64 (iO s)<=q.setWidth 64)=True:=aas (by rw[abS,aaK,aa9];omega)
  rw[aaA hq]
  simp only[jM]at kL
  simp only[jM,aO,↓ah,aj,simprocAttr,aM,h1,kL,hcv,c1]
  exact .val _ rfl
 have c1:(BitVec.ofNat 64 (iO s)<=q.setWidth 64)=False:=aax (by rw[abS,aaK,aa9];omega)
 rw[aaI hq]
 have kP:=λrows k=>kPathC rows k s q hp hq
 have kf:=uN s.o ⟨s.id,q⟩ s.aF c m hc
 have hN:=pathN_le hp hq
 have tV:=oS s q.toNat
 have hp32:=Du hp hq
 have hpt:pT s.o.toNat<=265:=(gI ho).2.2.1
 have hsg:iP s q c m=bi q++nc s.o ⟨s.id,q⟩ s.aF c m++bi s.t++(jW s q.toNat).flatten:=rfl
 rw[hsg]
 generalize nc s.o ⟨s.id,q⟩ s.aF c m=SG at*
 generalize jW s q.toNat=l at*
 generalize gD s q.toNat=N at*
 simp only[jM]at kL kS kP
 generalize hM:pT s.o.toNat=M at*
 have w4:∀x:BitVec 32,List.take 4 (bs (bi x))=bs (bi x):=λx=>aaq (aaz _)
 have l4:∀x:BitVec 32,(bs (bi x)).length=4:=λx=>rfl
 have sg1:List.take (36+32*M) (bs SG)=bs SG:=aaq (by rw[aB,kf];exact aaz _)
 have sg2:(bs SG).length=36+32*M:=by rw[aB,kf]
 have la:(bs (bi q++SG)).length=4+(36+32*M):=by rw[aB,aao,kf];rfl
 have ta:List.take (4+(36+32*M)) (bs (bi q++SG))=bs (bi q++SG):=aaq (by rw[la];exact aaz _)
 simp only[jM,aO,↓ah,aj,simprocAttr,aM,h1,kL,hcv,c1,h2,kS,h5,kG,h4,Qp,h3,kP,w4,l4,sg1,sg2,la,ta,j3]
 refine⟨by omega,by omega,by omega,by omega,?_⟩
 generalize hT:bi q++(SG++bi s.t)=T0
 have e:bi q++(SG++(bi s.t++l.flatten))=T0++l.flatten:=by rw[<-hT];simp only[aaC]
 have lT:T0.length=44+32*M:=by rw[<-hT,aao,aao,kf];show 4+(36+32*M+4)=_;omega
 rw[e]
 have hln:l.length=N:=tV
 have hlt:∀i,i<=l.length->(T0++(l.take i).flatten).length=44+32*M+32*i:=λi hi=>by
  rw[aao,lT,px (λx hx=>hp32 x (aa1 hx)),aau]
  omega
 refine bg N (λi env rows=>has env [(57,.raw (it (i:Int))),(56,.raw (it (N:Int))),(55,.sl (.ar 32 L8) 6 [] 0 N false)]/\
  live rows 6=some ⟨.ar 32 L8,l.map aO⟩/\∃d,look env 12=some d/\iT L8 d rows (bs (T0++(l.take i).flatten))) ?_ ?_ ⟨?_,rfl,.sl L8 5 [] 0 (4+(36+(32*M+4))) false,by simp only[↓ah,aj,simprocAttr],.inr ⟨5,false,by rw[abL,abn,aaL,aB,lT,show 4+(36+(32*M+4))=44+32*M by omega],by rw[abL,abn,aaL];rfl⟩⟩
 ·rintro i hi env rows ⟨hh,r1,d,h7,hO⟩ R hR
  simp only[has]at hh
  have e0:((i:Int)<(N:Int))=True:=aas (by omega)
  have b0:∀n:Nat,((0:Int)<=(n:Int))=True:=λn=>aas (by omega)
  have e1:=ca i (by omega)
  have wE:i<l.length:=by omega
  have hx:=hp32 _ (abz wE)
  have g:(l.map aO)[i]?=some (.agg (.ar 32 L8) (bs l[i])):=by simp[aO,wE]
  have hs:T0++(l.take i).flatten++l[i]=T0++(l.take (i+1)).flatten:=by
   rw[aaC,aaR wE,abU];simp
  have hlen:=hlt i (by omega)
  generalize l[i]=xi at*
  have lt6:=bb r1
  have ea:∀ex,elems (rows++[some ⟨.ar 32 L8,[.agg (.ar 32 L8) (bs xi)]⟩]) (.sl L8 rows.length [0] 0 32 ex)=some (bs xi):=λex=>oP (n:=32) (by rw[bw];rfl) rfl hx
  simp only[↓ah,aj,simprocAttr,aM,hh,e0,e1,b0,h7,r1,g,ea,aB,hx]
  refine iq (hO.push) (by rw[aB,aB,hx,hlen];simp[most];omega) (by rw[aB,aB,hx,hlen];simp[most];omega) λd' aa F6 qo wv _=>?_
  rw[j3,hs]at F6
  have r1':=qo 6 _ (ae r1 _) (λex=>jI hO r1 (by decide) ex _)
  simp only[↓ah,aj,simprocAttr,aM,hh,e1]
  exact hR _ _ ⟨by simp only[has,↓ah,aj,simprocAttr,hh],r1',d',by simp only[↓ah,aj,simprocAttr],F6⟩
 ·rintro env rows ⟨hh,r1,d,h7,hO⟩ R
  simp only[has]at hh
  have e0:((N:Int)<(N:Int))=False:=aax (by omega)
  have htk:l.take N=l:=aaq (by omega)
  rw[htk]at hO
  have hlen:=hlt l.length (aaz _)
  rw[aaV]at hlen
  simp only[↓ah,aj,simprocAttr,aM,hh,e0,h7]
  rcases hO with⟨h,_⟩|⟨r,N9,rfl,hlv⟩
  ·have:=abB List.length h
   rw[aB,hlen,aaT]at this
   omega
  ·have hle:(bs (T0++l.flatten)).length=44+(32*M+32*N):=by rw[aB,hlen];omega
   rw[hle]
   exact .ownU [] L8 r 0 _ N9 false _ [.raw (it 0)] hlv rfl rfl rfl (λh=>by cases h)
 ·simp only[has,↓ah,aj,simprocAttr]
theorem VW(rows:Rows)(k:D->Rows->Prop)(d e:D)(s:gu)(q:BitVec 32)(c m:List (BitVec 8))(h:bk rows (bx jM) d s)(hm:aU rows e m)(hp:jt s=true)(ho:sr s.o.toNat=true)(hc:c.length=32)(H9:m.length<=1099511627776)(hq:q.toNat<iO s):
  aI Bo rows k [d,.raw (u32 q),.agg (.ar 32 L8) (bs c),e]=k (.cA [.sl L8 (0+rows.length) [] 0 (44+32*pT s.o.toNat+32*gD s q.toNat) false,.raw (it 0)]) (rows++[some ⟨L8,bs (iP s q c m)⟩]):=by
 refine(uK h (bk.raw (eO q)) (iM c) (.bs hm) (by simp[hp,ho,hc,H9]) (by simp only[aaI hq];rfl) k).trans ?_
 simp only[aaI hq]
 simp[shift,bB,ab,Sh.pure]
theorem Oc(b w:Nat)(hb:b<=4)(hw:w<=30)(k:D->Prop):cF .shl (it (b:Int)) (it (w:Int)) k=k (.raw (it ((b*2^w:Nat):Int))):=by
 have hm:min ((w:Int)).toNat IntKind.i64.bits=w:=by show min ((w:Int)).toNat 64=w;omega
 have hp:2^w<=2^30:=abO (by decide) hw
 have hq:b*2^w<=4*2^30:=Nat.mul_le_mul hb hp
 have e:(b:Int)*2^w=((b*2^w:Nat):Int):=by simp
 simp only[cF,it]
 rw[hm,e]
 have hz:IntKind.i64.wrap ((b*2^w:Nat):Int)=((b*2^w:Nat):Int):=aZ (by omega)
 rw[hz]
 simp
structure Bp where
 q:BitVec 32
 i:Int
 j:Int
def ju(p:Bp):D:= .agg QB [.raw (u32 p.q),.raw (it p.i),.raw (it p.j)]
theorem QD(x y:Bp)(h:ju x=ju y):x=y:=by
 obtain⟨q,i,j⟩:=x
 obtain⟨q',i',j'⟩:=y
 simp only[ju,D.agg.injEq,abC,D.raw.injEq,aa2,acg,it,Value.int.injEq]at h
 rw[qD h.1,h.2.1,h.2.2]
theorem Dw(p:Bp):(ju p).fits QB=true:=rfl
theorem JD{rows:Rows}(p:Bp):bk rows (bx ju) (ju p) p:=bk.agg rfl (br QD p)
def uQ(q:BitVec 32)(i:Int):D:= .agg F9 [.raw (u32 q),.raw (it i)]
def tu(tm:List D)(q:BitVec 32)(i:Int):Option (Option Int):=match wX (uQ q i) tm with
 |some none=>some none
 |some (some (.int .i64 n))=>some (some n)
 | _=>none
theorem TW{tm:List D}{q:BitVec 32}{i:Int}{o:Option Int}(h:tu tm q i=some o):wX (uQ q i) tm=some (o.map λn=>it n):=by
 unfold tu at h
 split at h
 ·rename_i e;cases h;exact e
 ·rename_i n e;cases h;exact e
 ·cases h
def knB(s:gu)(p:Bp):Bool:=match tu s.tm p.q p.i with
 |some (some n)=>decide (n<=p.j)&&decide (p.j<(2^wT s.o.toNat:Nat))
 | _=>false
noncomputable def JE:Fn:=tW (bx jM) (bx ju) (λs p=>jt s&&sr s.o.toNat&&(tu s.tm p.q p.i).isSome) λs p=>(.raw (.bool (knB s p)),[])
theorem knows_ok(C:bf)(hC:aJ C P)(h1:C.fn 37=some j8):aN C.aX P 97 (Fn.run JE):=by
 refine aG (AZ C hC) λds rows r h=>?_
 obtain⟨d,d2,s,p,rfl,rfl,hd,tD,hp,rfl⟩:=cQ h
 cases aE hd
 cases aE tD
 simp only[aan]at hp
 obtain⟨⟨hp,ho⟩,hk⟩:=hp
 refine⟨rfl,ag rfl ?_⟩
 clear h hd tD
 unfold rv ry
 have hz:D.agg pz [.raw (it 0),.raw (it 0),.raw (it 0)]=ib ⟨0,0,0⟩:=rfl
 obtain⟨o,hko⟩:=ac6.1 hk
 have hm:=TW hko
 have pg0:(ju p).get [0]=some (.raw (u32 p.q)):=rfl
 have pg1:(ju p).get [1]=some (.raw (it p.i)):=rfl
 have pg2:(ju p).get [2]=some (.raw (it p.j)):=rfl
 have hw:wT s.o.toNat<=8:=by rcases EN ho with e|e|e|e<;>rw[e]<;>decide
 have gw:(ib (lC s.o.toNat)).get [0]=some (.raw (it (wT s.o.toNat:Int))):=rfl
 have hsp:∀q i,D.agg F9 [.raw (u32 q),.raw (it i)]=uQ q i:=λ_ _=>rfl
 have Od:∀q i,(uQ q i).fits F9=true:=λ_ _=>rfl
 simp only[hz]
 cases o with
 |none=>
  have hkb:knB s p=false:=by rw[knB,hko]
  rw[hkb]
  simp only[jM,↓ah,aj,simprocAttr,aM,Dw,h1,jJ,cL,pg0,pg1,pg2,gw,hsp,Od,hm,ab3,Option.map]
  exact .val _ rfl
 | some n =>
  have hkb:knB s p=(decide (n<=p.j)&&decide (p.j<(2^wT s.o.toNat:Nat))):=by rw[knB,hko]
  rw[hkb]
  have hsh:=Oc 1 (wT s.o.toNat) (by decide) (by omega)
  rw[Nat.one_mul,show((1:Nat):Int)=1 from rfl]at hsh
  by_cases c1:n<=p.j
  ·have K4:=aas c1
   simp only[jM,↓ah,aj,simprocAttr,aM,Dw,h1,jJ,cL,pg0,pg1,pg2,gw,hsp,Od,hm,ab3,Option.map,K4,hsh,aav,abA]
   exact .val _ rfl
  ·have K4:=aax c1
   simp only[jM,↓ah,aj,simprocAttr,aM,Dw,h1,jJ,cL,pg0,pg1,pg2,gw,hsp,Od,hm,ab3,Option.map,K4,hsh,aaw,abQ]
   exact .val _ rfl
theorem VX(rows:Rows)(k:D->Rows->Prop)(d:D)(s:gu)(p:Bp)(h:bk rows (bx jM) d s)(hp:jt s=true)(ho:sr s.o.toNat=true)(hk:(tu s.tm p.q p.i).isSome=true):
  aI JE rows k [d,.agg QB [.raw (u32 p.q),.raw (it p.i),.raw (it p.j)]]=k (.raw (.bool (knB s p))) rows:=by
 refine(gf h (JD p) (by simp[hp,ho,hk]) rfl k).trans ?_
 simp[shift,ab]
def jx(m:List (BitVec 8)):ByteArray:=⟨(ub m).toArray⟩
def EX(sm:List D)(m:List (BitVec 8)):Option Bool:=match wX (.raw (.string (jx m))) sm with
 |some none=>some false
 |some (some (.bool b))=>some b
 | _=>none
noncomputable def yU:Fn:=tW (bx jM) dB (λs m=>jt s&&(EX s.sm m).isSome&&decide (m.length<=1099511627776)) λs m=>(.raw (.bool ((EX s.sm m).getD false)),[])
theorem Yo(C:bf)(hC:aJ C P):aN C.aX P 33 (Fn.run yU):=by
 refine bU (zb C hC) λds rows r h=>?_
 obtain⟨d,d2,s,m,rfl,rfl,hd,tD,hp,rfl⟩:=cQ h
 cases aE hd
 obtain⟨xm,hx⟩:=cb tD
 simp only[aan,aat]at hp
 obtain⟨⟨hp,hk⟩,H9⟩:=hp
 refine⟨rfl,_,.cons (.refl _) (.cons hx .nil),ag rfl ?_⟩
 clear h hd tD hx
 unfold pY pZ
 have hb:=GZ m
 have hstr:∀v:List UInt8,(D.raw (.string ⟨v.toArray⟩)).fits LS=true:=λ_=>rfl
 have hmv:(⟨(ub m).toArray⟩:ByteArray)=jx m:=rfl
 obtain⟨o,hko⟩:=ac6.1 hk
 rw[hko]
 unfold EX at hko
 split at hko
 ·rename_i e
  cases hko
  simp only[jM,↓ah,aj,simprocAttr,aM,aB,hb,hmv,e,ab3,Option.getD]
  exact⟨rfl,.val _ rfl⟩
 ·rename_i b e
  cases hko
  simp only[jM,↓ah,aj,simprocAttr,aM,aB,hb,hmv,e,ab3,Option.getD]
  exact⟨rfl,.val _ rfl⟩
 ·cases hko
theorem QE(rows:Rows)(k:D->Rows->Prop)(d e:D)(s:gu)(m:List (BitVec 8))(h:bk rows (bx jM) d s)(hm:aU rows e m)(hp:jt s=true)(hk:(EX s.sm m).isSome=true)(H9:m.length<=1099511627776):
  aI yU rows k [d,e]=k (.raw (.bool ((EX s.sm m).getD false))) rows:=by
 refine(gf h (.bs hm) (by simp[hp,hk,H9]) rfl k).trans ?_
 simp[shift,ab]
def bG(rows aa:Rows):Prop:=∀q row,live rows q=some row->live aa q=some row
theorem bG.refl(rows:Rows):bG rows rows:=λ_ _ h=>h
theorem bG.app(rows L:Rows):bG rows (rows++L):=λ_ _ h=>a7 h
theorem bG.trans{a b c:Rows}(h:bG a b)(h':bG b c):bG a c:=λq row hq=>h' q row (h q row hq)
theorem bG.set{rows rs:Rows}(h:bG rows rs){q:Nat}(hq:rows.length<=q)(x:Option Row):bG rows (rs.set q x):=λp row hp=>by
 have:=bb hp
 rw[az (by omega)]
 exact h p row hp
structure Sg where
 t:BitVec 32
 o:BitVec 32
 id:List (BitVec 8)
 aF:List (BitVec 8)
 ns:List (List (BitVec 8))
 nx:BitVec 32
 sm:List D
 tm:List D
 last:List (List (BitVec 8)×List (BitVec 8))
structure vI where
 r:Nat
 nr:Nat
 ms:Nat
 mt:Nat
 ne:Bool
 dl:D
def wM(x:List (BitVec 8)×List (BitVec 8)):D:= .agg kg [.raw (.string (jx x.1)),.agg (.ar 32 L8) (bs x.2)]
def EY(L:vI)(s:Sg):D:= .agg eW [.raw (u32 s.t),.raw (u32 s.o),.agg (.ar 16 L8) (bs s.id),.agg (.ar 32 L8) (bs s.aF),.sl (.ar 32 L8) L.nr [] 0 s.ns.length L.ne,.raw (u32 s.nx),.mp L.ms,.mp L.mt,L.dl]
structure ob (rows:Rows) (L:vI) (s:Sg):Prop where
 a:live rows L.r=some ⟨eW,[EY L s]⟩
 n:live rows L.nr=some ⟨.ar 32 L8,s.ns.map aO⟩
 m:live rows L.ms=some ⟨Bn,s.sm⟩
 t:live rows L.mt=some ⟨Dt,s.tm⟩
 l:iT kg L.dl rows (s.last.map wM)
def TX(L:vI)(s:Sg):D:=match L.dl with
 | .sl _ _ _ _ _ ex=> .cI kg (s.last.map wM) ex
 |d=>d
def Sg.v(s:Sg)(L:vI):gu:=⟨s.t,s.o,s.id,s.aF,s.ns,L.ne,s.nx,s.sm,s.tm,TX L s⟩
theorem ob.keep{rows aa:Rows}{L:vI}{s:Sg}(h:ob rows L s)(hk:bG rows aa):ob aa L s:=by
 refine⟨hk _ _ h.a,hk _ _ h.n,hk _ _ h.m,hk _ _ h.t,?_⟩
 rcases h.l with h|⟨r,ex,e,hl⟩
 ·exact .inl h
 ·exact .inr ⟨r,ex,e,hk _ _ hl⟩
theorem ob.push{rows:Rows}{L:vI}{s:Sg}(h:ob rows L s)(more:Rows):ob (rows++more) L s:=h.keep (bG.app _ _)
theorem ob.vw{rows:Rows}{L:vI}{s:Sg}(h:ob rows L s)(n:Nat):view rows (n+4) (.ptr eW L.r [0])=some (jM (s.v L)):=by
 have en:elems rows (.sl (.ar 32 L8) L.nr [] 0 s.ns.length L.ne)=some (s.ns.map aO):=by
  simp only[elems,h.n]
  simp[aaq]
 have hm:live rows L.ms=some ⟨Bn,s.sm⟩:=h.m
 have ht:live rows L.mt=some ⟨Dt,s.tm⟩:=h.t
 have hv:view rows (n+2) L.dl=some (TX L s):=by
  rcases h.l with⟨e2,e⟩|⟨r,ex,e,hl⟩
  ·rw[TX,e];rfl
  ·have HD:(s.last.map wM).length=s.last.length:=aaE _
   have el:elems rows (.sl kg r [] 0 s.last.length ex)=some (s.last.map wM):=by
    simp only[elems,hl]
    simp[aaq]
   rw[TX,e,HD]
   simp[view,el,Sh.pure]
 have h7:view rows (n+3) (EY L s)=some (.agg eW [.raw (u32 s.t),.raw (u32 s.o),.agg (.ar 16 L8) (bs s.id),.agg (.ar 32 L8) (bs s.aF),.cI (.ar 32 L8) (s.ns.map aO) L.ne,.raw (u32 s.nx),.om Bn s.sm,.om Dt s.tm,TX L s]):=by
  unfold EY
  rw[qU]
  simp[Sh.pure,view,dU,en,hm,ht,hv]
 rw[vw_ptr,h.a]
 have hg:dC [EY L s] [0]=some (EY L s):=rfl
 simp only[abc,hg,h7]
 rfl
theorem ob.rd{rows:Rows}{L:vI}{s:Sg}(h:ob rows L s):bk rows (bx jM) (.ptr eW L.r [0]) (s.v L):=
 ⟨⟨jM (s.v L),h.vw 5,br qw _⟩,λh=>by simp[aR]at h⟩
theorem Sg.JF{L:vI}{s:Sg}{rows:Rows}(h:ob rows L s):aR (TX L s)=false:=by
 rcases h.l with⟨e2,e⟩|⟨r,ex,e,hl⟩
 ·rw[TX,e];rfl
 ·rw[TX,e];rfl
def lfS(o:BitVec 32)(id aF:List (BitVec 8))(H r:Nat):List (BitVec 8):=dZ id (BitVec.ofNat 32 r) (zo o.toNat ⟨id,BitVec.ofNat 32 (r-H)⟩ aF)
def VY(o:BitVec 32)(id aF:List (BitVec 8))(H:Nat)(N:List (List (BitVec 8)))(r:Nat):List (BitVec 8):=if H<=r then lfS o id aF H r else uO id (BitVec.ofNat 32 r) (N.getD (2*r) []) (N.getD (2*r+1) [])
def oT(o:BitVec 32)(id aF:List (BitVec 8))(H:Nat):Nat->List (List (BitVec 8))
 |0=>List.replicate (2*H) qg
 |k+1=>(oT o id aF H k).set (2*H-1-k) (VY o id aF H (oT o id aF H k) (2*H-1-k))
def mI(o:BitVec 32)(id aF:List (BitVec 8))(H:Nat):List (List (BitVec 8)):=oT o id aF H (2*H-1)
section
variable (o:BitVec 32) (id aF:List (BitVec 8)) (H:Nat)
theorem Dx:∀k,(oT o id aF H k).length=2*H
 |0=>by simp[oT]
 |k+1=>by simp[oT,Dx k]
theorem ndV_len(N:List (List (BitVec 8)))(r:Nat):(VY o id aF H N r).length=32:=by
 unfold VY
 split
 ·exact oR _ _ _
 ·exact Mq _ _ _ _
theorem TY:∀k,∀x∈oT o id aF H k,x.length=32
 |0,x,hx=>by rw[abG hx];rfl
 |k+1,x,hx=>by
  rcases adz hx with h|rfl
  ·exact TY k x h
  ·exact ndV_len _ _ _ _ _ _
theorem JG(k:Nat):∀m j,1<=j->2*H-k<=j->(oT o id aF H (k+m)).getD j []=(oT o id aF H k).getD j []
 |0,j,_,_=>rfl
 | m + 1, j, h0, h => by
  have ih:=JG k m j h0 h
  rw[show k+(m+1)=(k+m)+1 from rfl,oT]
  by_cases hlt:j<2*H
  ·rw[<-ih]
   have hne:2*H-1-(k+m)≠j:=by omega
   simp only[List.getD,abP hne]
  ·rw[<-ih]
   have h1:(oT o id aF H (k+m)).length<=j:=by rw[Dx];omega
   simp only[List.getD]
   rw[abh (by rw[aa6];exact h1),abh h1]
theorem QF(r:Nat)(h1:1<=r)(h2:r<2*H):(mI o id aF H).getD r []=VY o id aF H (mI o id aF H) r:=by
 obtain⟨k,hk⟩:∃k,r=2*H-1-k:=⟨2*H-1-r,by omega⟩
 have e1:(mI o id aF H).getD r []=(oT o id aF H (k+1)).getD r []:=by
  have:=JG o id aF H (k+1) (2*H-1-(k+1)) r (by omega) (by omega)
  rw[show k+1+(2*H-1-(k+1))=2*H-1 by omega]at this
  exact this
 have hl:=Dx o id aF H k
 rw[e1,oT,<-hk]
 have e2:((oT o id aF H k).set r (VY o id aF H (oT o id aF H k) r)).getD r []=VY o id aF H (oT o id aF H k) r:=by
  simp[List.getD,hl,h2]
 rw[e2]
 unfold VY
 by_cases hH:H<=r
 ·rw[aaI hH,aaI hH]
 ·rw[aaA hH,aaA hH]
  have st:=λj (h0:1<=j) (hj:2*H-k<=j)=>by
   have:=JG o id aF H k (2*H-1-k) j h0 hj
   rw[show k+(2*H-1-k)=2*H-1 by omega]at this
   exact this
  show uO _ _ _ _=uO _ _ ((mI o id aF H).getD (2*r) []) ((mI o id aF H).getD (2*r+1) [])
  rw[mI,st (2*r) (by omega) (by omega),st (2*r+1) (by omega) (by omega)]
theorem TZ(r:Nat)(h1:H<=r)(h2:r<2*H):(mI o id aF H).getD r []=lfS o id aF H r:=by
 rw[QF o id aF H r (by omega) h2,VY,aaI h1]
theorem T3(r:Nat)(h1:1<=r)(h2:r<H):(mI o id aF H).getD r []=uO id (BitVec.ofNat 32 r) ((mI o id aF H).getD (2*r) []) ((mI o id aF H).getD (2*r+1) []):=by
 rw[QF o id aF H r h1 (by omega),VY,aaA (by omega)]
end
structure uR (rows:Rows) (q a w:Nat) (c:rU):Prop where
 ch:live rows q=some ⟨TQ,[.agg TQ [.ptr Kq a [0],.raw (.bool c.s)]]⟩
 ar:live rows a=some ⟨Kq,[.agg Kq [.sl DX w [] 0 64 c.e]]⟩
 dat:live rows w=some ⟨DX,c.ws.map DY⟩
 len:c.ws.length=64
theorem uR.keep{rows aa:Rows}{q a w:Nat}{c:rU}(h:uR rows q a w c)(f:∀p row,live rows p=some row->(p=q\/p=a\/p=w)->live aa p=some row):uR aa q a w c:=
 ⟨f _ _ h.ch (.inl rfl),f _ _ h.ar (.inr (.inl rfl)),f _ _ h.dat (.inr (.inr rfl)),h.len⟩
theorem uR.push{rows:Rows}{q a w:Nat}{c:rU}(h:uR rows q a w c)(L:Rows):uR (rows++L) q a w c:=h.keep λ_ _ hq _=>a7 hq
theorem ar_view{rows:Rows}{a w:Nat}{x:List Wd}{e:Bool}(h1:live rows a=some ⟨Kq,[.agg Kq [.sl DX w [] 0 64 e]]⟩)(h2:live rows w=some ⟨DX,x.map DY⟩)(hl:x.length=64)(n:Nat):view rows (n+3) (.ptr Kq a [0])=some (arK (x,e)):=by
 have he:elems rows (.sl DX w [] 0 64 e)=some (x.map DY):=by
  simp only[elems,h2]
  simp[aaq,hl]
 simp only[view,h1,dC,abM,D.get,Sh.pure,dU]
 rw[he]
 simp[dU,he,hl,arK,arV]
theorem uR.rd{rows:Rows}{q a w:Nat}{c:rU}(h:uR rows q a w c):bk rows (bx tN) (.ptr TQ q [0]) c:=by
 refine⟨⟨tN c,?_,br G7 c⟩,λh=>by simp[aR]at h⟩
 have he:elems rows (.sl DX w [] 0 64 c.e)=some (c.ws.map DY):=by
  simp only[elems,h.dat]
  simp[aaq,h.len]
 simp only[view,h.ch,h.ar,dC,abM,D.get,Sh.pure,dU,acK,adD,aaM,abQ]
 rw[he]
 simp[dU,he,h.len,tN,arV]
theorem arK_rd{rows:Rows}{a w:Nat}{x:List Wd}{e:Bool}(h1:live rows a=some ⟨Kq,[.agg Kq [.sl DX w [] 0 64 e]]⟩)(h2:live rows w=some ⟨DX,x.map DY⟩)(hl:x.length=64):bk rows (bx arK) (.ptr Kq a [0]) (x,e):=
 ⟨⟨_,ar_view h1 h2 hl 6,br VH _⟩,λh=>by simp[aR]at h⟩
noncomputable def tv:Fn:=tW (bx arK) tH (λx i=>decide (x.1.length=64)&&decide (0<=i)&&decide (i<64)) λ_ _=>(.raw (it 0),[])
theorem Yp(C:bf)(hC:aJ C P):aN C.aX P 189 (Fn.run tv):=by
 refine aG (Bd C hC) λds rows r h=>?_
 obtain⟨d,e,⟨x,e⟩,i,rfl,rfl,hd,he,hp,rfl⟩:=cQ h
 cases aE hd
 cases bK he
 simp only[aan,aat]at hp
 obtain⟨⟨hl,h0⟩,h1⟩:=hp
 refine⟨rfl,ag rfl ?_⟩
 clear h hd he
 unfold rH rI
 have e1:(i<0)=False:=aax (by omega)
 have e2:((64:Int)<=i)=False:=aax (by omega)
 have nV:(x.map DY).length=64:=by rw[aaE,hl]
 simp only[arK,arV,↓ah,aj,simprocAttr,e1,e2,nV]
 exact .val _ rfl
theorem VZ{rows:Rows}{d:D}{x:List Wd×Bool}(h:bk rows (bx arK) d x)(hl:x.1.length=64)(i:Nat)(hi:i<64)(k:D->Rows->Prop):aI tv rows k [d,.raw (it (i:Int))]=k (.raw (it 0)) rows:=by
 refine(gf h (.int _) (by simp[hl];omega) rfl k).trans ?_
 simp[shift,ab]
theorem wd_get{x:List Wd}{i:Nat}(h:i<x.length):(x.map DY)[i]?=some (.agg DX [.raw (u32 x[i].1),.raw (.bool x[i].2)]):=by
 simp[h,DY]
theorem wd_set(x:List Wd)(i:Nat)(v:BitVec 32)(l:Bool):(x.map DY).set i (.agg DX [.raw (u32 v),.raw (.bool l)])=(x.set i (v,l)).map DY:=by
 rw[acr];rfl
theorem cut_run(C:bf){rows:Rows}{a w:Nat}{x:List Wd}{e:Bool}(h1:live rows a=some ⟨Kq,[.agg Kq [.sl DX w [] 0 64 e]]⟩)(h2:live rows w=some ⟨DX,x.map DY⟩)(hl:x.length=64){i:Nat}(hi:i<x.length){v g:BitVec 32}
  (hok:x[i].1&&&~~~v=0#32)(hT:C.fn 189=some tv){K:D->Rows->Prop}(hk:K (.raw (it 0)) (rows.set w (some ⟨DX,(x.set i (x[i].1|||v&&&g,x[i].2)).map DY⟩))):
  aQ C 4 je jd [.ptr Kq a [0],.raw (it (i:Int)),.raw (u32 v),.raw (u32 g)] rows K:=by
 refine ag rfl ?_
 unfold jd je
 have kT:=λk=>VZ (arK_rd h1 h2 hl) hl i (by omega) k
 have e1:((i:Int)<64)=True:=aas (by omega)
 have g1:=wd_get hi
 simp only[↓ah,aj,simprocAttr,hT,kT,h1,h2,e1,g1,wd_set,hok,abj,aaB]
 exact hk
def lX(x:List Wd)(l:List Wr):Nat->List Wd
 |0=>x
 | n + 1 => match l[n]? with
  |some p=>match(lX x l n)[p.1]? with
   |some o=>(lX x l n).set p.1 (o.1|||p.2,o.2)
   |none=>lX x l n
  |none=>lX x l n
theorem Mx(x:List Wd)(l:List Wr):∀n,(lX x l n).length=x.length
 |0=>rfl
 | n + 1 => by
  have ih:=Mx x l n
  rw[lX]
  split
  ·split
   ·rw[aa6,ih]
   ·exact ih
  ·exact ih
def T4(x:List Wd)(l:List Wr):Prop:=∀j p,l[j]?=some p->∃o,(lX x l j)[p.1]?=some o/\o.1&&&~~~p.2=0#32
structure PrgC (C2 C1 C:bf):Prop where
 th:C2.fn 189=some tv
 n1:C1.fn 165=none
 r1:C1.fy 165=some (aQ C2 4 je jd)
 n0:C.fn 108=none
 r0:C.fy 108=some (aQ C1 3 fO fN)
theorem all_ones(v:BitVec 32):v&&&4294967295#32=v:=BitVec.and_allOnes
theorem prg_run(C C1 C2:bf)(H:PrgC C2 C1 C){rows:Rows}{a w:Nat}{x:List Wd}{e:Bool}(h1:live rows a=some ⟨Kq,[.agg Kq [.sl DX w [] 0 64 e]]⟩)(h2:live rows w=some ⟨DX,x.map DY⟩)(hl:x.length=64){i:Nat}(hi:i<x.length){v:BitVec 32}
  (hok:x[i].1&&&~~~v=0#32){K:D->Rows->Prop}(hk:K (.raw (it 0)) (rows.set w (some ⟨DX,(x.set i (x[i].1|||v,x[i].2)).map DY⟩))):
  aQ C1 3 fO fN [.ptr Kq a [0],.raw (it (i:Int)),.raw (u32 v)] rows K:=by
 refine ag rfl ?_
 unfold fN fO
 simp only[↓ah,aj,simprocAttr,H.n1,H.r1]
 refine cut_run C2 (e:=e) h1 h2 hl hi hok H.th ?_
 rw[all_ones]
 simp only[↓ah,aj,simprocAttr]
 exact hk
theorem Oe(C C1 C2:bf)(H:PrgC C2 C1 C){rows:Rows}{q a w ro n:Nat}{ex:Bool}{c:rU}{l:List Wr}(hc:uR rows q a w c)(hr:live rows ro=some ⟨K1,l.map wrD⟩)(hn:l.length=n)(hn2:n<=1000)(hok:T4 c.ws l){K:D->Rows->Prop}
  (hk:∀aa,uR aa q a w ⟨lX c.ws l l.length,c.e,c.s⟩->(∀p row,live rows p=some row->p≠w->live aa p=some row)->K (.raw (it 0)) aa):
  aQ C 2 mj mi [.ptr TQ q [0],.sl K1 ro [] 0 n ex] rows K:=by
 subst hn
 refine ag rfl ?_
 unfold mi mj
 have ne:ro≠w:=λe=>by rw[e,hc.dat]at hr;cases hr
 have nq:q≠w:=λe=>by have:=hc.ch;rw[e,hc.dat]at this;cases this
 have na:a≠w:=λe=>by have:=hc.ar;rw[e,hc.dat]at this;cases this
 simp only[↓ah,aj,simprocAttr]
 refine bg l.length (λj env rs=>has env [(12,.raw (it (j:Int))),(11,.raw (it (l.length:Int))),(10,.sl K1 ro [] 0 l.length ex),(0,.ptr TQ q [0])]/\uR rs q a w ⟨lX c.ws l j,c.e,c.s⟩/\∀p row,live rows p=some row->p≠w->live rs p=some row) ?_ ?_ ⟨?_,hc,λp row h _=>h⟩
 ·rintro j hj env rs ⟨hh,hC,hf⟩ R hR
  simp only[has]at hh
  have e0:((j:Int)<(l.length:Int))=True:=aas (by omega)
  have e1:=ca j (by omega)
  have hl:=hf _ _ hr ne
  have g:(l.map wrD)[j]?=some (.agg K1 [.raw (it (l[j].1:Int)),.raw (u32 l[j].2)]):=by simp[hj,wrD]
  obtain⟨o,ho,hz⟩:=hok j l[j] (aap hj)
  have hs:lX c.ws l (j+1)=(lX c.ws l j).set l[j].1 (o.1|||l[j].2,o.2):=by
   rw[lX,aap hj]
   simp only[ho]
  generalize l[j]=p at*
  have hC1:=hC.ch
  have hCa:=hC.ar
  have hC1':=λL=>ae hC1 L
  simp only[↓ah,aj,simprocAttr,aM,hh,hl,g,e0,hC1',H.n0,H.r0,abj,aaB]
  obtain⟨hlt,rfl⟩:=adA.1 ho
  refine prg_run C C1 C2 H (e:=c.e) (ae hCa _) (ae hC.dat _) hC.len hlt hz ?_
  rw[<-hs]
  simp only[↓ah,aj,simprocAttr,aM,hh,e1]
  have hdat:=ae hC.dat [some ⟨K1,[.agg K1 [.raw (it (p.1:Int)),.raw (u32 p.2)]]⟩]
  refine hR _ _ ⟨by simp only[has,↓ah,aj,simprocAttr,hh],⟨df (ae hC1 _) (abT nq),df (ae hCa _) (abT na),aD hdat,?_⟩,λp row h hp=>df (ae (hf p row h hp) _) (abT hp)⟩
  rw[Mx];exact hc.len
 ·rintro env rs ⟨hh,hC,hf⟩ R
  simp only[has]at hh
  have e0:((l.length:Int)<(l.length:Int))=False:=aax (by omega)
  simp only[↓ah,aj,simprocAttr,hh,e0]
  exact hk rs hC hf
 ·simp only[has,↓ah,aj,simprocAttr]
theorem lock_run(C:bf){rows:Rows}{a w:Nat}{x:List Wd}{e:Bool}(h1:live rows a=some ⟨Kq,[.agg Kq [.sl DX w [] 0 64 e]]⟩)(h2:live rows w=some ⟨DX,x.map DY⟩)(hl:x.length=64){i:Nat}(hi:i<x.length)
  (hT:C.fn 189=some tv){K:D->Rows->Prop}(hk:K (.raw (it 0)) (rows.set w (some ⟨DX,(x.set i (x[i].1,true)).map DY⟩))):
  aQ C 2 fZ fY [.ptr Kq a [0],.raw (it (i:Int))] rows K:=by
 refine ag rfl ?_
 unfold fY fZ
 have kT:=λk=>VZ (arK_rd h1 h2 hl) hl i (by omega) k
 have e1:((i:Int)<64)=True:=aas (by omega)
 have g1:=wd_get hi
 simp only[↓ah,aj,simprocAttr,hT,kT,h1,h2,e1,g1,wd_set,abj,aaB]
 exact hk
theorem seal_run(C C1:bf)(hT:C1.fn 189=some tv)(n0:C.fn 200=none)(r0:C.fy 200=some (aQ C1 2 fZ fY)){rows:Rows}{q a w:Nat}{c:rU}(hc:uR rows q a w c){K:D->Rows->Prop}
  (hk:∀aa c',uR aa q a w c'->c'.w=c.w->(∀p row,live rows p=some row->p≠q->p≠w->live aa p=some row)->K (.cA []) aa):
  aQ C 1 jR jQ [.ptr TQ q [0]] rows K:=by
 refine ag rfl ?_
 unfold jQ jR
 have nq:q≠w:=λe=>by have:=hc.ch;rw[e,hc.dat]at this;cases this
 have na:a≠w:=λe=>by have:=hc.ar;rw[e,hc.dat]at this;cases this
 have nqa:q≠a:=λe=>by have:=hc.ch;rw[e,hc.ar]at this;cases this
 have h1:=hc.ch
 simp only[↓ah,aj,simprocAttr,h1]
 refine bg 36 (λj env rs=>has env [(2,.raw (it ((27+j:Nat):Int))),(0,.ptr TQ q [0])]/\∃c',uR rs q a w c'/\c'.w=c.w/\∀p row,live rows p=some row->p≠q->p≠w->live rs p=some row) ?_ ?_ ⟨?_,⟨c.ws,c.e,true⟩,⟨aD h1,df hc.ar nqa,df hc.dat nq,hc.len⟩,rfl,λp row h hq _=>df h (abT hq)⟩
 ·rintro j hj env rs ⟨hh,c',hC,hw,hf⟩ R hR
  simp only[has]at hh
  have e0:(((27+j:Nat):Int)<63)=True:=aas (by omega)
  have e1:=ca (27+j) (by omega)
  have hC1:=hC.ch
  have hl:=hC.len
  simp only[↓ah,aj,simprocAttr,hh,hC1,e0,n0,r0]
  refine lock_run C1 hC.ar hC.dat hC.len (i:=27+j) (by omega) hT ?_
  simp only[↓ah,aj,simprocAttr,hh,e1]
  refine hR _ _ ⟨by simp only[has,↓ah,aj,simprocAttr,hh];rfl,⟨c'.ws.set (27+j) ((c'.ws[27+j]'(by omega)).1,true),c'.e,c'.s⟩,⟨df hC1 (abT nq),df hC.ar (abT na),aD hC.dat,by rw[aa6];exact hl⟩,?_,λp row h hq hp=>df (hf p row h hq hp) (abT hp)⟩
  rw[<-hw]
  show List.map _ (List.set _ _ _)=_
  rw[acr]
  have HY:27+j<(c'.ws.map (·.1)).length:=by rw[aaE];omega
  have:(c'.ws.map (·.1)).set (27+j) ((c'.ws.map (·.1))[27+j])=c'.ws.map (·.1):=List.set_getElem_self HY
  rw[ady]at this
  exact this
 ·rintro env rs ⟨hh,c',hC,hw,hf⟩ R
  simp only[has]at hh
  have e0:(((27+36:Nat):Int)<63)=False:=aax (by omega)
  simp only[↓ah,aj,simprocAttr,hh,e0]
  exact hk rs c' hC hw hf
 ·simp only[has,↓ah,aj,simprocAttr]
def GM:rU:=⟨List.replicate 64 (0#32,false),true,false⟩
theorem Yq(C:bf){rows:Rows}{K:D->Rows->Prop}(hk:K (.cA [.ptr Kq (rows.length+1) [0],.raw (it 0)]) (rows++[some ⟨DX,GM.ws.map DY⟩,some ⟨Kq,[.agg Kq [.sl DX rows.length [] 0 64 true]]⟩])):
  aQ C 1 oM oL [.raw (it 64)] rows K:=by
 refine ag rfl ?_
 unfold oL oM
 have hz:List.replicate 64 (D.agg DX [.raw (u32 0#32),.raw (.bool false)])=GM.ws.map DY:=rfl
 simp only[↓ah,aj,simprocAttr,aM,hz]
 exact hk
theorem onew_run(C C1:bf)(n0:C.fn 104=none)(r0:C.fy 104=some (aQ C1 1 oM oL)){rows:Rows}{K:D->Rows->Prop}
  (hk:∀aa,bG rows aa->uR aa (rows.length+2) (rows.length+1) rows.length GM->K (.ptr TQ (rows.length+2) [0]) aa):
  aQ C 0 uv uu [] rows K:=by
 refine ag rfl ?_
 unfold uu uv
 simp only[↓ah,aj,simprocAttr,n0,r0]
 refine Yq C1 ?_
 simp only[↓ah,aj,simprocAttr,aM]
 exact hk _ (bG.app _ _) ⟨by rw[aK];rfl,by rw[aK];rfl,by rw[bw];rfl,rfl⟩
end jU
end Go.Am

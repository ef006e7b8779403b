import Derived.Test.YtgcejocgnfkciaaGreatDoorKr18
namespace Go.Am
set_option linter.unusedSimpArgs false
set_option linter.unusedVariables false
attribute [local congr] cd bt cg bu bw bO bg bx bz bP a7 bQ bA b9
namespace iC
open Go.Am.F
set_option maxRecDepth 10000
theorem XR(C:be)(hC:aI C P):aO C.aZ P 50 (Fn.run xP):=by
 refine aH (OB C hC) fun ds rows r h=>?_
 obtain⟨d,n,rfl,rfl,hd,hp,rfl⟩:=a8 h
 cases dL hd
 refine⟨rfl,ag rfl ?_⟩
 clear h hd
 unfold Fi Fj
 simp only[↓aj,ak,simprocAttr,aa]
 exact .own _ 0 0 4 true false _ rfl rfl (fun h=>by cases h)
def IA(id:List (BitVec 8))(r:BitVec 32)(kd:Nat)(l:List (List (BitVec 8))):List (BitVec 8):=dU (id++bC r++uG kd++l.flatten)
def sn(id:List (BitVec 8))(r:BitVec 32)(a b:List (BitVec 8)):List (BitVec 8):=IA id r 33667 [a,b]
def nD(id:List (BitVec 8))(r:BitVec 32)(k:List (BitVec 8)):List (BitVec 8):=IA id r 33410 [k]
theorem IB(id:List (BitVec 8))(r:BitVec 32)(a b:List (BitVec 8)):(sn id r a b).length=32:=dh _
theorem BP(id:List (BitVec 8))(r:BitVec 32)(a:List (BitVec 8)):(nD id r a).length=32:=dh _
noncomputable def MG:Fn:=Xu (b8 xN) qN rC (oo (.ar 32 L8) aW) (fun id _ n l=>decide (id.length=16)&&TI n 65536&&It l&&decide (l.length≤1000000)) fun id r n l=>(aW (IA id r n.toNat l),[])
theorem hash_ok(C:be)(hC:aI C P)(h1:C.fn 157=some Mr)(h2:C.fn 50=some xP)(h3:C.fn 158=some qB)(h4:C.fn 159=some tw):aO C.aZ P 102 (Fn.run MG):=by
 refine cr (OF C hC) fun ds rows r h=>?_
 obtain⟨d0,d1,d2,d3,id,r,n,l,rfl,rfl,g0,g1,g2,g3,hp,rfl⟩:=sc h
 cases aF g0
 cases dL g1
 cases bX g2
 obtain⟨ex,hx⟩:=wB g3
 simp only[Bool.and_eq_true,decide_eq_true_eq,sa,J2]at hp
 obtain⟨⟨⟨gV,hn⟩,p8⟩,HE⟩:=hp
 refine⟨rfl,_,.cons (.refl _) (.cons (.refl _) (.cons (.refl _) (.cons hx .nil))),ag rfl ?_⟩
 clear h g0 g1 g2 g3 hx
 obtain⟨m,rfl⟩:=Int.eq_ofNat_of_zero_le hn.1
 have hm:m<65536:=by omega
 unfold Fu Fv
 have e8:∀k,bE .shr (it (m:Int)) (u64 8#64) k=k (.raw (it ((m/256:Nat):Int))):=fun k=>Xy m 8 .u64 (by decide) k
 have e1:BitVec.ofInt 8 ((m/256:Nat):Int)=BitVec.ofNat 8 (m/256):=BitVec.ofInt_natCast _ _
 have e2:BitVec.ofInt 8 (m:Int)=BitVec.ofNat 8 m:=BitVec.ofInt_natCast _ _
 have id_fits:(xN id).fits (.ar 16 L8)=true:=rfl
 simp only[dW,O6]
 simp only[↓aj,ak,simprocAttr,aa,aX,xN,l5,h1,O1,h3]
 refine Eq.mpr (jI _ _ _ _ id (bc.r9 (n:=16) rfl rfl gV) mO) ?_
 have o0:=eD id Iq mO
 simp only[↓aj,ak,simprocAttr,aa,aX,h2,Mw,h3]
 refine Eq.mpr (jI _ _ _ _ (bC r) (bc.own rfl _ rfl) o0) ?_
 have o1:=eD (bC r) _ o0
 simp only[↓aj,ak,simprocAttr,aa,aX,e8,e1,e2,h3]
 refine Eq.mpr (jI _ _ _ _ (uG m) (bc.own rfl _ rfl) o1) ?_
 have o2:=eD (uG m) _ o1
 simp only[↓aj,ak,simprocAttr,aa,aX,l5,List.length_map]
 have hok:∀i,(feed (feed (feed (feed Iq id) (bC r)) (uG m)) (l.take i).flatten).ok=true:=fun i=>eD _ _ o2
 have e:oq (feed (feed (feed (feed Iq id) (bC r)) (uG m)) (l.take l.length).flatten)=IA id r m l:=by
  rw[List.take_length,IA,dU,←eC,←eC,←eC]
  simp only[List.append_assoc]
 have hst:feed (feed (feed (feed Iq id) (bC r)) (uG m)) (l.take 0).flatten=feed (feed (feed Iq id) (bC r)) (uG m):=by rw[List.take_zero];rfl
 rw[←hst]
 have XC:∀i (h:i<l.length),feed (feed (feed (feed (feed Iq id) (bC r)) (uG m)) (l.take i).flatten) l[i]=feed (feed (feed (feed Iq id) (bC r)) (uG m)) (l.take (i+1)).flatten:=fun i h=>by
  rw[←eC,List.take_succ_eq_append_getElem h,List.flatten_append];simp
 generalize feed (feed (feed Iq id) (bC r)) (uG m)=B at*
 refine bB l.length (fun i env rows=>has env [(27,.raw (it (i:Int))),(26,.raw (it (l.length:Int))),(25,.cF (.ar 32 L8) (l.map aW) ex),(9,.ptr KM 4 [0]),(8,.ptr (.ar 32 L8) 1 [0])]∧
  live rows 4=some ⟨KM,[rY (feed B (l.take i).flatten)]⟩∧live rows 1=some ⟨.ar 32 L8,[.agg (.ar 32 L8) (bs ug)]⟩) ?_ ?_ ⟨?_,rfl,rfl⟩
 ·rintro i hi env rows ⟨hh,r3,r1⟩ R hR
  simp only[has]at hh
  have e0:((i:Int)<(l.length:Int))=True:=eq_true (by omega)
  have b0:∀n:Nat,((0:Int)≤(n:Int))=True:=fun n=>eq_true (by omega)
  have e1:=cE i (by omega)
  have hx:=p8 _ (List.getElem_mem hi)
  have g:(l.map aW)[i]?=some (.agg (.ar 32 L8) (bs l[i])):=by simp[aW,hi]
  have hs:=XC i hi
  generalize l[i]=xi at*
  have r3A:=fun L=>aA r3 L
  simp only[↓aj,ak,simprocAttr,aa,aX,hh,e0,e1,b0,List.length_map,g,r3A,h3]
  refine Eq.mpr (jI _ _ _ _ xi (bc.r9 (n:=32) (by rw[b6];rfl) rfl hx) (hok i)) ?_
  rw[hs]
  simp only[↓aj,ak,simprocAttr,aa,aX,hh,e1,r3A,l5]
  exact hR _ _ ⟨by simp only[has,↓aj,ak,simprocAttr,aa,hh],aG (r3A _),cK (aA r1 _) (by decide)⟩
 ·rintro env rows ⟨hh,r3,r1⟩ R
  simp only[has]at hh
  have e0:((l.length:Int)<(l.length:Int))=False:=eq_false (by omega)
  have w1:=fun x=>aG (y:=x) r1
  simp only[↓aj,ak,simprocAttr,aa,aX,hh,e0,r3,r1,h4,yF _ _ _ (hok _),e,w1]
  exact .val _ rfl
 ·simp only[has,↓aj,ak,simprocAttr,aa]
theorem kHash(rows:Rows)(k:D→Rows→Prop)(id:List (BitVec 8))(r:BitVec 32)(m:Nat)(d:D)(l:List (List (BitVec 8)))(hd:bT rows (oo (.ar 32 L8) aW) d l)(gV:id.length=16)(hm:m<65536)(p8:∀x∈l,x.length=32)(HE:l.length≤1000000):
  aJ MG rows k [.agg (.ar 16 L8) (bs id),.raw (u32 r),.raw (it (m:Int)),d]=k (.agg (.ar 32 L8) (bs (IA id r m l))) rows:=by
 refine(vO (D6 id) (bT.raw (fK r)) (bT.int _) hd (by simp[gV,sa.2 p8,HE,TI];omega) rfl k).trans ?_
 simp[aW,shift,ae,Sh.pure]
noncomputable def MH:Fn:=G2 (b8 xN) qN (b8 aW) (fun id _ x=>decide (id.length=16)&&decide (x.length=32)) fun id r x=>(aW (nD id r x),[])
theorem leaf_ok(C:be)(hC:aI C P)(h1:C.fn 102=some MG):aO C.aZ P 41 (Fn.run MH):=by
 refine aH (Oz C hC) fun ds rows r h=>?_
 obtain⟨d0,d1,d2,id,r,x,rfl,rfl,g0,g1,g2,hp,rfl⟩:=fq h
 cases aF g0
 cases dL g1
 cases aF g2
 simp only[Bool.and_eq_true,decide_eq_true_eq]at hp
 refine⟨rfl,ag rfl ?_⟩
 clear h g0 g1 g2
 unfold Fe Ff
 simp only[dW]
 have kH:=fun rows k d hd=>kHash rows k id r 33410 d [x] hd hp.1 (by decide) (by simp[hp.2]) (by simp)
 rw[show((33410:Nat):Int)=33410 from rfl]at kH
 simp only[↓aj,ak,simprocAttr,aa,aX,xN,aW,h1]
 refine Eq.mpr (kH _ _ _ (bT.dl (l:=[x]) rfl rfl)) ?_
 simp only[↓aj,ak,simprocAttr,aa,aX]
 exact .val _ rfl
theorem kLeaf(rows:Rows)(k:D→Rows→Prop)(id:List (BitVec 8))(r:BitVec 32)(x:List (BitVec 8))(gV:id.length=16)(hx:x.length=32):
  aJ MH rows k [.agg (.ar 16 L8) (bs id),.raw (u32 r),.agg (.ar 32 L8) (bs x)]=k (.agg (.ar 32 L8) (bs (nD id r x))) rows:=by
 refine(fT (D6 id) (bT.raw (fK r)) (iQ x) (by simp[gV,hx]) rfl k).trans ?_
 simp[aW,shift,ae,Sh.pure]
noncomputable def MI:Fn:=Xu (b8 xN) qN (b8 aW) (b8 aW) (fun id _ x y=>decide (id.length=16)&&decide (x.length=32)&&decide (y.length=32)) fun id r x y=>(aW (sn id r x y),[])
theorem node_ok(C:be)(hC:aI C P)(h1:C.fn 102=some MG):aO C.aZ P 42 (Fn.run MI):=by
 refine aH (OA C hC) fun ds rows r h=>?_
 obtain⟨d0,d1,d2,d3,id,r,x,y,rfl,rfl,g0,g1,g2,g3,hp,rfl⟩:=sc h
 cases aF g0
 cases dL g1
 cases aF g2
 cases aF g3
 simp only[Bool.and_eq_true,decide_eq_true_eq]at hp
 refine⟨rfl,ag rfl ?_⟩
 clear h g0 g1 g2 g3
 unfold Fg Fh
 simp only[dW]
 have kH:=fun rows k d hd=>kHash rows k id r 33667 d [x,y] hd hp.1.1 (by decide) (by simp[hp.1.2,hp.2]) (by simp)
 rw[show((33667:Nat):Int)=33667 from rfl]at kH
 simp only[↓aj,ak,simprocAttr,aa,aX,xN,aW,h1]
 refine Eq.mpr (kH _ _ _ (bT.dl (l:=[x,y]) rfl rfl)) ?_
 simp only[↓aj,ak,simprocAttr,aa,aX]
 exact .val _ rfl
theorem XS(rows:Rows)(k:D→Rows→Prop)(id:List (BitVec 8))(r:BitVec 32)(x y:List (BitVec 8))(gV:id.length=16)(hx:x.length=32)(hy:y.length=32):
  aJ MI rows k [.agg (.ar 16 L8) (bs id),.raw (u32 r),.agg (.ar 32 L8) (bs x),.agg (.ar 32 L8) (bs y)]=k (.agg (.ar 32 L8) (bs (sn id r x y))) rows:=by
 refine(vO (D6 id) (bT.raw (fK r)) (iQ x) (iQ y) (by simp[gV,hx,hy]) rfl k).trans ?_
 simp[aW,shift,ae,Sh.pure]
theorem XT(rows:Rows)(k:D→Rows→Prop)(d:D)(p:List (BitVec 8))(h:bc rows d p)(hp:p.length≤1099511627776):aJ Gc rows k [d]=k (.cA [BO (eu p).1,.raw (it (eu p).2)]) rows:=by
 refine(cC (bT.bs h) (by simpa[most]using hp) rfl k).trans ?_
 simp[shift,bh,ae,BO,Sh.pure]
def Kb:Fn:=lE rC (fun _=>true) fun e=>(.cA [.raw (u32 0#32),.raw (.slice none 0 0),.raw (u32 0#32),.raw (.slice none 0 0),.raw (it e)],[])
theorem XU(C:be)(hC:aI C P):aO C.aZ P 144 (Fn.run Kb):=by
 refine aH (Hi C hC) fun ds rows r h=>?_
 obtain⟨d,t,rfl,rfl,hd,hp,rfl⟩:=a8 h
 cases bX hd
 refine⟨rfl,ag rfl ?_⟩
 clear h hd
 unfold xF xG
 simp only[↓aj,ak,simprocAttr,aa]
 exact .val _ rfl
theorem qR(rows:Rows)(k:D→Rows→Prop)(e:Int):aJ Kb rows k [.raw (it e)]=k (.cA [.raw (u32 0#32),.raw (.slice none 0 0),.raw (u32 0#32),.raw (.slice none 0 0),.raw (it e)]) rows:=by
 refine(cC (bT.int e) rfl rfl k).trans ?_
 simp[shift,bh,ae]
theorem XV(p:List (BitVec 8)):(eu p).2=0∨(eu p).2=6∨(eu p).2=2:=by
 unfold eu
 cases decide (p.length=56)
 ·exact .inr (.inr rfl)
 ·cases G4 (cY p).toNat&&sH (cY (p.drop 4)).toNat
  ·exact .inr (.inl rfl)
  ·exact .inl rfl
def wG(p:List (BitVec 8)):BitVec 32:=cY p
def QY(p:List (BitVec 8)):BitVec 32:=cY (p.drop 4)
def nE(p:List (BitVec 8)):Nat:=pT (QY p).toNat
def Kc(p:List (BitVec 8)):BitVec 32:=cY (p.drop (40+32*nE p))
def m8(p:List (BitVec 8)):Nat:=hT (Kc p).toNat
def nF(p:List (BitVec 8)):List (BitVec 8):=(p.drop 4).take (36+32*nE p)
def XW(p:List (BitVec 8))(i:Nat):List (BitVec 8):=(p.drop (44+32*nE p+32*i)).take 32
def DJ(p:List (BitVec 8))(i:Nat):List (BitVec 8):=p.drop (44+32*nE p+32*i)
def iU(p:List (BitVec 8))(n:Nat):List (List (BitVec 8)):=(List.range n).map (XW p)
def dz(p:List (BitVec 8)):Int:=
 if p.length<8 then 2 else if sH (QY p).toNat=false then 6 else if p.length<44+32*nE p then 2 else if G4 (Kc p).toNat=false then 6
 else if p.length≠44+32*nE p+32*m8 p∨(wG p).toNat>>>m8 p≠0 then 2 else 0
theorem Ay{p:List (BitVec 8)}(h:dz p=0):sH (QY p).toNat=true∧G4 (Kc p).toNat=true∧p.length=44+32*nE p+32*m8 p∧(wG p).toNat>>>m8 p=0:=by
 unfold dz at h
 split at h
 ·cases h
 split at h
 ·cases h
 split at h
 ·cases h
 split at h
 ·cases h
 split at h
 ·cases h
 rename_i h1 h2 h3 h4 h5
 refine⟨by simpa using h2,by simpa using h4,?_,?_⟩<;>omega
theorem Ec{t:Nat}(h:G4 t=true):1≤hT t:=by
 unfold G4 at h
 unfold hT
 simp only[decide_eq_true_eq]at h
 split
 ·omega
 ·split<;>omega
noncomputable def Ge:Fn:=lE dN (fun p=>decide (p.length≤1099511627776)) fun p=>if dz p=0 then
  (.cA [.raw (u32 (wG p)),.sl L8 0 [] 0 (36+32*nE p) false,.raw (u32 (Kc p)),.sl (.ar 32 L8) 1 [] 0 (m8 p) false,.raw (it 0)],[some ⟨L8,bs (nF p)⟩,some ⟨.ar 32 L8,(iU p (m8 p)).map aW⟩])
 else(.cA [.raw (u32 0#32),.raw (.slice none 0 0),.raw (u32 0#32),.raw (.slice none 0 0),.raw (it (dz p))],[])
set_option maxHeartbeats 4000000 in
theorem XX(C CT:be)(hC:aI C P)(h1:C.fn 146=some Gb)(h2:C.fn 36=some wF)(h3:C.fn 37=some l6)(h4:C.fn 144=some Kb)(n5:C.fn 145=none)(r5:C.fU 145=some (aR CT 2 jq jn)):
  aO C.aZ P 89 (Fn.run Ge):=by
 refine cr (LZ C hC) fun ds rows r h=>?_
 obtain⟨d,p,rfl,rfl,hd,hp,rfl⟩:=a8 h
 obtain⟨x,hx⟩:=cy hd
 refine⟨rfl,_,.cons hx .nil,ag rfl ?_⟩
 simp only[decide_eq_true_eq]at hp
 clear h hx hd
 unfold Cq Cr
 have mb:IY 144 [144]=true:=rfl
 by_cases hl:p.length<4
 ·have hq:dz p=2:=by unfold dz;rw[if_pos (by omega)]
  have c1:((p.length:Int)<4)=True:=eq_true (by omega)
  rw[hq,if_neg (by decide)]
  simp only[↓aj,ak,simprocAttr,aa,aX,aC,lQ,n5,r5,jn,jq,c1,mb,h4,qR]
  exact .val _ rfl
 have c1:((p.length:Int)<4)=False:=eq_false (by omega)
 have g1:((4:Int)≤(p.length:Int))=True:=eq_true (by omega)
 have tk:(bs (p.drop 4)).take (p.length-4)=bs (p.drop 4):=List.take_of_length_le (by rw[aC,List.length_drop];exact Nat.le_refl _)
 by_cases h8:p.length<8
 ·have hq:dz p=2:=by unfold dz;rw[if_pos h8]
  have c2:(((p.length-4:Nat):Int)<4)=True:=eq_true (by omega)
  rw[hq,if_neg (by decide)]
  simp only[↓aj,ak,simprocAttr,aa,aX,aC,lQ,n5,r5,jn,jq,c1,c2,g1,fw,tk,List.length_drop,mb,h4,qR]
  exact .val _ rfl
 have c2:(((p.length-4:Nat):Int)<4)=False:=eq_false (by omega)
 have d4:4≤(p.drop 4).length:=by rw[List.length_drop];omega
 have kL:=fun rows k e=>Gd rows k (p.drop 4) e d4
 have eo:cY (p.drop 4)=QY p:=rfl
 have cQ:∀x:Z5,D.fits (.agg pD [.raw (it (x.w:Int)),.raw (it (x.p:Int)),.raw (it (x.l:Int))]) pD=true:=fun x=>rfl
 rw[eo]at kL
 cases ho:sH (QY p).toNat with
 |false=>
  have hq:dz p=6:=by unfold dz;rw[if_neg h8,if_pos ho]
  rw[hq,if_neg (by decide)]
  simp only[↓aj,ak,simprocAttr,aa,aX,aC,lQ,n5,r5,jn,jq,c1,c2,g1,fw,tk,List.length_drop,mb,h4,qR,h1,kL,h3,mY,iR,ho,cQ,Bool.not_false]
  exact .val _ rfl
 |true=>
 have hpt:nE p≤265:=(j8 ho).2.2.1
 have ep:((uB (QY p).toNat).p:Int)=((nE p:Nat):Int):=rfl
 have q1:wz ((nE p:Int)+1)=((nE p+1:Nat):Int):=cE _ (by omega)
 have q2:wz (32*((nE p+1:Nat):Int))=((32*(nE p+1):Nat):Int):=by rw[bf (by omega)];omega
 have q3:wz (4+((32*(nE p+1):Nat):Int))=((36+32*nE p:Nat):Int):=by rw[bf (by omega)];omega
 simp only[↓aj,ak,simprocAttr,aa,aX,aC,lQ,n5,r5,jn,jq,c1,c2,g1,fw,tk,List.length_drop,mb,h4,qR,h1,kL,h3,mY,iR,ho,cQ,Bool.not_true,ep,q1,q2,q3]
 have b0:∀n:Nat,((0:Int)≤(n:Int))=True:=fun n=>eq_true (by omega)
 by_cases c:p.length-4<36+32*nE p
 ·have hq:dz p=2:=by unfold dz;rw[if_neg h8,if_neg (by rw[ho];decide),if_pos (by omega)]
  have c3:(((p.length-4:Nat):Int)<((36+32*nE p:Nat):Int))=True:=eq_true (by omega)
  rw[hq,if_neg (by decide)]
  simp only[↓aj,ak,simprocAttr,aa,aX,c3,mb,h4,qR]
  exact .val _ rfl
 have c3:(((p.length-4:Nat):Int)<((36+32*nE p:Nat):Int))=False:=eq_false (by omega)
 have c4:(((36+32*nE p:Nat):Int)≤((p.length-4:Nat):Int))=True:=eq_true (by omega)
 have tk2:List.take (p.length-4-(36+32*nE p)) (List.drop (36+32*nE p) (List.drop 4 p))=p.drop (40+32*nE p):=by
  rw[List.drop_drop,List.take_of_length_le (by rw[List.length_drop];omega)]
  congr 1;omega
 have tk1:List.take (36+32*nE p) (List.drop 4 p)=nF p:=rfl
 by_cases h3':p.length<44+32*nE p
 ·have hq:dz p=2:=by unfold dz;rw[if_neg h8,if_neg (by rw[ho];decide),if_pos h3']
  have c5:(((p.length-(40+32*nE p):Nat):Int)<4)=True:=eq_true (by omega)
  rw[hq,if_neg (by decide)]
  simp only[↓aj,ak,simprocAttr,aa,aX,c3,c4,c5,b0,aC,List.length_drop,fw,ey,tk2,mb,h4,qR]
  exact .val _ rfl
 have c5:(((p.length-(40+32*nE p):Nat):Int)<4)=False:=eq_false (by omega)
 have d5:4≤(p.drop (40+32*nE p)).length:=by rw[List.length_drop];omega
 have kT:=fun rows k e=>Gd rows k (p.drop (40+32*nE p)) e d5
 rw[show cY (p.drop (40+32*nE p))=Kc p from rfl]at kT
 cases hh:G4 (Kc p).toNat with
 |false=>
  have hq:dz p=6:=by unfold dz;rw[if_neg h8,if_neg (by rw[ho];decide),if_neg h3',if_pos hh]
  rw[hq,if_neg (by decide)]
  simp only[↓aj,ak,simprocAttr,aa,aX,c3,c4,c5,b0,aC,List.length_drop,fw,ey,tk2,mb,h4,qR,h1,kT,h2,Eb,hh,Bool.not_false]
  exact .val _ rfl
 |true=>
 have DL:=Ec hh
 have T4:=hT_le (Kc p).toNat
 have ehh:hT (Kc p).toNat=m8 p:=rfl
 rw[ehh]at DL T4
 have d0:4≤(p.take 4).length:=by rw[List.length_take];omega
 have kQ:=fun rows k e=>Gd rows k (p.take 4) e d0
 rw[oF p 4 (Nat.le_refl _),show cY p=wG p from rfl]at kQ
 have c6:((4:Int)≤((p.length-(40+32*nE p):Nat):Int))=True:=eq_true (by omega)
 have c7:wz (32*((m8 p:Nat):Int))=((32*m8 p:Nat):Int):=by rw[bf (by omega)];omega
 have tk3:List.take (p.length-(40+32*nE p)-4) (List.drop 4 (List.drop (40+32*nE p) p))=p.drop (44+32*nE p):=by
  rw[List.drop_drop,List.take_of_length_le (by rw[List.length_drop];omega)]
  congr 1;omega
 simp only[↓aj,ak,simprocAttr,aa,aX,c3,c4,c5,c6,c7,b0,aC,List.length_drop,fw,ey,tk2,tk3,mb,h4,qR,h1,kT,kQ,h2,Eb,hh,ehh,Bool.not_true]
 have bq:∀m:Nat,(wG p>>>m=0#32)↔(wG p).toNat>>>m=0:=fun m=>by
  constructor
  ·intro h;have:=congrArg BitVec.toNat h;simpa using this
  ·intro h;apply BitVec.eq_of_toNat_eq;simpa using h
 by_cases cl:p.length=44+32*nE p+32*m8 p
 rotate_left
 ·have hq:dz p=2:=by unfold dz;rw[if_neg h8,if_neg (by rw[ho];decide),if_neg h3',if_neg (by rw[hh];decide),if_pos (.inl cl)]
  have c8:(((p.length-(44+32*nE p):Nat):Int)=((32*m8 p:Nat):Int))=False:=eq_false (by omega)
  rw[hq,if_neg (by decide)]
  simp only[↓aj,ak,simprocAttr,aa,aX,c8,mb,h4,qR]
  exact .val _ rfl
 have c8:(((p.length-(44+32*nE p):Nat):Int)=((32*m8 p:Nat):Int))=True:=eq_true (by omega)
 by_cases cq:(wG p).toNat>>>m8 p=0
 rotate_left
 ·have hq:dz p=2:=by unfold dz;rw[if_neg h8,if_neg (by rw[ho];decide),if_neg h3',if_neg (by rw[hh];decide),if_pos (.inr cq)]
  have c9:(wG p>>>m8 p=0#32)=False:=eq_false (fun h=>cq ((bq _).1 h))
  rw[hq,if_neg (by decide)]
  simp only[↓aj,ak,simprocAttr,aa,aX,c8,c9,b0,Int.toNat_natCast,mb,h4,qR]
  exact .val _ rfl
 have hq:dz p=0:=by unfold dz;rw[if_neg h8,if_neg (by rw[ho];decide),if_neg h3',if_neg (by rw[hh];decide),if_neg (by omega)]
 have c9:(wG p>>>m8 p=0#32)=True:=eq_true ((bq _).2 cq)
 rw[if_pos hq]
 simp only[↓aj,ak,simprocAttr,aa,aX,c8,c9,b0,Int.toNat_natCast]
 have ja:∀i,i<m8 p→(XW p i).length=32:=fun i hi=>by rw[XW,List.length_take,List.length_drop];omega
 have hds:∀i,(iU p i).map aW++[.agg (.ar 32 L8) (bs (XW p i))]=(iU p (i+1)).map aW:=fun i=>by simp[iU,List.range_succ,aW]
 have qY:∀i,(iU p i).length=i:=fun i=>by simp[iU]
 have tk1':List.take (36+32*nE p-0) (List.drop 4 p)=nF p:=rfl
 rw[tk1']
 generalize oM (some (((36+32*nE p:Nat):Int))) (36+32*nE p) (36+32*nE p) (p.length-4) (oM none p.length p.length p.length x)=e12
 generalize oM none (p.length-(40+32*nE p)) (p.length-(40+32*nE p)) (p.length-(40+32*nE p)) (oM none (p.length-4) (p.length-4) (p.length-4) (oM none p.length p.length p.length x))=e0
 have er:List.drop (44+32*nE p) p=DJ p 0:=rfl
 have Ax:∀i,i≤m8 p→(DJ p i).length=32*(m8 p-i):=fun i hi=>by rw[DJ,List.length_drop];omega
 have hrn:∀i,List.drop 32 (DJ p i)=DJ p (i+1):=fun i=>by rw[DJ,List.drop_drop];rfl
 have hrt:∀i,List.take 32 (DJ p i)=XW p i:=fun i=>rfl
 rw[er]
 refine bB (m8 p) (fun i env rows=>has env [(13,.raw (u32 (Kc p))),(15,.raw (u32 (wG p))),(8,.ptr .ref 0 [0]),(12,.cF L8 (bs (nF p)) e12)]∧
  (∃e,live rows 0=some ⟨.ref,[.cF L8 (bs (DJ p i)) e]⟩)∧∃d',look env 16=some d'∧iK (.ar 32 L8) d' rows ((iU p i).map aW)∧(∀r ex n,d'= .sl (.ar 32 L8) r [] 0 n ex→1≤r)) ?_ ?_ ⟨?_,⟨e0,rfl⟩,.raw (.slice none 0 0),?_,.inl ⟨rfl,rfl⟩,fun r ex n h=>?_⟩
 ·rintro i hi env rows ⟨hw,⟨e',r0⟩,d',h16,hO,hne⟩ R hR
  simp only[has]at hw
  have hl:=Ax i (by omega)
  have hn:=hrn i
  have ht:=hrt i
  have sO:=ja i hi
  have hln:(DJ p (i+1)).length=32*(m8 p-i)-32:=by rw[Ax _ (by omega)];omega
  have f0:((0:Int)<((32*(m8 p-i):Nat):Int))=True:=eq_true (by omega)
  have f1:(((32*(m8 p-i):Nat):Int)<32)=False:=eq_false (by omega)
  have f2:((32:Int)≤((32*(m8 p-i):Nat):Int))=True:=eq_true (by omega)
  have lt0:=bn r0
  have w0:=fun y=>aG (y:=y) r0
  generalize 32*(m8 p-i)=M at*
  have tkn:List.take (M-32) (DJ p (i+1))=DJ p (i+1):=List.take_of_length_le (by omega)
  have tkp:List.take 32 (XW p i)=XW p i:=List.take_of_length_le (by omega)
  generalize DJ p i=X at*
  simp only[↓aj,ak,simprocAttr,aa,aX,hw,h16,r0,w0,aC,hl,f0,f1,f2,fw,ey,lQ,n5,r5,jn,jq,b0,hn,ht,tkn,tkp,sO]
  have hL:∀A Y,live (rows.set 0 (some A)++[some Y]) rows.length=some Y:=fun A Y=>by
   have:=tG (rows.set 0 (some A)) Y
   simpa using this
  have hO1:∀A,iK (.ar 32 L8) d' (rows.set 0 (some A)) ((iU p i).map aW):=fun A=>by
   rcases hO with h|⟨r,ex,rfl,h⟩
   ·exact .inl h
   ·exact .inr ⟨r,ex,rfl,cK h (by have:=hne _ _ _ rfl;omega)⟩
  simp only[↓aj,ak,simprocAttr,aa,hL,List.take]
  refine Ao (hO1 _).push (by rw[List.length_map,qY];simp[most];omega) (by rw[List.length_map,qY];simp[most];omega) fun ab mh oD vS=>?_
  rw[hds]at mh
  have r0':=oD 0 _ (bJ (w0 _)) (fun ex n e=>by have:=hne _ _ _ e;omega)
  have hlg:∀A:Row,(rows.set 0 (some A)++[some (⟨.ar 32 L8,[.agg (.ar 32 L8) (bs (XW p i))]⟩:Row)]).length=rows.length+1:=fun A=>by simp
  rw[hlg]at mh
  simp only[↓aj,ak,simprocAttr,aa,aX,hw,hlg]
  refine hR _ _ ⟨by simp only[has,↓aj,ak,simprocAttr,aa,hw],⟨_,r0'⟩,.sl (.ar 32 L8) (rows.length+1) [] 0 ((iU p i).length+1) false,by simp only[↓aj,ak,simprocAttr,aa,List.length_map,hlg],.inr ⟨_,false,by rw[List.length_map,qY,qY],mh⟩,fun r ex n e=>by injection e with _ e;omega⟩
 ·rintro env rows ⟨hw,⟨e',r0⟩,d',h16,hO,hne⟩ R
  simp only[has]at hw
  have hl:=Ax (m8 p) (Nat.le_refl _)
  rw[Nat.sub_self,Nat.mul_zero]at hl
  have hol:(nF p).length=36+32*nE p:=by rw[nF,List.length_take,List.length_drop];omega
  simp only[↓aj,ak,simprocAttr,aa,aX,hw,h16,r0,aC,hl,hO.mI]
  refine⟨by rw[hol];omega,by rw[hol];omega,?_⟩
  rw[hol]
  have Mj:1≤(iU p (m8 p)).length:=by rw[qY];exact DL
  rcases hO with⟨h,_⟩|⟨r,Pj,rfl,hlv⟩
  ·have:=congrArg List.length h;rw[List.length_map,List.length_nil]at this;omega
  ·have hlt:=bn hlv
   rw[List.length_map,qY]
   have l1:live (rows++[none,some (⟨L8,bs (nF p)⟩:Row)]) (rows.length+1)=some ⟨L8,bs (nF p)⟩:=by rw[cD];rfl
   exact .own2 [.raw (u32 (wG p))] [.raw (u32 (Kc p))] [.raw (it 0)] L8 (.ar 32 L8) (rows.length+1) r 0 _ 0 _ false false Pj false _ _ l1 (bJ hlv) (by omega) rfl rfl rfl rfl rfl (fun h=>h) (fun h=>by cases h)
 ·simp only[has,↓aj,ak,simprocAttr,aa]
 ·simp only[↓aj,ak,simprocAttr,aa]
 ·cases h
theorem MJ{p:List (BitVec 8)}(h:dz p=0):(nF p).length=36+32*nE p:=by
 obtain⟨-,-,h,-⟩:=Ay h
 rw[nF,List.length_take,List.length_drop];omega
theorem IC(p:List (BitVec 8))(n:Nat):(iU p n).length=n:=by simp[iU]
theorem XY{p:List (BitVec 8)}(h:dz p=0):∀x∈iU p (m8 p),x.length=32:=by
 obtain⟨-,-,h,-⟩:=Ay h
 intro x hx
 obtain⟨i,hi,rfl⟩:=List.mem_map.1 hx
 have:=List.mem_range.1 hi
 rw[XW,List.length_take,List.length_drop];omega
theorem kParts(rows:Rows)(k:D→Rows→Prop)(d:D)(p:List (BitVec 8))(hd:bc rows d p)(hp:p.length≤1099511627776)(he:dz p=0):
  aJ Ge rows k [d]=k (.cA [.raw (u32 (wG p)),.sl L8 (0+rows.length) [] 0 (36+32*nE p) false,.raw (u32 (Kc p)),.sl (.ar 32 L8) (1+rows.length) [] 0 (m8 p) false,.raw (it 0)])
   (rows++[some ⟨L8,bs (nF p)⟩,some ⟨.ar 32 L8,(iU p (m8 p)).map aW⟩]):=by
 refine(cC (bT.bs hd) (by simpa using hp) (by simp only[if_pos he];rfl) k).trans ?_
 simp only[if_pos he]
 simp[shift,bh,ae,Sh.pure]
theorem kPartsE(rows:Rows)(k:D→Rows→Prop)(d:D)(p:List (BitVec 8))(hd:bc rows d p)(hp:p.length≤1099511627776)(he:¬dz p=0):
  aJ Ge rows k [d]=k (.cA [.raw (u32 0#32),.raw (.slice none 0 0),.raw (u32 0#32),.raw (.slice none 0 0),.raw (it (dz p))]) rows:=by
 refine(cC (bT.bs hd) (by simpa using hp) (by simp only[if_neg he];rfl) k).trans ?_
 simp only[if_neg he]
 simp[shift,bh,ae]
def CZ(id:List (BitVec 8))(r:BitVec 32)(d x:List (BitVec 8)):List (BitVec 8):=if r&&&1#32=1#32 then sn id (r>>>1) x d else sn id (r>>>1) d x
theorem T5(id:List (BitVec 8))(r:BitVec 32)(d x:List (BitVec 8)):(CZ id r d x).length=32:=by
 unfold CZ;split<;>exact IB _ _ _ _
def dI(id:List (BitVec 8))(r:BitVec 32)(d:List (BitVec 8))(path:List (List (BitVec 8))):Nat→List (BitVec 8)
 |0=>d
 |i+1=>CZ id (r>>>i) (dI id r d path i) (path.getD i [])
theorem XZ(id:List (BitVec 8))(r:BitVec 32)(d:List (BitVec 8))(path:List (List (BitVec 8)))(h:d.length=32):∀i,(dI id r d path i).length=32
 |0=>h
 |i+1=>T5 _ _ _ _
def yH(id:List (BitVec 8))(q:BitVec 32)(d:List (BitVec 8))(path:List (List (BitVec 8))):List (BitVec 8):=dI id (q+1#32<<<path.length) d path path.length
theorem shr_add(r:BitVec 32)(i:Nat):(r>>>i)>>>1=r>>>(i+1):=(BitVec.shiftRight_add r i 1).symm
theorem and1(r:BitVec 32):r %2#32=r&&&1#32:=by
 apply BitVec.eq_of_toNat_eq
 rw[BitVec.toNat_umod,BitVec.toNat_and]
 exact(Nat.and_two_pow_sub_one_eq_mod r.toNat 1).symm
def KO(bH sig:List (BitVec 8)):Int:=
 if(eu bH).2≠0 then(eu bH).2 else if dz sig≠0 then dz sig else if Kc sig=(eu bH).1.t∧QY sig=(eu bH).1.o then 0 else 6
def X0(bH msg sig:List (BitVec 8)):List (BitVec 8):=
 yH (eu bH).1.id (wG sig) (nD (eu bH).1.id (wG sig+1#32<<<m8 sig) (pF ⟨(eu bH).1.id,wG sig⟩ (nF sig) msg)) (iU sig (m8 sig))
theorem rtS_len(bH msg sig:List (BitVec 8)):(X0 bH msg sig).length=32:=XZ _ _ _ _ (BP _ _ _) _
theorem Pm(s:Site)(p m:List (BitVec 8)):(pF s p m).length=32:=dh _
theorem MK(p:List (BitVec 8)):(eu p).1.id.length=16∧(eu p).1.root.length=32:=by
 unfold eu
 by_cases c:p.length=56
 ·simp only[c,decide_true,cond_true]
  cases G4 (cY p).toNat&&sH (cY (p.drop 4)).toNat
  ·exact⟨rfl,rfl⟩
  ·simp only[cond_true,keyOf,List.length_take,List.length_drop];omega
 ·simp only[c,decide_false,cond_false];exact⟨rfl,rfl⟩
theorem T6{p:List (BitVec 8)}(h:dz p=0):gy (nF p)=0:=by
 obtain⟨h1,h2,h3,h4⟩:=Ay h
 have hl:=MJ h
 have hT:dj (nF p)=QY p:=by
  show cY _=cY _
  rw[nF,oF _ _ (by omega)]
 rw[gy,if_neg (by omega),hT,h1,hl]
 show(if 36+32*nE p=36+32*nE p then(0:Int)else 2)=0
 rw[if_pos rfl]
theorem one_T{p:List (BitVec 8)}:cY (nF p)=QY p:=by rw[nF,oF _ _ (by omega)];rfl
noncomputable def QZ:Fn:=G2 dN dN dN (fun a b c=>decide (a.length≤1099511627776)&&decide (b.length≤1099511627776)&&decide (c.length≤1099511627776)) fun a b c=>
 (.cA [aW (if KO a c=0 then X0 a b c else ug),.raw (it (KO a c))],[])
set_option maxHeartbeats 2000000 in
theorem root_ok(C:be)(hC:aI C P)(h1:C.fn 143=some Gc)(h2:C.fn 89=some Ge)(h3:C.fn 146=some Gb)(h4:C.fn 90=some Ka)(h5:C.fn 41=some MH)(h6:C.fn 42=some MI):aO C.aZ P 142 (Fn.run QZ):=by
 refine cr (OL C hC) fun ds rows r h=>?_
 obtain⟨d0,d1,d2,bH,msg,sig,rfl,rfl,g0,g1,g2,hp,rfl⟩:=fq h
 obtain⟨x0,hx0⟩:=cy g0
 obtain⟨x1,pS⟩:=cy g1
 obtain⟨x2,zj⟩:=cy g2
 simp only[Bool.and_eq_true,decide_eq_true_eq]at hp
 obtain⟨⟨hp0,Mj⟩,sG⟩:=hp
 refine⟨rfl,_,.cons hx0 (.cons pS (.cons zj .nil)),ag rfl ?_⟩
 clear h g0 g1 g2 hx0 pS zj
 unfold FD FE
 have bL:=fun(rows:Rows) (l:List (BitVec 8)) (e:Bool)=>(ec.to (rows:=rows) (d:= .cF L8 (bs l) e) (.inr ⟨e,rfl⟩))
 have kR:=fun rows k=>XT rows k _ bH (bL rows bH x0) hp0
 have hz:D.agg Hq [.raw (u32 0#32),.raw (u32 0#32),.agg (.ar 16 L8) (List.replicate 16 (.raw (u8 0#8))),.agg (.ar 32 L8) (List.replicate 32 (.raw (u8 0#8)))]=BO T3:=rfl
 have l7:∀k,(BO k).fits Hq=true:=fun _=>rfl
 simp only[hz,dW]
 have gV:=(MK bH).1
 have hE:=XV bH
 by_cases c0:(eu bH).2=0
 rotate_left
 ·have e:KO bH sig=(eu bH).2:=by rw[KO,if_pos c0]
  have c0':=eq_false c0
  rw[e,if_neg c0]
  simp only[↓aj,ak,simprocAttr,aa,aX,h1,kR,l7,c0']
  exact .val _ rfl
 have hne:¬(eu bH).2≠0:=by simp[c0]
 by_cases c1:dz sig=0
 rotate_left
 ·have e:KO bH sig=dz sig:=by rw[KO,if_neg hne,if_pos c1]
  have kP:=fun rows k=>kPartsE rows k _ sig (bL rows sig x2) sG c1
  have T7:=eq_false c1
  rw[e,if_neg c1]
  simp only[↓aj,ak,simprocAttr,aa,aX,h1,kR,l7,c0,h2,kP,T7]
  exact .val _ rfl
 have kP:=fun rows k=>kParts rows k _ sig (bL rows sig x2) sG c1
 have hol:=MJ c1
 have hot:=@one_T sig
 have gt:∀k:Key,(BO k).get [0]=some (.raw (u32 k.t)):=fun _=>rfl
 have go:∀k:Key,(BO k).get [1]=some (.raw (u32 k.o)):=fun _=>rfl
 have gi:∀k:Key,(BO k).get [2]=some (.agg (.ar 16 L8) (bs k.id)):=fun _=>rfl
 have hl4:4≤(nF sig).length:=by omega
 have hlh:=hT_le (Kc sig).toNat
 rw[show hT (Kc sig).toNat=m8 sig from rfl]at hlh
 have sO:=IC sig (m8 sig)
 have hp32:=XY c1
 have hrt:Kc sig=(eu bH).1.t∧QY sig=(eu bH).1.o→KO bH sig=0:=fun h=>by rw[KO,if_neg hne,if_neg (by simp[c1]),if_pos h]
 have hrn:¬(Kc sig=(eu bH).1.t∧QY sig=(eu bH).1.o)→KO bH sig=6:=fun h=>by rw[KO,if_neg hne,if_neg (by simp[c1]),if_neg h]
 have hsp:=T6 c1
 have hrS:X0 bH msg sig=yH (eu bH).1.id (wG sig) (nD (eu bH).1.id (wG sig+1#32<<<m8 sig) (pF ⟨(eu bH).1.id,wG sig⟩ (nF sig) msg)) (iU sig (m8 sig)):=rfl
 rw[hrS]
 have hE0:(eu bH).2=0:=c0
 rw[hE0]at kR
 clear hE c0 hne hE0
 generalize (eu bH).1=K at*
 by_cases ht:Kc sig=K.t
 rotate_left
 ·have e:=hrn (fun h=>ht h.1)
  have wO:=eq_false ht
  rw[e,if_neg (by decide)]
  simp only[↓aj,ak,simprocAttr,aa,aX,h1,kR,l7,h2,kP,h3,gt,wO]
  exact .val _ rfl
 have wO:=eq_true ht
 have kN:=fun rows k hd=>kLNum rows k (.sl L8 2 [] 0 (36+32*nE sig) false) (nF sig) hd hl4
 rw[hot]at kN
 have kN0:=fun k=>kN [some ⟨.ar 32 L8,[.agg (.ar 32 L8) (bs ug)]⟩,some ⟨Hq,[BO K]⟩,some ⟨L8,bs (nF sig)⟩,some ⟨.ar 32 L8,(iU sig (m8 sig)).map aW⟩] k (bc.own rfl _ hol.symm)
 by_cases ho:QY sig=K.o
 rotate_left
 ·have e:=hrn (fun h=>ho h.2)
  have N7:=eq_false ho
  rw[e,if_neg (by decide)]
  simp only[↓aj,ak,simprocAttr,aa,aX,h1,kR,l7,h2,kP,h3,gt,go,wO,N7,kN0]
  exact .val _ rfl
 have N7:=eq_true ho
 have e:=hrt ⟨ht,ho⟩
 rw[e,if_pos rfl]
 have ja:=Pm ⟨K.id,wG sig⟩ (nF sig) msg
 simp only[↓aj,ak,simprocAttr,aa,aX,h1,kR,l7,h2,kP,h3,gt,go,gi,wO,N7,kN0,h4]
 refine Eq.mpr (kClaim _ _ ⟨K.id,wG sig⟩ _ _ (nF sig) msg (bc.own rfl _ hol.symm) (bL _ msg x1) gV (by have:=(Ay c1).2.2.1;omega) hsp) ?_
 have b0:∀n:Nat,((0:Int)≤(n:Int))=True:=fun n=>eq_true (by omega)
 generalize pF ⟨K.id,wG sig⟩ (nF sig) msg=CL at*
 simp only[↓aj,ak,simprocAttr,aa,aX,gi,b0,Int.toNat_natCast,h5,kLeaf _ _ _ _ _ gV ja]
 have qY:=XZ K.id (wG sig+1#32<<<m8 sig) (nD K.id (wG sig+1#32<<<m8 sig) CL) (iU sig (m8 sig)) (BP _ _ _)
 have hcs:yH K.id (wG sig) (nD K.id (wG sig+1#32<<<m8 sig) CL) (iU sig (m8 sig))=dI K.id (wG sig+1#32<<<m8 sig) (nD K.id (wG sig+1#32<<<m8 sig) CL) (iU sig (m8 sig)) (m8 sig):=by rw[yH,sO]
 rw[hcs]
 have hd0:nD K.id (wG sig+1#32<<<m8 sig) CL=dI K.id (wG sig+1#32<<<m8 sig) (nD K.id (wG sig+1#32<<<m8 sig) CL) (iU sig (m8 sig)) 0:=rfl
 generalize nD K.id (wG sig+1#32<<<m8 sig) CL=L0 at*
 generalize wG sig+1#32<<<m8 sig=R0 at*
 generalize hN:m8 sig=N at*
 generalize iU sig N=l at*
 refine bB N (fun i env rows=>has env [(77,.raw (it (i:Int))),(76,.raw (it (N:Int))),(75,.sl (.ar 32 L8) 3 [] 0 N false),(16,.raw (u32 (R0>>>i))),(8,.ptr Hq 1 [0]),(17,.ptr (.ar 32 L8) 5 [0]),(6,.ptr (.ar 32 L8) 0 [0])]∧
  live rows 0=some ⟨.ar 32 L8,[.agg (.ar 32 L8) (bs ug)]⟩∧live rows 1=some ⟨Hq,[BO K]⟩∧live rows 3=some ⟨.ar 32 L8,l.map aW⟩∧live rows 5=some ⟨.ar 32 L8,[.agg (.ar 32 L8) (bs (dI K.id R0 L0 l i))]⟩) ?_ ?_ ⟨?_,rfl,rfl,rfl,rfl⟩
 ·rintro i hi env rows ⟨hh,r0,r1,r3,r5⟩ R hR
  simp only[has]at hh
  have e0:((i:Int)<(N:Int))=True:=eq_true (by omega)
  have e1:=cE i (by omega)
  have uv:i<l.length:=by omega
  have yR:=hp32 _ (List.getElem_mem uv)
  have g:(l.map aW)[i]?=some (.agg (.ar 32 L8) (bs l[i])):=by simp[aW,uv]
  have hcl2:=qY i
  have hn:dI K.id R0 L0 l (i+1)=CZ K.id (R0>>>i) (dI K.id R0 L0 l i) l[i]:=by
   show CZ _ _ _ (l.getD i [])=_
   simp[List.getD,uv]
  have lt0:=bn r0
  have lt1:=bn r1
  have lt3:=bn r3
  have lt5:=bn r5
  rw[hn]at hR
  generalize l[i]=x at*
  generalize dI K.id R0 L0 l i=dc at*
  have r1A:=fun L=>aA r1 L
  have r5A:=fun L=>aA r5 L
  have hs:=shr_add R0 i
  have hst:CZ K.id (R0>>>i) dc x=if R0>>>i&&&1#32=1#32 then sn K.id (R0>>>(i+1)) x dc else sn K.id (R0>>>(i+1)) dc x:=by rw[CZ,hs]
  have s1:(1#64).toNat=1:=rfl
  by_cases hb:(R0>>>i&&&1#32=1#32)
  ·rw[hst,if_pos hb]at hR
   have eb:=eq_true hb
   simp only[↓aj,ak,simprocAttr,aa,aX,hh,e0,e1,b0,g,r3,r1A,r5A,gi,s1,hs,eb,h6,XS _ _ _ _ _ _ gV yR hcl2]
   refine hR _ _ ⟨by simp only[has,↓aj,ak,simprocAttr,aa,hh],?_,?_,?_,?_⟩
   ·rw[aE (by omega)];exact bJ r0
   ·rw[aE (by omega)];exact bJ r1
   ·rw[aE (by omega)];exact bJ r3
   ·exact aG (bJ r5)
  ·rw[hst,if_neg hb]at hR
   have eb:=eq_false hb
   simp only[↓aj,ak,simprocAttr,aa,aX,hh,e0,e1,b0,g,r3,r1A,r5A,gi,s1,hs,eb,h6,XS _ _ _ _ _ _ gV hcl2 yR]
   refine hR _ _ ⟨by simp only[has,↓aj,ak,simprocAttr,aa,hh],?_,?_,?_,?_⟩
   ·rw[aE (by omega)];exact bJ r0
   ·rw[aE (by omega)];exact bJ r1
   ·rw[aE (by omega)];exact bJ r3
   ·exact aG (bJ r5)
 ·rintro env rows ⟨hh,r0,r1,r3,r5⟩ R
  simp only[has]at hh
  have e0:((N:Int)<(N:Int))=False:=eq_false (by omega)
  have w1:=fun x=>aG (y:=x) r0
  simp only[↓aj,ak,simprocAttr,aa,aX,hh,e0,r5,r0,w1]
  exact .val _ rfl
 ·have e:R0>>>0=R0:=by simp
  rw[e]
  simp only[has,↓aj,ak,simprocAttr,aa]
theorem kRoot(rows:Rows)(k:D→Rows→Prop)(d0 d1 d2:D)(a b c:List (BitVec 8))(h0:bc rows d0 a)(h1:bc rows d1 b)(h2:bc rows d2 c)(ha:a.length≤1099511627776)(hb:b.length≤1099511627776)(hc:c.length≤1099511627776):
  aJ QZ rows k [d0,d1,d2]=k (.cA [.agg (.ar 32 L8) (bs (if KO a c=0 then X0 a b c else ug)),.raw (it (KO a c))]) rows:=by
 refine(fT (.bs h0) (.bs h1) (.bs h2) (by simp[ha,hb,hc]) rfl k).trans ?_
 simp[aW,shift,bh,ae,Sh.pure]
def so(bH msg sig:List (BitVec 8)):Int:=if KO bH sig=0 then(if X0 bH msg sig=(eu bH).1.root then 0 else 5)else KO bH sig
noncomputable def Az:Fn:=G2 dN dN dN (fun a b c=>decide (a.length≤1099511627776)&&decide (b.length≤1099511627776)&&decide (c.length≤1099511627776)) fun a b c=>(.raw (it (so a b c)),[])
theorem T8(C:be)(hC:aI C P)(h1:C.fn 143=some Gc)(h2:C.fn 142=some QZ):aO C.aZ P 88 (Fn.run Az):=by
 refine cr (JA C hC) fun ds rows r h=>?_
 obtain⟨d0,d1,d2,bH,msg,sig,rfl,rfl,g0,g1,g2,hp,rfl⟩:=fq h
 obtain⟨x0,hx0⟩:=cy g0
 obtain⟨x1,pS⟩:=cy g1
 obtain⟨x2,zj⟩:=cy g2
 simp only[Bool.and_eq_true,decide_eq_true_eq]at hp
 obtain⟨⟨hp0,Mj⟩,sG⟩:=hp
 refine⟨rfl,_,.cons hx0 (.cons pS (.cons zj .nil)),ag rfl ?_⟩
 clear h g0 g1 g2 hx0 pS zj
 unfold zF zG
 have bL:=fun(rows:Rows) (l:List (BitVec 8)) (e:Bool)=>(ec.to (rows:=rows) (d:= .cF L8 (bs l) e) (.inr ⟨e,rfl⟩))
 have hz:D.agg Hq [.raw (u32 0#32),.raw (u32 0#32),.agg (.ar 16 L8) (List.replicate 16 (.raw (u8 0#8))),.agg (.ar 32 L8) (List.replicate 32 (.raw (u8 0#8)))]=BO T3:=rfl
 have l7:∀k,(BO k).fits Hq=true:=fun _=>rfl
 have gr:∀k:Key,(BO k).get [3]=some (.agg (.ar 32 L8) (bs k.root)):=fun _=>rfl
 have kR:=fun rows k=>XT rows k _ bH (bL rows bH x0) hp0
 have kT:=fun rows k=>kRoot rows k _ _ _ bH msg sig (bL rows bH x0) (bL rows msg x1) (bL rows sig x2) hp0 Mj sG
 simp only[hz,dW]
 by_cases c0:KO bH sig=0
 ·have e:=rtS_len bH msg sig
  have e2:=(MK bH).2
  have eq:=JZ (X0 bH msg sig) (eu bH).1.root e e2
  have hv:so bH msg sig=if X0 bH msg sig=(eu bH).1.root then 0 else 5:=by rw[so,if_pos c0]
  rw[hv]
  simp only[c0,if_true]at kT
  by_cases c1:X0 bH msg sig=(eu bH).1.root
  ·rw[if_pos c1]
   rw[decide_eq_true c1]at eq
   simp only[↓aj,ak,simprocAttr,aa,aX,h1,kR,l7,h2,kT,gr,eq]
   exact .val _ rfl
  ·rw[if_neg c1]
   rw[decide_eq_false c1]at eq
   simp only[↓aj,ak,simprocAttr,aa,aX,h1,kR,l7,h2,kT,gr,eq]
   exact .val _ rfl
 ·have hv:so bH msg sig=KO bH sig:=by rw[so,if_neg c0]
  have c0':=eq_false c0
  rw[hv]
  simp only[↓aj,ak,simprocAttr,aa,aX,h1,kR,l7,h2,kT,gr,c0']
  exact .val _ rfl
theorem kVerify(rows:Rows)(k:D→Rows→Prop)(d0 d1 d2:D)(a b c:List (BitVec 8))(h0:bc rows d0 a)(h1:bc rows d1 b)(h2:bc rows d2 c)(ha:a.length≤1099511627776)(hb:b.length≤1099511627776)(hc:c.length≤1099511627776):
  aJ Az rows k [d0,d1,d2]=k (.raw (it (so a b c))) rows:=by
 refine(fT (.bs h0) (.bs h1) (.bs h2) (by simp[ha,hb,hc]) rfl k).trans ?_
 simp[shift,ae]
abbrev iG:Sh:=NB
abbrev jZ:Sh:=S24
abbrev ML:Sh:=S16
abbrev AA:Sh:=pP LS LB
abbrev C9:Sh:=pP ML LI
structure oJ where
 t:BitVec 32
 o:BitVec 32
 id:List (BitVec 8)
 aL:List (BitVec 8)
 ns:List (List (BitVec 8))
 en:Bool
 nx:BitVec 32
 sm:List D
 tm:List D
 ld:D
def wH(s:oJ):D:= .b5 (.agg iG [.raw (u32 s.t),.raw (u32 s.o),.agg (.ar 16 L8) (bs s.id),.agg (.ar 32 L8) (bs s.aL),.cF (.ar 32 L8) (s.ns.map aW) s.en,.raw (u32 s.nx),.om AA s.sm,.om C9 s.tm,s.ld])
theorem Da:∀{a b:List (List (BitVec 8))},a.map aW=b.map aW→a=b
 |[],[],_=>rfl
 |[],_::_,h=>by simp at h
 | _::_,[],h=>by simp at h
 |x::a,y::b,h=>by
  simp only[List.map_cons,List.cons.injEq]at h
  rw[Al x y h.1,Da h.2]
theorem Ed(x y:oJ)(h:wH x=wH y):x=y:=by
 obtain⟨t,o,id,aL,ns,en,nx,sm,tm,ld⟩:=x
 obtain⟨t',o',id',seed',ns',en',nx',sm',tm',ld'⟩:=y
 simp only[wH,D.b5.injEq,D.agg.injEq,List.cons.injEq,D.raw.injEq,D.cF.injEq,D.om.injEq,true_and,and_true]at h
 obtain⟨h1,h2,h3,h4,⟨h5,h6⟩,h7,h8,h9,h10⟩:=h
 rw[mP h1,mP h2,tu h3,tu h4,Da h5,h6,mP h7,h8,h9,h10]
def iA(s:oJ):Nat:=s.ns.length/2
def ml(s:oJ):Bool:=decide (s.id.length=16)&&decide (s.aL.length=32)&&It s.ns&&decide (4≤s.ns.length)&&decide (s.ns.length≤2048)&&decide (s.ns.length %2=0)&&!aQ s.ld
theorem eQ{s:oJ}:ml s=true↔s.id.length=16∧s.aL.length=32∧(∀x∈s.ns,x.length=32)∧4≤s.ns.length∧s.ns.length≤2048∧s.ns.length %2=0∧aQ s.ld=false:=by
 simp only[ml,Bool.and_eq_true,decide_eq_true_eq,sa,Bool.not_eq_true']
 constructor
 ·rintro⟨⟨⟨⟨⟨⟨h1,h2⟩,h3⟩,h4⟩,h5⟩,h6⟩,h7⟩;exact⟨h1,h2,h3,h4,h5,h6,h7⟩
 ·rintro⟨h1,h2,h3,h4,h5,h6,h7⟩;exact⟨⟨⟨⟨⟨⟨h1,h2⟩,h3⟩,h4⟩,h5⟩,h6⟩,h7⟩
theorem BQ{s:oJ}(h:aQ s.ld=false):aQ (wH s)=false:=by
 simp[wH,aQ,aN,Sh.pure,h]
noncomputable def qE:Fn:=lE (b8 wH) ml fun s=>(.raw (it (iA s:Int)),[])
theorem T9(C:be)(hC:aI C P):aO C.aZ P 38 (Fn.run qE):=by
 refine aH (wV C hC) fun ds rows r h=>?_
 obtain⟨d,s,rfl,rfl,hd,hp,rfl⟩:=a8 h
 cases aF hd
 obtain⟨gV,qX,p8,Ph,hn,wv,HV⟩:=eQ.1 hp
 refine⟨rfl,ag rfl ?_⟩
 clear h hd
 unfold od oe
 have e1:((s.ns.length:Nat):Int).tdiv 2=((iA s:Nat):Int):=rfl
 have e2:wz ((iA s:Nat):Int)=((iA s:Nat):Int):=bf (by unfold iA;omega)
 simp only[wH,↓aj,ak,simprocAttr,aa,aX,List.length_map,e1,e2]
 exact .val _ rfl
theorem X1(rows:Rows)(k:D→Rows→Prop)(d:D)(s:oJ)(h:bT rows (b8 wH) d s)(hp:ml s=true):aJ qE rows k [d]=k (.raw (it (iA s:Int))) rows:=by
 refine(cC h hp rfl k).trans ?_
 simp[shift,ae]
theorem Gf(rows:Rows)(k:D→Rows→Prop)(s:oJ)(hp:ml s=true):aJ qE rows k [wH s]=k (.raw (it (iA s:Int))) rows:=by
 refine(bi (by simp[aN,BQ (eQ.1 hp).2.2.2.2.2.2]) (ei (bV Ed s) hp)).trans ?_
 simp[shift,ae]
noncomputable def Gg:Fn:=wS (b8 wH) qN (fun s _=>ml s) fun s q=>(fb ⟨s.id,q⟩,[])
theorem site_ok(C:be)(hC:aI C P):aO C.aZ P 40 (Fn.run Gg):=by
 refine aH (zz C hC) fun ds rows r h=>?_
 obtain⟨d,d2,s,q,rfl,rfl,hd,yQ,hp,rfl⟩:=dq h
 cases aF hd
 cases dL yQ
 obtain⟨gV,qX,p8,Ph,hn,wv,HV⟩:=eQ.1 hp
 refine⟨rfl,ag rfl ?_⟩
 clear h hd yQ
 unfold qn qo
 have hz:D.agg vP [.agg (.ar 16 L8) (List.replicate 16 (.raw (u8 0#8))),.raw (u32 0#32)]=fb ⟨List.replicate 16 0#8,0#32⟩:=rfl
 simp only[hz]
 simp only[wH,↓aj,ak,simprocAttr,aa,aX,dw]
 exact .val _ rfl
theorem X2(rows:Rows)(k:D→Rows→Prop)(d:D)(s:oJ)(q:BitVec 32)(h:bT rows (b8 wH) d s)(hp:ml s=true):aJ Gg rows k [d,.raw (u32 q)]=k (fb ⟨s.id,q⟩) rows:=by
 refine(jB h (bT.raw (fK q)) hp rfl k).trans ?_
 simp[fb,shift,ae,Sh.pure]
theorem kSiteC(rows:Rows)(k:D→Rows→Prop)(s:oJ)(q:BitVec 32)(hp:ml s=true):aJ Gg rows k [wH s,.raw (u32 q)]=k (fb ⟨s.id,q⟩) rows:=by
 refine(bi (by simp[aN,BQ (eQ.1 hp).2.2.2.2.2.2,aQ]) (jP (bV Ed s) (fK q) hp)).trans ?_
 simp[fb,shift,ae,Sh.pure]
noncomputable def Q1:Fn:=lE (b8 wH) ml fun s=>(.raw (it ((iA s:Int)-(s.nx.toNat:Int))),[])
theorem left_ok(C:be)(hC:aI C P)(h1:C.fn 38=some qE):aO C.aZ P 109 (Fn.run Q1):=by
 refine aH (zM C hC) fun ds rows r h=>?_
 obtain⟨d,s,rfl,rfl,hd,hp,rfl⟩:=a8 h
 cases aF hd
 obtain⟨gV,qX,p8,Ph,hn,wv,HV⟩:=eQ.1 hp
 refine⟨rfl,ag rfl ?_⟩
 clear h hd
 unfold qs qt
 have kL:=fun rows k=>Gf rows k s hp
 have hx:=s.nx.isLt
 have e2:wz ((iA s:Int)-(s.nx.toNat:Int))=(iA s:Int)-(s.nx.toNat:Int):=bf (by unfold iA;omega)
 simp only[wH]at kL
 simp only[wH,↓aj,ak,simprocAttr,aa,aX,h1,kL,e2]
 exact .val _ rfl
theorem kLeftV(rows:Rows)(k:D→Rows→Prop)(d:D)(s:oJ)(h:bT rows (b8 wH) d s)(hp:ml s=true):aJ Q1 rows k [d]=k (.raw (it ((iA s:Int)-(s.nx.toNat:Int)))) rows:=by
 refine(cC h hp rfl k).trans ?_
 simp[shift,ae]
def fc(s:oJ):List (BitVec 8):=bC s.t++bC s.o++s.id++s.ns.getD 1 []
theorem sq{s:oJ}(hp:ml s=true):(fc s).length=56:=by
 obtain⟨gV,qX,p8,Ph,hn,wv,HV⟩:=eQ.1 hp
 have:=p8 _ (List.getElem_mem (show 1<s.ns.length by omega))
 have e:s.ns.getD 1 []=s.ns[1]'(by omega):=by simp[List.getD,show 1<s.ns.length by omega]
 rw[fc,e]
 simp only[List.length_append,this,gV]
 rfl
theorem sg_n1{s:oJ}(hp:ml s=true):(s.ns.map aW)[1]?=some (.agg (.ar 32 L8) (bs (s.ns.getD 1 [])))∧(s.ns.getD 1 []).length=32:=by
 obtain⟨gV,qX,p8,Ph,hn,wv,HV⟩:=eQ.1 hp
 have:=p8 _ (List.getElem_mem (show 1<s.ns.length by omega))
 have e:s.ns.getD 1 []=s.ns[1]'(by omega):=by simp[List.getD,show 1<s.ns.length by omega]
 rw[e]
 exact⟨by simp[aW,show 1<s.ns.length by omega],this⟩
noncomputable def AB:Fn:=lE (b8 wH) ml fun s=>ez (fc s) false
theorem Pn(C:be)(hC:aI C P)(h1:C.fn 50=some xP):aO C.aZ P 10 (Fn.run AB):=by
 refine aH (wU C hC) fun ds rows r h=>?_
 obtain⟨d,s,rfl,rfl,hd,hp,rfl⟩:=a8 h
 cases aF hd
 obtain⟨gV,qX,p8,Ph,hn,wv,HV⟩:=eQ.1 hp
 refine⟨rfl,ag rfl ?_⟩
 clear h hd
 unfold ob oc
 obtain⟨g1,wx⟩:=sg_n1 hp
 have b1:((1:Int)<(s.ns.length:Int))=True:=eq_true (by omega)
 have w4:∀x:BitVec 32,List.take 4 (bs (bC x))=bs (bC x):=fun x=>List.take_of_length_le (Nat.le_refl _)
 have l4:∀x:BitVec 32,(bs (bC x)).length=4:=fun x=>rfl
 have i16:List.take 16 (bs s.id)=bs s.id:=List.take_of_length_le (by rw[aC,gV];exact Nat.le_refl _)
 have l16:(bs s.id).length=16:=by rw[aC,gV]
 have n32:List.take 32 (bs (s.ns.getD 1 []))=bs (s.ns.getD 1 []):=List.take_of_length_le (by rw[aC,wx];exact Nat.le_refl _)
 have ln:(bs (s.ns.getD 1 [])).length=32:=by rw[aC,wx]
 have t8:List.take 8 (bs (bC s.t++bC s.o))=bs (bC s.t++bC s.o):=List.take_of_length_le (Nat.le_refl _)
 have l8:(bs (bC s.t++bC s.o)).length=8:=rfl
 have l24:(bs (bC s.t++(bC s.o++s.id))).length=24:=by rw[aC,List.length_append,List.length_append,gV];rfl
 have t24:List.take 24 (bs (bC s.t++(bC s.o++s.id)))=bs (bC s.t++(bC s.o++s.id)):=List.take_of_length_le (by rw[l24];exact Nat.le_refl _)
 simp only[wH,↓aj,ak,simprocAttr,aa,aX,h1,Mw,w4,l4,i16,l16,t8,l8,t24,l24,n32,ln,g1,b1,nU,List.length_map]
 have e:bs (bC s.t++(bC s.o++(s.id++s.ns.getD 1 [])))=bs (fc s):=by rw[fc];simp only[List.append_assoc]
 show wR _ _ (.sl L8 0 [] 0 (fc s).length false) [some ⟨L8,bs (fc s)⟩]
 rw[sq hp,e]
 exact .own L8 4 0 56 false false ⟨L8,bs (fc s)⟩ rfl rfl (fun h=>h)
theorem MM(rows:Rows)(k:D→Rows→Prop)(d:D)(s:oJ)(h:bT rows (b8 wH) d s)(hp:ml s=true):aJ AB rows k [d]=k (.sl L8 (0+rows.length) [] 0 56 false) (rows++[some ⟨L8,bs (fc s)⟩]):=by
 refine(cC h hp rfl k).trans ?_
 simp[ez,shift,ae,Sh.pure,sq hp]
theorem xor1(r:Nat):r^^^1=if r %2=0 then r+1 else r-1:=by
 have h1:(r^^^1)/2=r/2:=by
  have:=Nat.xor_div_two_pow (a:=r) (b:=1) (n:=1)
  simpa using this
 have h2:(r^^^1) %2=(r+1) %2:=by
  have:=Nat.xor_mod_two_pow (a:=r) (b:=1) (n:=1)
  rw[Nat.pow_one]at this
  rw[this]
  have e0:(0:Nat)^^^1 %2=1:=rfl
  have e1:(1:Nat)^^^1 %2=0:=rfl
  rcases Nat.mod_two_eq_zero_or_one r with h|h<;>rw[h]
  ·rw[e0];omega
  ·rw[e1];omega
 split<;>omega
theorem xor_it(r:Nat)(h:r<4611686018427387904)(k:D→Prop):bE .xor (it (r:Int)) (it 1) k=k (.raw (it ((r^^^1:Nat):Int))):=by
 have e1:BitVec.ofInt IntKind.i64.bits (r:Int)=BitVec.ofNat 64 r:=BitVec.ofInt_natCast _ _
 have e2:BitVec.ofInt IntKind.i64.bits (1:Int)=BitVec.ofNat 64 1:=rfl
 have hx:r^^^1<9223372036854775808:=by have:=xor1 r;split at this<;>omega
 have e3:(BitVec.ofNat 64 r^^^BitVec.ofNat 64 1).toNat=r^^^1:=by
  rw[BitVec.toNat_xor,BitVec.toNat_ofNat,BitVec.toNat_ofNat,Nat.mod_eq_of_lt (by omega)]
 simp only[bE,it,true_and]
 rw[e1,e2]
 show k (.raw (.int .i64 (wz (((BitVec.ofNat 64 r^^^BitVec.ofNat 64 1).toNat:Nat):Int))))=_
 rw[e3,bf (by omega)]
def gX(s:oJ)(q:Nat):Nat:=Nat.log2 (iA s+q)
def nX(s:oJ)(q i:Nat):List (BitVec 8):=s.ns.getD (((iA s+q)/2^i)^^^1) []
def l9(s:oJ)(q:Nat):List (List (BitVec 8)):=(List.range (gX s q)).map (nX s q)
theorem sr(s:oJ)(q:Nat):(l9 s q).length=gX s q:=by simp[l9]
theorem MN{s:oJ}(hp:ml s=true){q:Nat}(hq:q<iA s)(i:Nat):(s.ns.map aW)[((iA s+q)/2^i)^^^1]?=some (.agg (.ar 32 L8) (bs (nX s q i)))∧(nX s q i).length=32∧((iA s+q)/2^i)^^^1<s.ns.length:=by
 obtain⟨gV,qX,p8,Ph,hn,wv,HV⟩:=eQ.1 hp
 have hr:(iA s+q)/2^i≤iA s+q:=Nat.div_le_self _ _
 have hl:iA s+q<s.ns.length:=by unfold iA at*;omega
 have hx:=xor1 ((iA s+q)/2^i)
 have hlt:((iA s+q)/2^i)^^^1<s.ns.length:=by split at hx<;>omega
 have e:nX s q i=s.ns[((iA s+q)/2^i)^^^1]:=by simp[nX,List.getD,hlt]
 rw[e]
 exact⟨by simp[aW,hlt],p8 _ (List.getElem_mem hlt),hlt⟩
theorem Gh{s:oJ}(hp:ml s=true){q:Nat}(hq:q<iA s):∀x∈l9 s q,x.length=32:=by
 intro x hx
 obtain⟨i,_,rfl⟩:=List.mem_map.1 hx
 exact(MN hp hq i).2.1
noncomputable def Q2:Fn:=wS (b8 wH) qN (fun s _=>ml s) fun s q=>if q.toNat<iA s then(.sl (.ar 32 L8) 0 [] 0 (gX s q.toNat) false,[some ⟨.ar 32 L8,(l9 s q.toNat).map aW⟩])else(.raw (.slice none 0 0),[])
theorem Ua{s:oJ}(hp:ml s=true)(q:Nat):1≤gX s q:=by
 obtain⟨gV,qX,p8,Ph,hn,wv,HV⟩:=eQ.1 hp
 have:iA s+q≠0:=by unfold iA;omega
 exact(Nat.le_log2 this).2 (by unfold iA;omega)
set_option maxHeartbeats 1000000 in
theorem path_ok(C:be)(hC:aI C P)(h1:C.fn 38=some qE):aO C.aZ P 113 (Fn.run Q2):=by
 refine aH (zP C hC) fun ds rows r h=>?_
 obtain⟨d,d2,s,q,rfl,rfl,hd,yQ,hp,rfl⟩:=dq h
 cases aF hd
 cases dL yQ
 obtain⟨gV,qX,p8,Ph,hn,wv,HV⟩:=eQ.1 hp
 refine⟨rfl,ag rfl ?_⟩
 clear h hd yQ
 unfold qu qv
 have kL:=fun rows k=>Gf rows k s hp
 simp only[wH]at kL
 have hq32:=q.isLt
 have hlv:iA s≤1024:=by unfold iA;omega
 have hcv:BitVec.ofInt 64 ((iA s:Nat):Int)=BitVec.ofNat 64 (iA s):=BitVec.ofInt_natCast _ _
 by_cases hq:q.toNat<iA s
 rotate_left
 ·have c1:(BitVec.ofNat 64 (iA s)≤q.setWidth 64)=True:=eq_true (by rw[BitVec.le_def,BitVec.toNat_ofNat,BitVec.toNat_setWidth];omega)
  rw[if_neg hq]
  simp only[wH,↓aj,ak,simprocAttr,aa,aX,h1,kL,hcv,c1]
  exact .val _ rfl
 have c1:(BitVec.ofNat 64 (iA s)≤q.setWidth 64)=False:=eq_false (by rw[BitVec.le_def,BitVec.toNat_ofNat,BitVec.toNat_setWidth];omega)
 rw[if_pos hq]
 generalize hQ:q.toNat=Q at*
 have a1:wz ((iA s:Int)+(Q:Int))=((iA s+Q:Nat):Int):=by rw[bf (by omega)];omega
 have hN1:=Ua hp Q
 have hpg:=fun i=>MN hp hq i
 have hN:∀i,i<gX s Q→1<(iA s+Q)/2^i:=fun i hi=>by
  have h0:iA s+Q≠0:=by unfold iA;omega
  have:=(Nat.le_log2 h0 (k:=i+1)).1 hi
  rw[Nat.pow_succ]at this
  exact(Nat.le_div_iff_mul_le (Nat.two_pow_pos i)).2 (by omega)
 have hNe:(iA s+Q)/2^gX s Q≤1:=by
  have h0:iA s+Q≠0:=by unfold iA;omega
  have:=(Nat.log2_lt h0 (k:=gX s Q+1)).1 (by unfold gX;omega)
  rw[Nat.pow_succ]at this
  have:=(Nat.div_lt_iff_lt_mul (Nat.two_pow_pos (gX s Q)) (x:=iA s+Q) (y:=2)).2 (by omega)
  omega
 have hds:∀i,((List.range i).map (nX s Q)).map aW++[.agg (.ar 32 L8) (bs (nX s Q i))]=((List.range (i+1)).map (nX s Q)).map aW:=fun i=>by simp[List.range_succ,aW]
 simp only[wH,↓aj,ak,simprocAttr,aa,aX,h1,kL,hcv,c1,hQ,a1]
 have e1:∀(m:Nat) k,bE .shr (it (m:Int)) (u64 1#64) k=k (.raw (it ((m/2^1:Nat):Int))):=fun m k=>Xy m 1 .u64 (by decide) k
 have hR:iA s+Q≤2048:=by unfold iA at*;omega
 have hdv:∀i,(iA s+Q)/2^i≤2048:=fun i=>Nat.le_trans (Nat.div_le_self _ _) hR
 have G5:∀i,(iA s+Q)/2^i/2^1=(iA s+Q)/2^(i+1):=fun i=>by rw[Nat.div_div_eq_div_mul,←Nat.pow_add]
 have hR0:(iA s+Q)/2^0=iA s+Q:=by simp
 have hpG:l9 s Q=(List.range (gX s Q)).map (nX s Q):=rfl
 rw[hpG]
 have jO:aQ s.ld=false:=HV
 generalize hV:(D.agg iG [.raw (u32 s.t),.raw (u32 s.o),.agg (.ar 16 L8) (bs s.id),.agg (.ar 32 L8) (bs s.aL),.cF (.ar 32 L8) (s.ns.map aW) s.en,.raw (u32 s.nx),.om AA s.sm,.om C9 s.tm,s.ld]).b5=V
 have hfa:V=(D.agg iG [.raw (u32 s.t),.raw (u32 s.o),.agg (.ar 16 L8) (bs s.id),.agg (.ar 32 L8) (bs s.aL),.cF (.ar 32 L8) (s.ns.map aW) s.en,.raw (u32 s.nx),.om AA s.sm,.om C9 s.tm,s.ld]).b5:=hV.symm
 refine bB (gX s Q) (fun i env rows=>has env [(6,.raw (it (((iA s+Q)/2^i:Nat):Int))),(0,V)]∧∃d',look env 5=some d'∧iK (.ar 32 L8) d' rows (((List.range i).map (nX s Q)).map aW)) ?_ ?_ ⟨?_,.raw (.slice none 0 0),?_,.inl ⟨rfl,rfl⟩⟩
 ·rintro i hi env rows ⟨hw,d',h5,hO⟩ R hRR
  simp only[has]at hw
  obtain⟨g1,g2,g3⟩:=hpg i
  have hgt:=hN i hi
  have hle:=hdv i
  have hxi:=xor_it ((iA s+Q)/2^i) (by omega)
  have hnx':=G5 i
  have hde:=hds i
  have b0:∀n:Nat,((0:Int)≤(n:Int))=True:=fun n=>eq_true (by omega)
  generalize (iA s+Q)/2^i=r at*
  generalize nX s Q i=x at*
  have f0:((1:Int)<(r:Int))=True:=eq_true (by omega)
  have f1:(((r^^^1:Nat):Int)<(s.ns.length:Int))=True:=eq_true (by omega)
  have w0:look env 0=_:=hw.2.1.trans (congrArg some hfa)
  have w6:=hw.1
  simp only[↓aj,ak,simprocAttr,aa,aX,w0,w6,h5,f0,hxi,b0,f1,List.length_map,g1,e1,hnx']
  have uv:(List.range i).length=i:=List.length_range
  have hN12:gX s Q≤11:=by
   have h0:iA s+Q≠0:=by unfold iA;omega
   have:=(Nat.log2_lt h0 (k:=12)).2 (by omega)
   unfold gX;omega
  refine iX hO.push (by rw[List.length_map,List.length_map,uv];simp[most];omega) (by rw[List.length_map,List.length_map,uv];simp[most];omega) fun d2 ab F4 oD vS _=>?_
  rw[hde]at F4
  simp only[↓aj,ak,simprocAttr,aa,aX,w0,w6,hxi,e1,hnx']
  exact hRR _ _ ⟨by simp only[has,↓aj,ak,simprocAttr,aa,w0,hfa],d2,by simp only[↓aj,ak,simprocAttr,aa],F4⟩
 ·rintro env rows ⟨hw,d',h5,hO⟩ R
  simp only[has]at hw
  have f0:((1:Int)<(((iA s+Q)/2^gX s Q:Nat):Int))=False:=eq_false (by omega)
  simp only[↓aj,ak,simprocAttr,aa,aX,hw.1,h5,f0]
  rcases hO with⟨h,_⟩|⟨r,Pj,rfl,hlv⟩
  ·have:=congrArg List.length h
   rw[List.length_map,List.length_map,List.length_range,List.length_nil]at this
   omega
  ·rw[List.length_map,List.length_map,List.length_range]
   exact .own (.ar 32 L8) r 0 _ Pj false _ hlv rfl (fun h=>by cases h)
 ·rw[hR0];simp only[has,↓aj,ak,simprocAttr,aa]
 ·simp only[↓aj,ak,simprocAttr,aa]
end iC
end Go.Am

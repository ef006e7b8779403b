import Derived.Test.YtcmafnfakehjgaaGreatDoorKi8
set_option linter.unusedSimpArgs false
set_option linter.unusedVariables false
set_option maxRecDepth 10000
set_option maxHeartbeats 4000000
namespace Go.Am
attribute [local congr] cJ bI cK bJ bK b6 bw bN bO b7 bi b8 bP cI
namespace kj
open Go.Am.F
def zk(p:List (BitVec 8)):BitVec 32:=dZ p
def VX(p:List (BitVec 8)):BitVec 32:=dZ (p.drop 4)
def pQ(p:List (BitVec 8)):Nat:=pT (VX p).toNat
def Oh(p:List (BitVec 8)):BitVec 32:=dZ (p.drop (40+32*pQ p))
def pq(p:List (BitVec 8)):Nat:=hT (Oh p).toNat
def pR(p:List (BitVec 8)):List (BitVec 8):=(p.drop 4).take (36+32*pQ p)
def pcS(p:List (BitVec 8))(i:Nat):List (BitVec 8):=(p.drop (44+32*pQ p+32*i)).take 32
def GX(p:List (BitVec 8))(i:Nat):List (BitVec 8):=p.drop (44+32*pQ p+32*i)
def ku(p:List (BitVec 8))(n:Nat):List (List (BitVec 8)):=(List.range n).map (pcS p)
def eA(p:List (BitVec 8)):Int:=
 if p.length<8 then 2 else if vi (VX p).toNat=false then 6 else if p.length<44+32*pQ p then 2 else if KA (Oh p).toNat=false then 6
 else if p.length≠44+32*pQ p+32*pq p\/(zk p).toNat>>>pq p≠0 then 2 else 0
theorem Dr{p:List (BitVec 8)}(h:eA p=0):vi (VX p).toNat=true/\KA (Oh p).toNat=true/\p.length=44+32*pQ p+32*pq p/\(zk p).toNat>>>pq p=0:=by
 unfold eA at h
 split at h
 ·cases h
 split at h
 ·cases h
 split at h
 ·cases h
 split at h
 ·cases h
 split at h
 ·cases h
 rename_i h1 h2 h3 h4 h5
 refine⟨by simpa using h2,by simpa using h4,?_,?_⟩<;>omega
theorem Hh{t:Nat}(h:KA t=true):1<=hT t:=by
 unfold KA at h
 unfold hT
 simp only[aaq]at h
 split
 ·omega
 ·split<;>omega
noncomputable def Jq:Fn:=nv eP (λp=>decide (p.length<=1099511627776)) λp=>if eA p=0 then
  (.cd [.raw (u32 (zk p)),.sl L8 0 [] 0 (36+32*pQ p) false,.raw (u32 (Oh p)),.sl (.ar 32 L8) 1 [] 0 (pq p) false,.raw (it 0)],[some ⟨L8,bs (pR p)⟩,some ⟨.ar 32 L8,(ku p (pq p)).map aV⟩])
 else(.cd [.raw (u32 0#32),.raw (.slice none 0 0),.raw (u32 0#32),.raw (.slice none 0 0),.raw (it (eA p))],[])
theorem parts_ok(C CT:aU)(hC:aI C P)(h1:C.fn 268=some Jn)(h2:C.fn 48=some zj)(h3:C.fn 49=some nS)(h4:C.fn 284=some Og)(n5:C.fn 285=none)(r5:C.cV 285=some (aB CT 2 lK lJ)):
  aQ C.aZ P 267 (Fn.run Jq):=by
 refine cA (Qo C hC) λds rows r h=>?_
 obtain⟨d,p,rfl,rfl,hd,hp,rfl⟩:=bd h
 obtain⟨x,hx⟩:=cF hd
 refine⟨rfl,_,.cons hx .nil,ae rfl ?_⟩
 simp only[aaq]at hp
 clear h hx hd
 unfold F8 F9
 have mb:M2 284 [284]=true:=rfl
 by_cases hl:p.length<4
 ·have hq:eA p=2:=by unfold eA;rw[aaJ (by omega)]
  have c1:((p.length:Int)<4)=True:=aas (by omega)
  rw[hq,aaC (by decide)]
  simp only[↓ag,ah,simprocAttr,aK,aE,ii,n5,r5,lJ,lK,c1,mb,h4,tO]
  exact .val _ rfl
 have c1:((p.length:Int)<4)=False:=aaw (by omega)
 have g1:((4:Int)<=(p.length:Int))=True:=aas (by omega)
 have tk:(bs (p.drop 4)).take (p.length-4)=bs (p.drop 4):=aar (by rw[aE,aat];exact aax _)
 by_cases h8:p.length<8
 ·have hq:eA p=2:=by unfold eA;rw[aaJ h8]
  have c2:(((p.length-4:Nat):Int)<4)=True:=aas (by omega)
  rw[hq,aaC (by decide)]
  simp only[↓ag,ah,simprocAttr,aK,aE,ii,n5,r5,lJ,lK,c1,c2,g1,hU,tk,aat,mb,h4,tO]
  exact .val _ rfl
 have c2:(((p.length-4:Nat):Int)<4)=False:=aaw (by omega)
 have d4:4<=(p.drop 4).length:=by rw[aat];omega
 have kL:=λrows k e=>Jp rows k (p.drop 4) e d4
 have eo:dZ (p.drop 4)=VX p:=rfl
 have dC:∀x:Par,D.fits (.agg si [.raw (it (x.w:Int)),.raw (it (x.p:Int)),.raw (it (x.l:Int))]) si=true:=λx=>rfl
 rw[eo]at kL
 cases ho:vi (VX p).toNat with
 |false=>
  have hq:eA p=6:=by unfold eA;rw[aaC h8,aaJ ho]
  rw[hq,aaC (by decide)]
  simp only[↓ag,ah,simprocAttr,aK,aE,ii,n5,r5,lJ,lK,c1,c2,g1,hU,tk,aat,mb,h4,tO,h1,kL,h3,pi,kq,ho,dC,abT]
  exact .val _ rfl
 |true=>
 have hpt:pQ p<=265:=(mI ho).2.2.1
 have ep:((wX (VX p).toNat).p:Int)=((pQ p:Nat):Int):=rfl
 have q1:wz ((pQ p:Int)+1)=((pQ p+1:Nat):Int):=cG _ (by omega)
 have q2:wz (32*((pQ p+1:Nat):Int))=((32*(pQ p+1):Nat):Int):=by rw[bh (by omega)];omega
 have q3:wz (4+((32*(pQ p+1):Nat):Int))=((36+32*pQ p:Nat):Int):=by rw[bh (by omega)];omega
 simp only[↓ag,ah,simprocAttr,aK,aE,ii,n5,r5,lJ,lK,c1,c2,g1,hU,tk,aat,mb,h4,tO,h1,kL,h3,pi,kq,ho,dC,abw,ep,q1,q2,q3]
 have b0:∀n:Nat,((0:Int)<=(n:Int))=True:=λn=>aas (by omega)
 by_cases c:p.length-4<36+32*pQ p
 ·have hq:eA p=2:=by unfold eA;rw[aaC h8,aaC (by rw[ho];decide),aaJ (by omega)]
  have c3:(((p.length-4:Nat):Int)<((36+32*pQ p:Nat):Int))=True:=aas (by omega)
  rw[hq,aaC (by decide)]
  simp only[↓ag,ah,simprocAttr,aK,c3,mb,h4,tO]
  exact .val _ rfl
 have c3:(((p.length-4:Nat):Int)<((36+32*pQ p:Nat):Int))=False:=aaw (by omega)
 have c4:(((36+32*pQ p:Nat):Int)<=((p.length-4:Nat):Int))=True:=aas (by omega)
 have tk2:List.take (p.length-4-(36+32*pQ p)) (List.drop (36+32*pQ p) (List.drop 4 p))=p.drop (40+32*pQ p):=by
  rw[abr,aar (by rw[aat];omega)]
  congr 1;omega
 have tk1:List.take (36+32*pQ p) (List.drop 4 p)=pR p:=rfl
 by_cases h3':p.length<44+32*pQ p
 ·have hq:eA p=2:=by unfold eA;rw[aaC h8,aaC (by rw[ho];decide),aaJ h3']
  have c5:(((p.length-(40+32*pQ p):Nat):Int)<4)=True:=aas (by omega)
  rw[hq,aaC (by decide)]
  simp only[↓ag,ah,simprocAttr,aK,c3,c4,c5,b0,aE,aat,hU,fM,tk2,mb,h4,tO]
  exact .val _ rfl
 have c5:(((p.length-(40+32*pQ p):Nat):Int)<4)=False:=aaw (by omega)
 have d5:4<=(p.drop (40+32*pQ p)).length:=by rw[aat];omega
 have kT:=λrows k e=>Jp rows k (p.drop (40+32*pQ p)) e d5
 rw[show dZ (p.drop (40+32*pQ p))=Oh p from rfl]at kT
 cases hh:KA (Oh p).toNat with
 |false=>
  have hq:eA p=6:=by unfold eA;rw[aaC h8,aaC (by rw[ho];decide),aaC h3',aaJ hh]
  rw[hq,aaC (by decide)]
  simp only[↓ag,ah,simprocAttr,aK,c3,c4,c5,b0,aE,aat,hU,fM,tk2,mb,h4,tO,h1,kT,h2,Hg,hh,abT]
  exact .val _ rfl
 |true=>
 have O6:=Hh hh
 have hh2:=hT_le (Oh p).toNat
 have ehh:hT (Oh p).toNat=pq p:=rfl
 rw[ehh]at O6 hh2
 have d0:4<=(p.take 4).length:=by rw[aau];omega
 have kQ:=λrows k e=>Jp rows k (p.take 4) e d0
 rw[qR p 4 (aax _),show dZ p=zk p from rfl]at kQ
 have c6:((4:Int)<=((p.length-(40+32*pQ p):Nat):Int))=True:=aas (by omega)
 have c7:wz (32*((pq p:Nat):Int))=((32*pq p:Nat):Int):=by rw[bh (by omega)];omega
 have tk3:List.take (p.length-(40+32*pQ p)-4) (List.drop 4 (List.drop (40+32*pQ p) p))=p.drop (44+32*pQ p):=by
  rw[abr,aar (by rw[aat];omega)]
  congr 1;omega
 simp only[↓ag,ah,simprocAttr,aK,c3,c4,c5,c6,c7,b0,aE,aat,hU,fM,tk2,tk3,mb,h4,tO,h1,kT,kQ,h2,Hg,hh,ehh,abw]
 have bq:∀m:Nat,(zk p>>>m=0#32)↔(zk p).toNat>>>m=0:=λm=>by
  constructor
  ·intro h;have:=ach BitVec.toNat h;simpa using this
  ·intro h;apply aaL;simpa using h
 by_cases cl:p.length=44+32*pQ p+32*pq p
 rotate_left
 ·have hq:eA p=2:=by unfold eA;rw[aaC h8,aaC (by rw[ho];decide),aaC h3',aaC (by rw[hh];decide),aaJ (.inl cl)]
  have c8:(((p.length-(44+32*pQ p):Nat):Int)=((32*pq p:Nat):Int))=False:=aaw (by omega)
  rw[hq,aaC (by decide)]
  simp only[↓ag,ah,simprocAttr,aK,c8,mb,h4,tO]
  exact .val _ rfl
 have c8:(((p.length-(44+32*pQ p):Nat):Int)=((32*pq p:Nat):Int))=True:=aas (by omega)
 by_cases cq:(zk p).toNat>>>pq p=0
 rotate_left
 ·have hq:eA p=2:=by unfold eA;rw[aaC h8,aaC (by rw[ho];decide),aaC h3',aaC (by rw[hh];decide),aaJ (.inr cq)]
  have c9:(zk p>>>pq p=0#32)=False:=aaw (λh=>cq ((bq _).1 h))
  rw[hq,aaC (by decide)]
  simp only[↓ag,ah,simprocAttr,aK,c8,c9,b0,aaz,mb,h4,tO]
  exact .val _ rfl
 have hq:eA p=0:=by unfold eA;rw[aaC h8,aaC (by rw[ho];decide),aaC h3',aaC (by rw[hh];decide),aaC (by omega)]
 have c9:(zk p>>>pq p=0#32)=True:=aas ((bq _).2 cq)
 rw[aaJ hq]
 simp only[↓ag,ah,simprocAttr,aK,c8,c9,b0,aaz]
 have jt:∀i,i<pq p->(pcS p i).length=32:=λi hi=>by rw[pcS,aau,aat];omega
 have hds:∀i,(ku p i).map aV++[.agg (.ar 32 L8) (bs (pcS p i))]=(ku p (i+1)).map aV:=λi=>by simp[ku,abL,aV]
 have tR:∀i,(ku p i).length=i:=λi=>by simp[ku]
 have tk1':List.take (36+32*pQ p-0) (List.drop 4 p)=pR p:=rfl
 rw[tk1']
 generalize qB (some (((36+32*pQ p:Nat):Int))) (36+32*pQ p) (36+32*pQ p) (p.length-4) (qB none p.length p.length p.length x)=e12
 generalize qB none (p.length-(40+32*pQ p)) (p.length-(40+32*pQ p)) (p.length-(40+32*pQ p)) (qB none (p.length-4) (p.length-4) (p.length-4) (qB none p.length p.length p.length x))=e0
 have er:List.drop (44+32*pQ p) p=GX p 0:=rfl
 have yx:∀i,i<=pq p->(GX p i).length=32*(pq p-i):=λi hi=>by rw[GX,aat];omega
 have hrn:∀i,List.drop 32 (GX p i)=GX p (i+1):=λi=>by rw[GX,abr];rfl
 have hrt:∀i,List.take 32 (GX p i)=pcS p i:=λi=>rfl
 rw[er]
 refine bx (pq p) (λi env rows=>has env [(13,.raw (u32 (Oh p))),(15,.raw (u32 (zk p))),(8,.ptr .ref 0 [0]),(12,.dh L8 (bs (pR p)) e12)]/\
  (∃e,live rows 0=some ⟨.ref,[.dh L8 (bs (GX p i)) e]⟩)/\∃d',look env 16=some d'/\jy (.ar 32 L8) d' rows ((ku p i).map aV)/\(∀r ex n,d'= .sl (.ar 32 L8) r [] 0 n ex->1<=r)) ?_ ?_ ⟨?_,⟨e0,rfl⟩,.raw (.slice none 0 0),?_,.inl ⟨rfl,rfl⟩,λr ex n h=>?_⟩
 ·rintro i hi env rows ⟨hw,⟨e',r0⟩,d',h16,hO,hne⟩ R hR
  simp only[has]at hw
  have hl:=yx i (by omega)
  have hn:=hrn i
  have ht:=hrt i
  have qm:=jt i hi
  have hln:(GX p (i+1)).length=32*(pq p-i)-32:=by rw[yx _ (by omega)];omega
  have f0:((0:Int)<((32*(pq p-i):Nat):Int))=True:=aas (by omega)
  have f1:(((32*(pq p-i):Nat):Int)<32)=False:=aaw (by omega)
  have f2:((32:Int)<=((32*(pq p-i):Nat):Int))=True:=aas (by omega)
  have lt0:=aR r0
  have w0:=λy=>aD (y:=y) r0
  generalize 32*(pq p-i)=M at*
  have tkn:List.take (M-32) (GX p (i+1))=GX p (i+1):=aar (by omega)
  have tkp:List.take 32 (pcS p i)=pcS p i:=aar (by omega)
  generalize GX p i=X at*
  simp only[↓ag,ah,simprocAttr,aK,hw,h16,r0,w0,aE,hl,f0,f1,f2,hU,fM,ii,n5,r5,lJ,lK,b0,hn,ht,tkn,tkp,qm]
  have hL:∀A Y,live (rows.set 0 (some A)++[some Y]) rows.length=some Y:=λA Y=>by
   have:=v8 (rows.set 0 (some A)) Y
   simpa using this
  have hO1:∀A,jy (.ar 32 L8) d' (rows.set 0 (some A)) ((ku p i).map aV):=λA=>by
   rcases hO with h|⟨r,ex,rfl,h⟩
   ·exact .inl h
   ·exact .inr ⟨r,ex,rfl,dH h (by have:=hne _ _ _ rfl;omega)⟩
  simp only[↓ag,ah,simprocAttr,hL,List.take]
  refine yj (hO1 _).push (by rw[aaA,tR];simp[most];omega) (by rw[aaA,tR];simp[most];omega) λaa nA qJ yt=>?_
  rw[hds]at nA
  have r0':=qJ 0 _ (bG (w0 _)) (λex n e=>by have:=hne _ _ _ e;omega)
  have hlg:∀A:Row,(rows.set 0 (some A)++[some (⟨.ar 32 L8,[.agg (.ar 32 L8) (bs (pcS p i))]⟩:Row)]).length=rows.length+1:=λA=>by simp
  rw[hlg]at nA
  simp only[↓ag,ah,simprocAttr,aK,hw,hlg]
  refine hR _ _ ⟨by simp only[has,↓ag,ah,simprocAttr,hw],⟨_,r0'⟩,.sl (.ar 32 L8) (rows.length+1) [] 0 ((ku p i).length+1) false,by simp only[↓ag,ah,simprocAttr,aaA,hlg],.inr ⟨_,false,by rw[aaA,tR,tR],nA⟩,λr ex n e=>by injection e with _ e;omega⟩
 ·rintro env rows ⟨hw,⟨e',r0⟩,d',h16,hO,hne⟩ R
  simp only[has]at hw
  have hl:=yx (pq p) (aax _)
  rw[acj,Nat.mul_zero]at hl
  have RX:(pR p).length=36+32*pQ p:=by rw[pR,aau,aat];omega
  simp only[↓ag,ah,simprocAttr,aK,hw,h16,r0,aE,hl,hO.qc]
  refine⟨by rw[RX];omega,by rw[RX];omega,?_⟩
  rw[RX]
  have Bb:1<=(ku p (pq p)).length:=by rw[tR];exact O6
  rcases hO with⟨h,_⟩|⟨r,ex1,rfl,hlv⟩
  ·have:=ach List.length h;rw[aaA,aaV]at this;omega
  ·have hlt:=aR hlv
   rw[aaA,tR]
   have l1:live (rows++[none,some (⟨L8,bs (pR p)⟩:Row)]) (rows.length+1)=some ⟨L8,bs (pR p)⟩:=by rw[bg];rfl
   exact .own2 [.raw (u32 (zk p))] [.raw (u32 (Oh p))] [.raw (it 0)] L8 (.ar 32 L8) (rows.length+1) r 0 _ 0 _ false false ex1 false _ _ l1 (bG hlv) (by omega) rfl rfl rfl rfl rfl (λh=>h) (λh=>by cases h)
 ·simp only[has,↓ag,ah,simprocAttr]
 ·simp only[↓ag,ah,simprocAttr]
 ·cases h
theorem QO{p:List (BitVec 8)}(h:eA p=0):(pR p).length=36+32*pQ p:=by
 obtain⟨-,-,h,-⟩:=Dr h
 rw[pR,aau,aat];omega
theorem Mw(p:List (BitVec 8))(n:Nat):(ku p n).length=n:=by simp[ku]
theorem pathS_32{p:List (BitVec 8)}(h:eA p=0):∀x∈ku p (pq p),x.length=32:=by
 obtain⟨-,-,h,-⟩:=Dr h
 intro x hx
 obtain⟨i,hi,rfl⟩:=acL.1 hx
 have:=adq.1 hi
 rw[pcS,aau,aat];omega
theorem kParts(rows:Rows)(k:D->Rows->Prop)(d:D)(p:List (BitVec 8))(hd:aY rows d p)(hp:p.length<=1099511627776)(he:eA p=0):
  aG Jq rows k [d]=k (.cd [.raw (u32 (zk p)),.sl L8 (0+rows.length) [] 0 (36+32*pQ p) false,.raw (u32 (Oh p)),.sl (.ar 32 L8) (1+rows.length) [] 0 (pq p) false,.raw (it 0)])
   (rows++[some ⟨L8,bs (pR p)⟩,some ⟨.ar 32 L8,(ku p (pq p)).map aV⟩]):=by
 refine(cL (bY.bs hd) (by simpa using hp) (by simp only[aaJ he];rfl) k).trans ?_
 simp only[aaJ he]
 simp[shift,bD,af,Sh.pure]
theorem kPartsE(rows:Rows)(k:D->Rows->Prop)(d:D)(p:List (BitVec 8))(hd:aY rows d p)(hp:p.length<=1099511627776)(he:¬eA p=0):
  aG Jq rows k [d]=k (.cd [.raw (u32 0#32),.raw (.slice none 0 0),.raw (u32 0#32),.raw (.slice none 0 0),.raw (it (eA p))]) rows:=by
 refine(cL (bY.bs hd) (by simpa using hp) (by simp only[aaC he];rfl) k).trans ?_
 simp only[aaC he]
 simp[shift,bD,af]
def Gi(id:List (BitVec 8))(r:BitVec 32)(d x:List (BitVec 8)):List (BitVec 8):=if r&&&1#32=1#32 then uQ id (r>>>1) x d else uQ id (r>>>1) d x
theorem Yv(id:List (BitVec 8))(r:BitVec 32)(d x:List (BitVec 8)):(Gi id r d x).length=32:=by
 unfold Gi;split<;>exact Mv _ _ _ _
def dI(id:List (BitVec 8))(r:BitVec 32)(d:List (BitVec 8))(path:List (List (BitVec 8))):Nat->List (BitVec 8)
 |0=>d
 |i+1=>Gi id (r>>>i) (dI id r d path i) (path.getD i [])
theorem dI_len(id:List (BitVec 8))(r:BitVec 32)(d:List (BitVec 8))(path:List (List (BitVec 8)))(h:d.length=32):∀i,(dI id r d path i).length=32
 |0=>h
 |i+1=>Yv _ _ _ _
def Be(id:List (BitVec 8))(q:BitVec 32)(d:List (BitVec 8))(path:List (List (BitVec 8))):List (BitVec 8):=dI id (q+1#32<<<path.length) d path path.length
theorem shr_add(r:BitVec 32)(i:Nat):(r>>>i)>>>1=r>>>(i+1):=(BitVec.shiftRight_add r i 1).symm
theorem and1(r:BitVec 32):r %2#32=r&&&1#32:=by
 apply aaL
 rw[abC,aej]
 exact(adS r.toNat 1).symm
def O7(bA sig:List (BitVec 8)):Int:=
 if(fc bA).2≠0 then(fc bA).2 else if eA sig≠0 then eA sig else if Oh sig=(fc bA).1.t/\VX sig=(fc bA).1.o then 0 else 6
def rtS(bA msg sig:List (BitVec 8)):List (BitVec 8):=
 Be (fc bA).1.id (zk sig) (pP (fc bA).1.id (zk sig+1#32<<<pq sig) (sq ⟨(fc bA).1.id,zk sig⟩ (pR sig) msg)) (ku sig (pq sig))
theorem rtS_len(bA msg sig:List (BitVec 8)):(rtS bA msg sig).length=32:=dI_len _ _ _ _ (E7 _ _ _) _
theorem T4(s:Site)(p m:List (BitVec 8)):(sq s p m).length=32:=dk _
theorem QP(p:List (BitVec 8)):(fc p).1.id.length=16/\(fc p).1.root.length=32:=by
 unfold fc
 by_cases c:p.length=56
 ·simp only[c,aaD,aaU]
  cases KA (dZ p).toNat&&vi (dZ (p.drop 4)).toNat
  ·exact⟨rfl,rfl⟩
  ·simp only[aaU,keyOf,aau,aat];omega
 ·simp only[c,aaE,aaK];exact⟨rfl,rfl⟩
theorem Yw{p:List (BitVec 8)}(h:eA p=0):ij (pR p)=0:=by
 obtain⟨h1,h2,h3,h4⟩:=Dr h
 have hl:=QO h
 have hT:dU (pR p)=VX p:=by
  show dZ _=dZ _
  rw[pR,qR _ _ (by omega)]
 rw[ij,aaC (by omega),hT,h1,hl]
 show(if 36+32*pQ p=36+32*pQ p then(0:Int)else 2)=0
 rw[aaJ rfl]
theorem one_T{p:List (BitVec 8)}:dZ (pR p)=VX p:=by rw[pR,qR _ _ (by omega)];rfl
noncomputable def VY:Fn:=Kx eP eP eP (λa b c=>decide (a.length<=1099511627776)&&decide (b.length<=1099511627776)&&decide (c.length<=1099511627776)) λa b c=>
 (.cd [aV (if O7 a c=0 then rtS a b c else sO),.raw (it (O7 a c))],[])
theorem root_ok(C:aU)(hC:aI C P)(h1:C.fn 249=some Jo)(h2:C.fn 267=some Jq)(h3:C.fn 268=some Jn)(h4:C.fn 269=some Of)(h5:C.fn 53=some QM)(h6:C.fn 54=some QN):aQ C.aZ P 248 (Fn.run VY):=by
 refine cA (Tx C hC) λds rows r h=>?_
 obtain⟨d0,d1,d2,bA,msg,sig,rfl,rfl,g0,g1,g2,hp,rfl⟩:=fV h
 obtain⟨x0,hx0⟩:=cF g0
 obtain⟨x1,rq⟩:=cF g1
 obtain⟨x2,FG⟩:=cF g2
 simp only[aan,aaq]at hp
 obtain⟨⟨hp0,Bb⟩,qL⟩:=hp
 refine⟨rfl,_,.cons hx0 (.cons rq (.cons FG .nil)),ae rfl ?_⟩
 clear h g0 g1 g2 hx0 rq FG
 unfold I0 I2
 have bL:=λ(rows:Rows) (l:List (BitVec 8)) (e:Bool)=>(eC.to (rows:=rows) (d:= .dh L8 (bs l) e) (.inr ⟨e,rfl⟩))
 have kR:=λrows k=>kReadK rows k _ bA (bL rows bA x0) hp0
 have hz:D.agg K5 [.raw (u32 0#32),.raw (u32 0#32),.agg (.ar 16 L8) (List.replicate 16 (.raw (u8 0#8))),.agg (.ar 32 L8) (List.replicate 32 (.raw (u8 0#8)))]=E6 Yu:=rfl
 have nT:∀k,(E6 k).fits K5=true:=λ_=>rfl
 simp only[hz,eu]
 have iv:=(QP bA).1
 have hE:=readS_le bA
 by_cases c0:(fc bA).2=0
 rotate_left
 ·have e:O7 bA sig=(fc bA).2:=by rw[O7,aaJ c0]
  have c0':=aaw c0
  rw[e,aaC c0]
  simp only[↓ag,ah,simprocAttr,aK,h1,kR,nT,c0']
  exact .val _ rfl
 have hne:¬(fc bA).2≠0:=by simp[c0]
 by_cases c1:eA sig=0
 rotate_left
 ·have e:O7 bA sig=eA sig:=by rw[O7,aaC hne,aaJ c1]
  have kP:=λrows k=>kPartsE rows k _ sig (bL rows sig x2) qL c1
  have O8:=aaw c1
  rw[e,aaC c1]
  simp only[↓ag,ah,simprocAttr,aK,h1,kR,nT,c0,h2,kP,O8]
  exact .val _ rfl
 have kP:=λrows k=>kParts rows k _ sig (bL rows sig x2) qL c1
 have RX:=QO c1
 have hot:=@one_T sig
 have gt:∀k:Key,(E6 k).get [0]=some (.raw (u32 k.t)):=λ_=>rfl
 have go:∀k:Key,(E6 k).get [1]=some (.raw (u32 k.o)):=λ_=>rfl
 have gi:∀k:Key,(E6 k).get [2]=some (.agg (.ar 16 L8) (bs k.id)):=λ_=>rfl
 have hl4:4<=(pR sig).length:=by omega
 have hlh:=hT_le (Oh sig).toNat
 rw[show hT (Oh sig).toNat=pq sig from rfl]at hlh
 have qm:=Mw sig (pq sig)
 have hp32:=pathS_32 c1
 have hrt:Oh sig=(fc bA).1.t/\VX sig=(fc bA).1.o->O7 bA sig=0:=λh=>by rw[O7,aaC hne,aaC (by simp[c1]),aaJ h]
 have hrn:¬(Oh sig=(fc bA).1.t/\VX sig=(fc bA).1.o)->O7 bA sig=6:=λh=>by rw[O7,aaC hne,aaC (by simp[c1]),aaC h]
 have hsp:=Yw c1
 have hrS:rtS bA msg sig=Be (fc bA).1.id (zk sig) (pP (fc bA).1.id (zk sig+1#32<<<pq sig) (sq ⟨(fc bA).1.id,zk sig⟩ (pR sig) msg)) (ku sig (pq sig)):=rfl
 rw[hrS]
 have hE0:(fc bA).2=0:=c0
 rw[hE0]at kR
 clear hE c0 hne hE0
 generalize (fc bA).1=K at*
 by_cases ht:Oh sig=K.t
 rotate_left
 ·have e:=hrn (λh=>ht h.1)
  have AO:=aaw ht
  rw[e,aaC (by decide)]
  simp only[↓ag,ah,simprocAttr,aK,h1,kR,nT,h2,kP,h3,gt,AO]
  exact .val _ rfl
 have AO:=aas ht
 have kN:=λrows k hd=>kLNum rows k (.sl L8 2 [] 0 (36+32*pQ sig) false) (pR sig) hd hl4
 rw[hot]at kN
 have kN0:=λk=>kN [some ⟨.ar 32 L8,[.agg (.ar 32 L8) (bs sO)]⟩,some ⟨K5,[E6 K]⟩,some ⟨L8,bs (pR sig)⟩,some ⟨.ar 32 L8,(ku sig (pq sig)).map aV⟩] k (aY.own rfl _ RX.symm)
 by_cases ho:VX sig=K.o
 rotate_left
 ·have e:=hrn (λh=>ho h.2)
  have PF:=aaw ho
  rw[e,aaC (by decide)]
  simp only[↓ag,ah,simprocAttr,aK,h1,kR,nT,h2,kP,h3,gt,go,AO,PF,kN0]
  exact .val _ rfl
 have PF:=aas ho
 have e:=hrt ⟨ht,ho⟩
 rw[e,aaJ rfl]
 have jt:=T4 ⟨K.id,zk sig⟩ (pR sig) msg
 simp only[↓ag,ah,simprocAttr,aK,h1,kR,nT,h2,kP,h3,gt,go,gi,AO,PF,kN0,h4]
 refine Eq.mpr (kClaim _ _ ⟨K.id,zk sig⟩ _ _ (pR sig) msg (aY.own rfl _ RX.symm) (bL _ msg x1) iv (by have:=(Dr c1).2.2.1;omega) hsp) ?_
 have b0:∀n:Nat,((0:Int)<=(n:Int))=True:=λn=>aas (by omega)
 generalize sq ⟨K.id,zk sig⟩ (pR sig) msg=CL at*
 simp only[↓ag,ah,simprocAttr,aK,gi,b0,aaz,h5,kLeaf _ _ _ _ _ iv jt]
 have tR:=dI_len K.id (zk sig+1#32<<<pq sig) (pP K.id (zk sig+1#32<<<pq sig) CL) (ku sig (pq sig)) (E7 _ _ _)
 have hcs:Be K.id (zk sig) (pP K.id (zk sig+1#32<<<pq sig) CL) (ku sig (pq sig))=dI K.id (zk sig+1#32<<<pq sig) (pP K.id (zk sig+1#32<<<pq sig) CL) (ku sig (pq sig)) (pq sig):=by rw[Be,qm]
 rw[hcs]
 have hd0:pP K.id (zk sig+1#32<<<pq sig) CL=dI K.id (zk sig+1#32<<<pq sig) (pP K.id (zk sig+1#32<<<pq sig) CL) (ku sig (pq sig)) 0:=rfl
 generalize pP K.id (zk sig+1#32<<<pq sig) CL=L0 at*
 generalize zk sig+1#32<<<pq sig=R0 at*
 generalize hN:pq sig=N at*
 generalize ku sig N=l at*
 refine bx N (λi env rows=>has env [(77,.raw (it (i:Int))),(76,.raw (it (N:Int))),(75,.sl (.ar 32 L8) 3 [] 0 N false),(16,.raw (u32 (R0>>>i))),(8,.ptr K5 1 [0]),(17,.ptr (.ar 32 L8) 5 [0]),(6,.ptr (.ar 32 L8) 0 [0])]/\
  live rows 0=some ⟨.ar 32 L8,[.agg (.ar 32 L8) (bs sO)]⟩/\live rows 1=some ⟨K5,[E6 K]⟩/\live rows 3=some ⟨.ar 32 L8,l.map aV⟩/\live rows 5=some ⟨.ar 32 L8,[.agg (.ar 32 L8) (bs (dI K.id R0 L0 l i))]⟩) ?_ ?_ ⟨?_,rfl,rfl,rfl,rfl⟩
 ·rintro i hi env rows ⟨hh,r0,r1,r3,r5⟩ R hR
  simp only[has]at hh
  have e0:((i:Int)<(N:Int))=True:=aas (by omega)
  have e1:=cG i (by omega)
  have pY:i<l.length:=by omega
  have FK:=hp32 _ (abJ pY)
  have g:(l.map aV)[i]?=some (.agg (.ar 32 L8) (bs l[i])):=by simp[aV,pY]
  have hcl2:=tR i
  have hn:dI K.id R0 L0 l (i+1)=Gi K.id (R0>>>i) (dI K.id R0 L0 l i) l[i]:=by
   show Gi _ _ _ (l.getD i [])=_
   simp[List.getD,pY]
  have lt0:=aR r0
  have lt1:=aR r1
  have lt3:=aR r3
  have lt5:=aR r5
  rw[hn]at hR
  generalize l[i]=x at*
  generalize dI K.id R0 L0 l i=dc at*
  have r1A:=λL=>ab r1 L
  have r5A:=λL=>ab r5 L
  have hs:=shr_add R0 i
  have hst:Gi K.id (R0>>>i) dc x=if R0>>>i&&&1#32=1#32 then uQ K.id (R0>>>(i+1)) x dc else uQ K.id (R0>>>(i+1)) dc x:=by rw[Gi,hs]
  have s1:(1#64).toNat=1:=rfl
  by_cases hb:(R0>>>i&&&1#32=1#32)
  ·rw[hst,aaJ hb]at hR
   have eb:=aas hb
   simp only[↓ag,ah,simprocAttr,aK,hh,e0,e1,b0,g,r3,r1A,r5A,gi,s1,hs,eb,h6,kNode _ _ _ _ _ _ iv FK hcl2]
   refine hR _ _ ⟨by simp only[has,↓ag,ah,simprocAttr,hh],?_,?_,?_,?_⟩
   ·rw[aA (by omega)];exact bG r0
   ·rw[aA (by omega)];exact bG r1
   ·rw[aA (by omega)];exact bG r3
   ·exact aD (bG r5)
  ·rw[hst,aaC hb]at hR
   have eb:=aaw hb
   simp only[↓ag,ah,simprocAttr,aK,hh,e0,e1,b0,g,r3,r1A,r5A,gi,s1,hs,eb,h6,kNode _ _ _ _ _ _ iv hcl2 FK]
   refine hR _ _ ⟨by simp only[has,↓ag,ah,simprocAttr,hh],?_,?_,?_,?_⟩
   ·rw[aA (by omega)];exact bG r0
   ·rw[aA (by omega)];exact bG r1
   ·rw[aA (by omega)];exact bG r3
   ·exact aD (bG r5)
 ·rintro env rows ⟨hh,r0,r1,r3,r5⟩ R
  simp only[has]at hh
  have e0:((N:Int)<(N:Int))=False:=aaw (by omega)
  have w1:=λx=>aD (y:=x) r0
  simp only[↓ag,ah,simprocAttr,aK,hh,e0,r5,r0,w1]
  exact .val _ rfl
 ·have e:R0>>>0=R0:=by simp
  rw[e]
  simp only[has,↓ag,ah,simprocAttr]
theorem kRoot(rows:Rows)(k:D->Rows->Prop)(d0 d1 d2:D)(a b c:List (BitVec 8))(h0:aY rows d0 a)(h1:aY rows d1 b)(h2:aY rows d2 c)(ha:a.length<=1099511627776)(hb:b.length<=1099511627776)(hc:c.length<=1099511627776):
  aG VY rows k [d0,d1,d2]=k (.cd [.agg (.ar 32 L8) (bs (if O7 a c=0 then rtS a b c else sO)),.raw (it (O7 a c))]) rows:=by
 refine(gP (.bs h0) (.bs h1) (.bs h2) (by simp[ha,hb,hc]) rfl k).trans ?_
 simp[aV,shift,bD,af,Sh.pure]
def wY(bA msg sig:List (BitVec 8)):Int:=if O7 bA sig=0 then(if rtS bA msg sig=(fc bA).1.root then 0 else 5)else O7 bA sig
noncomputable def Ds:Fn:=Kx eP eP eP (λa b c=>decide (a.length<=1099511627776)&&decide (b.length<=1099511627776)&&decide (c.length<=1099511627776)) λa b c=>(.raw (it (wY a b c)),[])
theorem Yx(C:aU)(hC:aI C P)(h1:C.fn 249=some Jo)(h2:C.fn 248=some VY):aQ C.aZ P 212 (Fn.run Ds):=by
 refine cA (NJ C hC) λds rows r h=>?_
 obtain⟨d0,d1,d2,bA,msg,sig,rfl,rfl,g0,g1,g2,hp,rfl⟩:=fV h
 obtain⟨x0,hx0⟩:=cF g0
 obtain⟨x1,rq⟩:=cF g1
 obtain⟨x2,FG⟩:=cF g2
 simp only[aan,aaq]at hp
 obtain⟨⟨hp0,Bb⟩,qL⟩:=hp
 refine⟨rfl,_,.cons hx0 (.cons rq (.cons FG .nil)),ae rfl ?_⟩
 clear h g0 g1 g2 hx0 rq FG
 unfold CN CP
 have bL:=λ(rows:Rows) (l:List (BitVec 8)) (e:Bool)=>(eC.to (rows:=rows) (d:= .dh L8 (bs l) e) (.inr ⟨e,rfl⟩))
 have hz:D.agg K5 [.raw (u32 0#32),.raw (u32 0#32),.agg (.ar 16 L8) (List.replicate 16 (.raw (u8 0#8))),.agg (.ar 32 L8) (List.replicate 32 (.raw (u8 0#8)))]=E6 Yu:=rfl
 have nT:∀k,(E6 k).fits K5=true:=λ_=>rfl
 have gr:∀k:Key,(E6 k).get [3]=some (.agg (.ar 32 L8) (bs k.root)):=λ_=>rfl
 have kR:=λrows k=>kReadK rows k _ bA (bL rows bA x0) hp0
 have kT:=λrows k=>kRoot rows k _ _ _ bA msg sig (bL rows bA x0) (bL rows msg x1) (bL rows sig x2) hp0 Bb qL
 simp only[hz,eu]
 by_cases c0:O7 bA sig=0
 ·have e:=rtS_len bA msg sig
  have e2:=(QP bA).2
  have eq:=N4 (rtS bA msg sig) (fc bA).1.root e e2
  have hv:wY bA msg sig=if rtS bA msg sig=(fc bA).1.root then 0 else 5:=by rw[wY,aaJ c0]
  rw[hv]
  simp only[c0,abR]at kT
  by_cases c1:rtS bA msg sig=(fc bA).1.root
  ·rw[aaJ c1]
   rw[abA c1]at eq
   simp only[↓ag,ah,simprocAttr,aK,h1,kR,nT,h2,kT,gr,eq]
   exact .val _ rfl
  ·rw[aaC c1]
   rw[aa7 c1]at eq
   simp only[↓ag,ah,simprocAttr,aK,h1,kR,nT,h2,kT,gr,eq]
   exact .val _ rfl
 ·have hv:wY bA msg sig=O7 bA sig:=by rw[wY,aaC c0]
  have c0':=aaw c0
  rw[hv]
  simp only[↓ag,ah,simprocAttr,aK,h1,kR,nT,h2,kT,gr,c0']
  exact .val _ rfl
theorem kVerify(rows:Rows)(k:D->Rows->Prop)(d0 d1 d2:D)(a b c:List (BitVec 8))(h0:aY rows d0 a)(h1:aY rows d1 b)(h2:aY rows d2 c)(ha:a.length<=1099511627776)(hb:b.length<=1099511627776)(hc:c.length<=1099511627776):
  aG Ds rows k [d0,d1,d2]=k (.raw (it (wY a b c))) rows:=by
 refine(gP (.bs h0) (.bs h1) (.bs h2) (by simp[ha,hb,hc]) rfl k).trans ?_
 simp[shift,af]
abbrev ik:Sh:=Sb
abbrev lq:Sh:=S20
abbrev QQ:Sh:=S15
abbrev yz:Sh:=pX LS LB
abbrev yA:Sh:=pX QQ LI
structure qV where
 t:BitVec 32
 o:BitVec 32
 id:List (BitVec 8)
 aM:List (BitVec 8)
 ns:List (List (BitVec 8))
 en:Bool
 nx:BitVec 32
 sm:List D
 tm:List D
 ld:D
def zm(s:qV):D:= .cb (.agg ik [.raw (u32 s.t),.raw (u32 s.o),.agg (.ar 16 L8) (bs s.id),.agg (.ar 32 L8) (bs s.aM),.dh (.ar 32 L8) (s.ns.map aV) s.en,.raw (u32 s.nx),.om yz s.sm,.om yA s.tm,s.ld])
theorem Gj:∀{a b:List (List (BitVec 8))},a.map aV=b.map aV->a=b
 |[],[],_=>rfl
 |[],_::_,h=>by simp at h
 | _::_,[],h=>by simp at h
 |x::a,y::b,h=>by
  simp only[abm,abS]at h
  rw[Dh x y h.1,Gj h.2]
theorem Hi(x y:qV)(h:zm x=zm y):x=y:=by
 obtain⟨t,o,id,aM,ns,en,nx,sm,tm,ld⟩:=x
 obtain⟨t',o',id',seed',ns',en',nx',sm',tm',ld'⟩:=y
 simp only[zm,D.cb.injEq,D.agg.injEq,abS,D.raw.injEq,D.dh.injEq,D.om.injEq,abf,acW]at h
 obtain⟨h1,h2,h3,h4,⟨h5,h6⟩,h7,h8,h9,h10⟩:=h
 rw[zg h1,zg h2,yg h3,yg h4,Gj h5,h6,zg h7,h8,h9,h10]
def jq(s:qV):Nat:=s.ns.length/2
def ob(s:qV):Bool:=decide (s.id.length=16)&&decide (s.aM.length=32)&&Ml s.ns&&decide (4<=s.ns.length)&&decide (s.ns.length<=2048)&&decide (s.ns.length %2=0)&&!bb s.ld
theorem fy{s:qV}:ob s=true↔s.id.length=16/\s.aM.length=32/\(∀x∈s.ns,x.length=32)/\4<=s.ns.length/\s.ns.length<=2048/\s.ns.length %2=0/\bb s.ld=false:=by
 simp only[ob,aan,aaq,uM,acH]
 constructor
 ·rintro⟨⟨⟨⟨⟨⟨h1,h2⟩,h3⟩,h4⟩,h5⟩,h6⟩,h7⟩;exact⟨h1,h2,h3,h4,h5,h6,h7⟩
 ·rintro⟨h1,h2,h3,h4,h5,h6,h7⟩;exact⟨⟨⟨⟨⟨⟨h1,h2⟩,h3⟩,h4⟩,h5⟩,h6⟩,h7⟩
theorem E8{s:qV}(h:bb s.ld=false):bb (zm s)=false:=by
 simp[zm,bb,aX,Sh.pure,h]
noncomputable def tw:Fn:=nv (cj zm) ob λs=>(.raw (it (jq s:Int)),[])
theorem Yy(C:aU)(hC:aI C P):aQ C.aZ P 50 (Fn.run tw):=by
 refine aJ (zB C hC) λds rows r h=>?_
 obtain⟨d,s,rfl,rfl,hd,hp,rfl⟩:=bd h
 cases aH hd
 obtain⟨iv,ri,uO,TY,hn,yV,LJ⟩:=fy.1 hp
 refine⟨rfl,ae rfl ?_⟩
 clear h hd
 unfold qs qt
 have e1:((s.ns.length:Nat):Int).tdiv 2=((jq s:Nat):Int):=rfl
 have e2:wz ((jq s:Nat):Int)=((jq s:Nat):Int):=bh (by unfold jq;omega)
 simp only[zm,↓ag,ah,simprocAttr,aK,aaA,e1,e2]
 exact .val _ rfl
theorem kLeavesV(rows:Rows)(k:D->Rows->Prop)(d:D)(s:qV)(h:bY rows (cj zm) d s)(hp:ob s=true):aG tw rows k [d]=k (.raw (it (jq s:Int))) rows:=by
 refine(cL h hp rfl k).trans ?_
 simp[shift,af]
theorem Jr(rows:Rows)(k:D->Rows->Prop)(s:qV)(hp:ob s=true):aG tw rows k [zm s]=k (.raw (it (jq s:Int))) rows:=by
 refine(bk (by simp[aX,E8 (fy.1 hp).2.2.2.2.2.2]) (fa (bZ Hi s) hp)).trans ?_
 simp[shift,af]
noncomputable def Js:Fn:=zy (cj zm) ry (λs _=>ob s) λs q=>(fJ ⟨s.id,q⟩,[])
theorem site_ok(C:aU)(hC:aI C P):aQ C.aZ P 52 (Fn.run Js):=by
 refine aJ (Cb C hC) λds rows r h=>?_
 obtain⟨d,d2,s,q,rfl,rfl,hd,xu,hp,rfl⟩:=dS h
 cases aH hd
 cases dY xu
 obtain⟨iv,ri,uO,TY,hn,yV,LJ⟩:=fy.1 hp
 refine⟨rfl,ae rfl ?_⟩
 clear h hd xu
 unfold s3 s5
 have hz:D.agg yo [.agg (.ar 16 L8) (List.replicate 16 (.raw (u8 0#8))),.raw (u32 0#32)]=fJ ⟨List.replicate 16 0#8,0#32⟩:=rfl
 simp only[hz]
 simp only[zm,↓ag,ah,simprocAttr,aK,ey]
 exact .val _ rfl
theorem kSiteV(rows:Rows)(k:D->Rows->Prop)(d:D)(s:qV)(q:BitVec 32)(h:bY rows (cj zm) d s)(hp:ob s=true):aG Js rows k [d,.raw (u32 q)]=k (fJ ⟨s.id,q⟩) rows:=by
 refine(lY h (bY.raw (fL q)) hp rfl k).trans ?_
 simp[fJ,shift,af,Sh.pure]
theorem kSiteC(rows:Rows)(k:D->Rows->Prop)(s:qV)(q:BitVec 32)(hp:ob s=true):aG Js rows k [zm s,.raw (u32 q)]=k (fJ ⟨s.id,q⟩) rows:=by
 refine(bk (by simp[aX,E8 (fy.1 hp).2.2.2.2.2.2,bb]) (lF (bZ Hi s) (fL q) hp)).trans ?_
 simp[fJ,shift,af,Sh.pure]
noncomputable def VZ:Fn:=nv (cj zm) ob λs=>(.raw (it ((jq s:Int)-(s.nx.toNat:Int))),[])
theorem left_ok(C:aU)(hC:aI C P)(h1:C.fn 50=some tw):aQ C.aZ P 74 (Fn.run VZ):=by
 refine aJ (Ce C hC) λds rows r h=>?_
 obtain⟨d,s,rfl,rfl,hd,hp,rfl⟩:=bd h
 cases aH hd
 obtain⟨iv,ri,uO,TY,hn,yV,LJ⟩:=fy.1 hp
 refine⟨rfl,ae rfl ?_⟩
 clear h hd
 unfold s6 s7
 have kL:=λrows k=>Jr rows k s hp
 have hx:=s.nx.isLt
 have e2:wz ((jq s:Int)-(s.nx.toNat:Int))=(jq s:Int)-(s.nx.toNat:Int):=bh (by unfold jq;omega)
 simp only[zm]at kL
 simp only[zm,↓ag,ah,simprocAttr,aK,h1,kL,e2]
 exact .val _ rfl
theorem kLeftV(rows:Rows)(k:D->Rows->Prop)(d:D)(s:qV)(h:bY rows (cj zm) d s)(hp:ob s=true):aG VZ rows k [d]=k (.raw (it ((jq s:Int)-(s.nx.toNat:Int)))) rows:=by
 refine(cL h hp rfl k).trans ?_
 simp[shift,af]
def dP(s:qV):List (BitVec 8):=bz s.t++bz s.o++s.id++s.ns.getD 1 []
theorem o5{s:qV}(hp:ob s=true):(dP s).length=56:=by
 obtain⟨iv,ri,uO,TY,hn,yV,LJ⟩:=fy.1 hp
 have:=uO _ (abJ (show 1<s.ns.length by omega))
 have e:s.ns.getD 1 []=s.ns[1]'(by omega):=by simp[List.getD,show 1<s.ns.length by omega]
 rw[dP,e]
 simp only[aap,this,iv]
 rfl
theorem sg_n1{s:qV}(hp:ob s=true):(s.ns.map aV)[1]?=some (.agg (.ar 32 L8) (bs (s.ns.getD 1 [])))/\(s.ns.getD 1 []).length=32:=by
 obtain⟨iv,ri,uO,TY,hn,yV,LJ⟩:=fy.1 hp
 have:=uO _ (abJ (show 1<s.ns.length by omega))
 have e:s.ns.getD 1 []=s.ns[1]'(by omega):=by simp[List.getD,show 1<s.ns.length by omega]
 rw[e]
 exact⟨by simp[aV,show 1<s.ns.length by omega],this⟩
noncomputable def uR:Fn:=nv (cj zm) ob λs=>eR (dP s) false
theorem T5(C:aU)(hC:aI C P)(h1:C.fn 67=some Au):aQ C.aZ P 22 (Fn.run uR):=by
 refine aJ (zA C hC) λds rows r h=>?_
 obtain⟨d,s,rfl,rfl,hd,hp,rfl⟩:=bd h
 cases aH hd
 obtain⟨iv,ri,uO,TY,hn,yV,LJ⟩:=fy.1 hp
 refine⟨rfl,ae rfl ?_⟩
 clear h hd
 unfold qp qq
 obtain⟨g1,zw⟩:=sg_n1 hp
 have b1:((1:Int)<(s.ns.length:Int))=True:=aas (by omega)
 have w4:∀x:BitVec 32,List.take 4 (bs (bz x))=bs (bz x):=λx=>aar (aax _)
 have l4:∀x:BitVec 32,(bs (bz x)).length=4:=λx=>rfl
 have i16:List.take 16 (bs s.id)=bs s.id:=aar (by rw[aE,iv];exact aax _)
 have l16:(bs s.id).length=16:=by rw[aE,iv]
 have n32:List.take 32 (bs (s.ns.getD 1 []))=bs (s.ns.getD 1 []):=aar (by rw[aE,zw];exact aax _)
 have ln:(bs (s.ns.getD 1 [])).length=32:=by rw[aE,zw]
 have t8:List.take 8 (bs (bz s.t++bz s.o))=bs (bz s.t++bz s.o):=aar (aax _)
 have l8:(bs (bz s.t++bz s.o)).length=8:=rfl
 have l24:(bs (bz s.t++(bz s.o++s.id))).length=24:=by rw[aE,aap,aap,iv];rfl
 have t24:List.take 24 (bs (bz s.t++(bz s.o++s.id)))=bs (bz s.t++(bz s.o++s.id)):=aar (by rw[l24];exact aax _)
 simp only[zm,↓ag,ah,simprocAttr,aK,h1,QD,w4,l4,i16,l16,t8,l8,t24,l24,n32,ln,g1,b1,qe,aaA]
 have e:bs (bz s.t++(bz s.o++(s.id++s.ns.getD 1 [])))=bs (dP s):=by rw[dP];simp only[aaB]
 show xE _ _ (.sl L8 0 [] 0 (dP s).length false) [some ⟨L8,bs (dP s)⟩]
 rw[o5 hp,e]
 exact .own L8 4 0 56 false false ⟨L8,bs (dP s)⟩ rfl rfl (λh=>h)
theorem QR(rows:Rows)(k:D->Rows->Prop)(d:D)(s:qV)(h:bY rows (cj zm) d s)(hp:ob s=true):aG uR rows k [d]=k (.sl L8 (0+rows.length) [] 0 56 false) (rows++[some ⟨L8,bs (dP s)⟩]):=by
 refine(cL h hp rfl k).trans ?_
 simp[eR,shift,af,Sh.pure,o5 hp]
theorem xor1(r:Nat):r^^^1=if r %2=0 then r+1 else r-1:=by
 have h1:(r^^^1)/2=r/2:=by
  have:=Nat.xor_div_two_pow (a:=r) (b:=1) (n:=1)
  simpa using this
 have h2:(r^^^1) %2=(r+1) %2:=by
  have:=Nat.xor_mod_two_pow (a:=r) (b:=1) (n:=1)
  rw[Nat.pow_one]at this
  rw[this]
  have e0:(0:Nat)^^^1 %2=1:=rfl
  have e1:(1:Nat)^^^1 %2=0:=rfl
  rcases Nat.mod_two_eq_zero_or_one r with h|h<;>rw[h]
  ·rw[e0];omega
  ·rw[e1];omega
 split<;>omega
theorem xor_it(r:Nat)(h:r<4611686018427387904)(k:D->Prop):cm .xor (it (r:Int)) (it 1) k=k (.raw (it ((r^^^1:Nat):Int))):=by
 have e1:BitVec.ofInt IntKind.i64.bits (r:Int)=BitVec.ofNat 64 r:=abb _ _
 have e2:BitVec.ofInt IntKind.i64.bits (1:Int)=BitVec.ofNat 64 1:=rfl
 have hx:r^^^1<9223372036854775808:=by have:=xor1 r;split at this<;>omega
 have e3:(BitVec.ofNat 64 r^^^BitVec.ofNat 64 1).toNat=r^^^1:=by
  rw[BitVec.toNat_xor,aa2,aa2,abo (by omega)]
 simp only[cm,it,abf]
 rw[e1,e2]
 show k (.raw (.int .i64 (wz (((BitVec.ofNat 64 r^^^BitVec.ofNat 64 1).toNat:Nat):Int))))=_
 rw[e3,bh (by omega)]
def ie(s:qV)(q:Nat):Nat:=Nat.log2 (jq s+q)
def qg(s:qV)(q i:Nat):List (BitVec 8):=s.ns.getD (((jq s+q)/2^i)^^^1) []
def nU(s:qV)(q:Nat):List (List (BitVec 8)):=(List.range (ie s q)).map (qg s q)
theorem uS(s:qV)(q:Nat):(nU s q).length=ie s q:=by simp[nU]
theorem QS{s:qV}(hp:ob s=true){q:Nat}(hq:q<jq s)(i:Nat):(s.ns.map aV)[((jq s+q)/2^i)^^^1]?=some (.agg (.ar 32 L8) (bs (qg s q i)))/\(qg s q i).length=32/\((jq s+q)/2^i)^^^1<s.ns.length:=by
 obtain⟨iv,ri,uO,TY,hn,yV,LJ⟩:=fy.1 hp
 have hr:(jq s+q)/2^i<=jq s+q:=adB _ _
 have hl:jq s+q<s.ns.length:=by unfold jq at*;omega
 have hx:=xor1 ((jq s+q)/2^i)
 have hlt:((jq s+q)/2^i)^^^1<s.ns.length:=by split at hx<;>omega
 have e:qg s q i=s.ns[((jq s+q)/2^i)^^^1]:=by simp[qg,List.getD,hlt]
 rw[e]
 exact⟨by simp[aV,hlt],uO _ (abJ hlt),hlt⟩
theorem Jt{s:qV}(hp:ob s=true){q:Nat}(hq:q<jq s):∀x∈nU s q,x.length=32:=by
 intro x hx
 obtain⟨i,_,rfl⟩:=acL.1 hx
 exact(QS hp hq i).2.1
noncomputable def V0:Fn:=zy (cj zm) ry (λs _=>ob s) λs q=>if q.toNat<jq s then(.sl (.ar 32 L8) 0 [] 0 (ie s q.toNat) false,[some ⟨.ar 32 L8,(nU s q.toNat).map aV⟩])else(.raw (.slice none 0 0),[])
theorem Yz{s:qV}(hp:ob s=true)(q:Nat):1<=ie s q:=by
 obtain⟨iv,ri,uO,TY,hn,yV,LJ⟩:=fy.1 hp
 have:jq s+q≠0:=by unfold jq;omega
 exact(Nat.le_log2 this).2 (by unfold jq;omega)
theorem path_ok(C:aU)(hC:aI C P)(h1:C.fn 50=some tw):aQ C.aZ P 137 (Fn.run V0):=by
 refine aJ (Cq C hC) λds rows r h=>?_
 obtain⟨d,d2,s,q,rfl,rfl,hd,xu,hp,rfl⟩:=dS h
 cases aH hd
 cases dY xu
 obtain⟨iv,ri,uO,TY,hn,yV,LJ⟩:=fy.1 hp
 refine⟨rfl,ae rfl ?_⟩
 clear h hd xu
 unfold tc td
 have kL:=λrows k=>Jr rows k s hp
 simp only[zm]at kL
 have hq32:=q.isLt
 have hlv:jq s<=1024:=by unfold jq;omega
 have hcv:BitVec.ofInt 64 ((jq s:Nat):Int)=BitVec.ofNat 64 (jq s):=abb _ _
 by_cases hq:q.toNat<jq s
 rotate_left
 ·have c1:(BitVec.ofNat 64 (jq s)<=q.setWidth 64)=True:=aas (by rw[abx,aa2,abF];omega)
  rw[aaC hq]
  simp only[zm,↓ag,ah,simprocAttr,aK,h1,kL,hcv,c1]
  exact .val _ rfl
 have c1:(BitVec.ofNat 64 (jq s)<=q.setWidth 64)=False:=aaw (by rw[abx,aa2,abF];omega)
 rw[aaJ hq]
 generalize hQ:q.toNat=Q at*
 have a1:wz ((jq s:Int)+(Q:Int))=((jq s+Q:Nat):Int):=by rw[bh (by omega)];omega
 have hN1:=Yz hp Q
 have hpg:=λi=>QS hp hq i
 have hN:∀i,i<ie s Q->1<(jq s+Q)/2^i:=λi hi=>by
  have h0:jq s+Q≠0:=by unfold jq;omega
  have:=(Nat.le_log2 h0 (k:=i+1)).1 hi
  rw[ad2]at this
  exact(Nat.le_div_iff_mul_le (aet i)).2 (by omega)
 have hNe:(jq s+Q)/2^ie s Q<=1:=by
  have h0:jq s+Q≠0:=by unfold jq;omega
  have:=(Nat.log2_lt h0 (k:=ie s Q+1)).1 (by unfold ie;omega)
  rw[ad2]at this
  have:=(Nat.div_lt_iff_lt_mul (aet (ie s Q)) (x:=jq s+Q) (y:=2)).2 (by omega)
  omega
 have hds:∀i,((List.range i).map (qg s Q)).map aV++[.agg (.ar 32 L8) (bs (qg s Q i))]=((List.range (i+1)).map (qg s Q)).map aV:=λi=>by simp[abL,aV]
 simp only[zm,↓ag,ah,simprocAttr,aK,h1,kL,hcv,c1,hQ,a1]
 have e1:∀(m:Nat) k,cm .shr (it (m:Int)) (u64 1#64) k=k (.raw (it ((m/2^1:Nat):Int))):=λm k=>shr_n m 1 .u64 (by decide) k
 have hR:jq s+Q<=2048:=by unfold jq at*;omega
 have hdv:∀i,(jq s+Q)/2^i<=2048:=λi=>aa3 (adB _ _) hR
 have K6:∀i,(jq s+Q)/2^i/2^1=(jq s+Q)/2^(i+1):=λi=>by rw[Nat.div_div_eq_div_mul,<-aeu]
 have hR0:(jq s+Q)/2^0=jq s+Q:=by simp
 have hpG:nU s Q=(List.range (ie s Q)).map (qg s Q):=rfl
 rw[hpG]
 have mH:bb s.ld=false:=LJ
 generalize hV:(D.agg ik [.raw (u32 s.t),.raw (u32 s.o),.agg (.ar 16 L8) (bs s.id),.agg (.ar 32 L8) (bs s.aM),.dh (.ar 32 L8) (s.ns.map aV) s.en,.raw (u32 s.nx),.om yz s.sm,.om yA s.tm,s.ld]).cb=V
 have hfa:V=(D.agg ik [.raw (u32 s.t),.raw (u32 s.o),.agg (.ar 16 L8) (bs s.id),.agg (.ar 32 L8) (bs s.aM),.dh (.ar 32 L8) (s.ns.map aV) s.en,.raw (u32 s.nx),.om yz s.sm,.om yA s.tm,s.ld]).cb:=hV.symm
 refine bx (ie s Q) (λi env rows=>has env [(6,.raw (it (((jq s+Q)/2^i:Nat):Int))),(0,V)]/\∃d',look env 5=some d'/\jy (.ar 32 L8) d' rows (((List.range i).map (qg s Q)).map aV)) ?_ ?_ ⟨?_,.raw (.slice none 0 0),?_,.inl ⟨rfl,rfl⟩⟩
 ·rintro i hi env rows ⟨hw,d',h5,hO⟩ R hRR
  simp only[has]at hw
  obtain⟨g1,g2,g3⟩:=hpg i
  have hgt:=hN i hi
  have hle:=hdv i
  have hxi:=xor_it ((jq s+Q)/2^i) (by omega)
  have hnx':=K6 i
  have hde:=hds i
  have b0:∀n:Nat,((0:Int)<=(n:Int))=True:=λn=>aas (by omega)
  generalize (jq s+Q)/2^i=r at*
  generalize qg s Q i=x at*
  have f0:((1:Int)<(r:Int))=True:=aas (by omega)
  have f1:(((r^^^1:Nat):Int)<(s.ns.length:Int))=True:=aas (by omega)
  have w0:look env 0=_:=hw.2.1.trans (ach some hfa)
  have w6:=hw.1
  simp only[↓ag,ah,simprocAttr,aK,w0,w6,h5,f0,hxi,b0,f1,aaA,g1,e1,hnx']
  have pY:(List.range i).length=i:=acY
  have hN12:ie s Q<=11:=by
   have h0:jq s+Q≠0:=by unfold jq;omega
   have:=(Nat.log2_lt h0 (k:=12)).2 (by omega)
   unfold ie;omega
  refine lg hO.push (by rw[aaA,aaA,pY];simp[most];omega) (by rw[aaA,aaA,pY];simp[most];omega) λd2 aa GV qJ yt _=>?_
  rw[hde]at GV
  simp only[↓ag,ah,simprocAttr,aK,w0,w6,hxi,e1,hnx']
  exact hRR _ _ ⟨by simp only[has,↓ag,ah,simprocAttr,w0,hfa],d2,by simp only[↓ag,ah,simprocAttr],GV⟩
 ·rintro env rows ⟨hw,d',h5,hO⟩ R
  simp only[has]at hw
  have f0:((1:Int)<(((jq s+Q)/2^ie s Q:Nat):Int))=False:=aaw (by omega)
  simp only[↓ag,ah,simprocAttr,aK,hw.1,h5,f0]
  rcases hO with⟨h,_⟩|⟨r,ex1,rfl,hlv⟩
  ·have:=ach List.length h
   rw[aaA,aaA,acY,aaV]at this
   omega
  ·rw[aaA,aaA,acY]
   exact .own (.ar 32 L8) r 0 _ ex1 false _ hlv rfl (λh=>by cases h)
 ·rw[hR0];simp only[has,↓ag,ah,simprocAttr]
 ·simp only[↓ag,ah,simprocAttr]
theorem kPathC(rows:Rows)(k:D->Rows->Prop)(s:qV)(q:BitVec 32)(hp:ob s=true)(hq:q.toNat<jq s):
  aG V0 rows k [zm s,.raw (u32 q)]=k (.sl (.ar 32 L8) (0+rows.length) [] 0 (ie s q.toNat) false) (rows++[some ⟨.ar 32 L8,(nU s q.toNat).map aV⟩]):=by
 refine(bk (by simp[aX,E8 (fy.1 hp).2.2.2.2.2.2,bb]) (lF (bZ Hi s) (fL q) hp)).trans ?_
 simp only[aaJ hq]
 simp[shift,af,Sh.pure]
def iq(s:qV)(q:BitVec 32)(c m:List (BitVec 8)):List (BitVec 8):=bz q++nh s.o ⟨s.id,q⟩ s.aM c m++bz s.t++(nU s q.toNat).flatten
theorem pathN_le{s:qV}(hp:ob s=true){q:Nat}(hq:q<jq s):ie s q<=11:=by
 obtain⟨iv,ri,uO,TY,hn,yV,LJ⟩:=fy.1 hp
 have h0:jq s+q≠0:=by unfold jq;omega
 have:=(Nat.log2_lt h0 (k:=12)).2 (by unfold jq at*;omega)
 unfold ie;omega
theorem yB{s:qV}(hp:ob s=true){q:BitVec 32}(hq:q.toNat<jq s)(c m:List (BitVec 8))(hc:c.length=32):(iq s q c m).length=44+32*pT s.o.toNat+32*ie s q.toNat:=by
 rw[iq]
 simp only[aap,uP _ _ _ _ _ hc,uK (Jt hp hq),uS]
 show 4+(36+32*pT s.o.toNat)+4+32*ie s q.toNat=_
 omega
noncomputable def Oi:Fn:=gn4 (cj zm) ry (cj aV) eP (λs _ c m=>ob s&&vi s.o.toNat&&decide (c.length=32)&&decide (m.length<=1099511627776)) λs q c m=>
 if q.toNat<jq s then(.cd [.sl L8 0 [] 0 (44+32*pT s.o.toNat+32*ie s q.toNat) false,.raw (it 0)],[some ⟨L8,bs (iq s q c m)⟩])else(.cd [.raw (.slice none 0 0),.raw (it 1)],[])
theorem force_ok(C:aU)(hC:aI C P)(h1:C.fn 50=some tw)(h2:C.fn 52=some Js)(h3:C.fn 137=some V0)(h4:C.fn 67=some Au)(h5:C.fn 136=some VW):aQ C.aZ P 77 (Fn.run Oi):=by
 refine cA (AU C hC) λds rows r h=>?_
 obtain⟨d0,d1,d2,d3,s,q,c,m,rfl,rfl,g0,g1,g2,g3,hp,rfl⟩:=uN h
 cases aH g0
 cases dY g1
 cases aH g2
 obtain⟨xm,hx⟩:=cF g3
 simp only[aan,aaq]at hp
 obtain⟨⟨⟨hp,ho⟩,hc⟩,hm⟩:=hp
 obtain⟨iv,ri,uO,TY,hn,yV,LJ⟩:=fy.1 hp
 refine⟨rfl,_,.cons (.refl _) (.cons (.refl _) (.cons (.refl _) (.cons hx .nil))),ae rfl ?_⟩
 clear h g0 g1 g2 g3 hx
 unfold rE rF
 have kL:=λrows k=>Jr rows k s hp
 have kS:=λrows k=>kSiteC rows k s q hp
 have hlv:jq s<=1024:=by unfold jq;omega
 have hq32:=q.isLt
 have hcv:BitVec.ofInt 64 ((jq s:Nat):Int)=BitVec.ofNat 64 (jq s):=abb _ _
 have bL:=λ(rows:Rows) (l:List (BitVec 8)) (e:Bool)=>(eC.to (rows:=rows) (d:= .dh L8 (bs l) e) (.inr ⟨e,rfl⟩))
 have kG:=λrows k=>kSign rows k s.o ⟨s.id,q⟩ s.aM c m (.dh L8 (bs m) xm) (bL rows m xm) iv ri hc ho
 simp only[eu]
 by_cases hq:q.toNat<jq s
 rotate_left
 ·have c1:(BitVec.ofNat 64 (jq s)<=q.setWidth 64)=True:=aas (by rw[abx,aa2,abF];omega)
  rw[aaC hq]
  simp only[zm]at kL
  simp only[zm,aV,↓ag,ah,simprocAttr,aK,h1,kL,hcv,c1]
  exact .val _ rfl
 have c1:(BitVec.ofNat 64 (jq s)<=q.setWidth 64)=False:=aaw (by rw[abx,aa2,abF];omega)
 rw[aaJ hq]
 have kP:=λrows k=>kPathC rows k s q hp hq
 have mH:=uP s.o ⟨s.id,q⟩ s.aM c m hc
 have hN:=pathN_le hp hq
 have qm:=uS s q.toNat
 have hp32:=Jt hp hq
 have hpt:pT s.o.toNat<=265:=(mI ho).2.2.1
 have hsg:iq s q c m=bz q++nh s.o ⟨s.id,q⟩ s.aM c m++bz s.t++(nU s q.toNat).flatten:=rfl
 rw[hsg]
 generalize nh s.o ⟨s.id,q⟩ s.aM c m=SG at*
 generalize nU s q.toNat=l at*
 generalize ie s q.toNat=N at*
 simp only[zm]at kL kS kP
 generalize hM:pT s.o.toNat=M at*
 have w4:∀x:BitVec 32,List.take 4 (bs (bz x))=bs (bz x):=λx=>aar (aax _)
 have l4:∀x:BitVec 32,(bs (bz x)).length=4:=λx=>rfl
 have sg1:List.take (36+32*M) (bs SG)=bs SG:=aar (by rw[aE,mH];exact aax _)
 have sg2:(bs SG).length=36+32*M:=by rw[aE,mH]
 have la:(bs (bz q++SG)).length=4+(36+32*M):=by rw[aE,aap,mH];rfl
 have ta:List.take (4+(36+32*M)) (bs (bz q++SG))=bs (bz q++SG):=aar (by rw[la];exact aax _)
 simp only[zm,aV,↓ag,ah,simprocAttr,aK,h1,kL,hcv,c1,h2,kS,h5,kG,h4,QD,h3,kP,w4,l4,sg1,sg2,la,ta,qe]
 refine⟨by omega,by omega,by omega,by omega,?_⟩
 generalize hT:bz q++(SG++bz s.t)=T0
 have e:bz q++(SG++(bz s.t++l.flatten))=T0++l.flatten:=by rw[<-hT];simp only[aaB]
 have lT:T0.length=44+32*M:=by rw[<-hT,aap,aap,mH];show 4+(36+32*M+4)=_;omega
 rw[e]
 have hln:l.length=N:=qm
 have hlt:∀i,i<=l.length->(T0++(l.take i).flatten).length=44+32*M+32*i:=λi hi=>by
  rw[aap,lT,uK (λx hx=>hp32 x (aaY hx)),aau]
  omega
 refine bx N (λi env rows=>has env [(57,.raw (it (i:Int))),(56,.raw (it (N:Int))),(55,.sl (.ar 32 L8) 6 [] 0 N false)]/\
  live rows 6=some ⟨.ar 32 L8,l.map aV⟩/\∃d,look env 12=some d/\jy L8 d rows (bs (T0++(l.take i).flatten))) ?_ ?_ ⟨?_,rfl,.sl L8 5 [] 0 (4+(36+(32*M+4))) false,by simp only[↓ag,ah,simprocAttr],.inr ⟨5,false,by rw[acF,acb,aaS,aE,lT,show 4+(36+(32*M+4))=44+32*M by omega],by rw[acF,acb,aaS];rfl⟩⟩
 ·rintro i hi env rows ⟨hh,r1,d,h7,hO⟩ R hR
  simp only[has]at hh
  have e0:((i:Int)<(N:Int))=True:=aas (by omega)
  have b0:∀n:Nat,((0:Int)<=(n:Int))=True:=λn=>aas (by omega)
  have e1:=cG i (by omega)
  have pY:i<l.length:=by omega
  have hx:=hp32 _ (abJ pY)
  have g:(l.map aV)[i]?=some (.agg (.ar 32 L8) (bs l[i])):=by simp[aV,pY]
  have hs:T0++(l.take i).flatten++l[i]=T0++(l.take (i+1)).flatten:=by
   rw[aaB,aaX pY,abW];simp
  have hlen:=hlt i (by omega)
  generalize l[i]=xi at*
  have lt6:=aR r1
  have ea:∀ex,elems (rows++[some ⟨.ar 32 L8,[.agg (.ar 32 L8) (bs xi)]⟩]) (.sl L8 rows.length [0] 0 32 ex)=some (bs xi):=λex=>qS (n:=32) (by rw[a9];rfl) rfl hx
  simp only[↓ag,ah,simprocAttr,aK,hh,e0,e1,b0,h7,r1,g,ea,aE,hx]
  refine lg (hO.push) (by rw[aE,aE,hx,hlen];simp[most];omega) (by rw[aE,aE,hx,hlen];simp[most];omega) λd' aa GV qJ yt _=>?_
  rw[qe,hs]at GV
  have r1':=qJ 6 _ (ab r1 _) (λex=>ia hO r1 (by decide) ex _)
  simp only[↓ag,ah,simprocAttr,aK,hh,e1]
  exact hR _ _ ⟨by simp only[has,↓ag,ah,simprocAttr,hh],r1',d',by simp only[↓ag,ah,simprocAttr],GV⟩
 ·rintro env rows ⟨hh,r1,d,h7,hO⟩ R
  simp only[has]at hh
  have e0:((N:Int)<(N:Int))=False:=aaw (by omega)
  have htk:l.take N=l:=aar (by omega)
  rw[htk]at hO
  have hlen:=hlt l.length (aax _)
  rw[aa8]at hlen
  simp only[↓ag,ah,simprocAttr,aK,hh,e0,h7]
  rcases hO with⟨h,_⟩|⟨r,ex1,rfl,hlv⟩
  ·have:=ach List.length h
   rw[aE,hlen,aaV]at this
   omega
  ·have hle:(bs (T0++l.flatten)).length=44+(32*M+32*N):=by rw[aE,hlen];omega
   rw[hle]
   exact .ownU [] L8 r 0 _ ex1 false _ [.raw (it 0)] hlv rfl rfl rfl (λh=>by cases h)
 ·simp only[has,↓ag,ah,simprocAttr]
theorem kForceV(rows:Rows)(k:D->Rows->Prop)(d e:D)(s:qV)(q:BitVec 32)(c m:List (BitVec 8))(h:bY rows (cj zm) d s)(hm:aY rows e m)(hp:ob s=true)(ho:vi s.o.toNat=true)(hc:c.length=32)(hml:m.length<=1099511627776)(hq:q.toNat<jq s):
  aG Oi rows k [d,.raw (u32 q),.agg (.ar 32 L8) (bs c),e]=k (.cd [.sl L8 (0+rows.length) [] 0 (44+32*pT s.o.toNat+32*ie s q.toNat) false,.raw (it 0)]) (rows++[some ⟨L8,bs (iq s q c m)⟩]):=by
 refine(yn h (bY.raw (fL q)) (ko c) (.bs hm) (by simp[hp,ho,hc,hml]) (by simp only[aaJ hq];rfl) k).trans ?_
 simp only[aaJ hq]
 simp[shift,bD,af,Sh.pure]
theorem shl_it(b w:Nat)(hb:b<=4)(hw:w<=30)(k:D->Prop):cm .shl (it (b:Int)) (it (w:Int)) k=k (.raw (it ((b*2^w:Nat):Int))):=by
 have hm:min ((w:Int)).toNat IntKind.i64.bits=w:=by show min ((w:Int)).toNat 64=w;omega
 have hp:2^w<=2^30:=abK (by decide) hw
 have hq:b*2^w<=4*2^30:=Nat.mul_le_mul hb hp
 have e:(b:Int)*2^w=((b*2^w:Nat):Int):=by simp
 simp only[cm,it]
 rw[hm,e]
 have hz:IntKind.i64.wrap ((b*2^w:Nat):Int)=((b*2^w:Nat):Int):=bh (by omega)
 rw[hz]
 simp
structure Plc where
 q:BitVec 32
 i:Int
 j:Int
def V2(q:BitVec 32)(i:Int):D:= .agg QQ [.raw (u32 q),.raw (it i)]
def mE(m:List (BitVec 8)):ByteArray:=⟨(ub m).toArray⟩
def dz(rows aa:Rows):Prop:=∀q row,live rows q=some row->live aa q=some row
theorem dz.refl(rows:Rows):dz rows rows:=λ_ _ h=>h
theorem dz.app(rows L:Rows):dz rows (rows++L):=λ_ _ h=>bG h
theorem dz.trans{a b c:Rows}(h:dz a b)(h':dz b c):dz a c:=λq row hq=>h' q row (h q row hq)
theorem dz.set{rows rs:Rows}(h:dz rows rs){q:Nat}(hq:rows.length<=q)(x:Option Row):dz rows (rs.set q x):=λp row hp=>by
 have:=aR hp
 rw[aA (by omega)]
 exact h p row hp
structure Sg where
 t:BitVec 32
 o:BitVec 32
 id:List (BitVec 8)
 aM:List (BitVec 8)
 ns:List (List (BitVec 8))
 nx:BitVec 32
 sm:List D
 tm:List D
 last:List (List (BitVec 8)×List (BitVec 8))
structure vQ where
 r:Nat
 nr:Nat
 ms:Nat
 mt:Nat
 ne:Bool
 dl:D
def Ju(x:List (BitVec 8)×List (BitVec 8)):D:= .agg lq [.raw (.string (mE x.1)),.agg (.ar 32 L8) (bs x.2)]
def E9(L:vQ)(s:Sg):D:= .agg ik [.raw (u32 s.t),.raw (u32 s.o),.agg (.ar 16 L8) (bs s.id),.agg (.ar 32 L8) (bs s.aM),.sl (.ar 32 L8) L.nr [] 0 s.ns.length L.ne,.raw (u32 s.nx),.mp L.ms,.mp L.mt,L.dl]
structure oc (rows:Rows) (L:vQ) (s:Sg):Prop where
 a:live rows L.r=some ⟨ik,[E9 L s]⟩
 n:live rows L.nr=some ⟨.ar 32 L8,s.ns.map aV⟩
 m:live rows L.ms=some ⟨yz,s.sm⟩
 t:live rows L.mt=some ⟨yA,s.tm⟩
 l:jy lq L.dl rows (s.last.map Ju)
def ldV(L:vQ)(s:Sg):D:=match L.dl with
 | .sl _ _ _ _ _ ex=> .dh lq (s.last.map Ju) ex
 |d=>d
def Sg.v(s:Sg)(L:vQ):qV:=⟨s.t,s.o,s.id,s.aM,s.ns,L.ne,s.nx,s.sm,s.tm,ldV L s⟩
theorem oc.keep{rows aa:Rows}{L:vQ}{s:Sg}(h:oc rows L s)(hk:dz rows aa):oc aa L s:=by
 refine⟨hk _ _ h.a,hk _ _ h.n,hk _ _ h.m,hk _ _ h.t,?_⟩
 rcases h.l with h|⟨r,ex,e,hl⟩
 ·exact .inl h
 ·exact .inr ⟨r,ex,e,hk _ _ hl⟩
theorem oc.push{rows:Rows}{L:vQ}{s:Sg}(h:oc rows L s)(more:Rows):oc (rows++more) L s:=h.keep (dz.app _ _)
theorem oc.vw{rows:Rows}{L:vQ}{s:Sg}(h:oc rows L s)(n:Nat):view rows (n+4) (.ptr ik L.r [0])=some (zm (s.v L)):=by
 have en:elems rows (.sl (.ar 32 L8) L.nr [] 0 s.ns.length L.ne)=some (s.ns.map aV):=by
  simp only[elems,h.n]
  simp[aar]
 have hm:live rows L.ms=some ⟨yz,s.sm⟩:=h.m
 have ht:live rows L.mt=some ⟨yA,s.tm⟩:=h.t
 have hv:view rows (n+2) L.dl=some (ldV L s):=by
  rcases h.l with⟨e2,e⟩|⟨r,ex,e,hl⟩
  ·rw[ldV,e];rfl
  ·have Lr:(s.last.map Ju).length=s.last.length:=aaA _
   have el:elems rows (.sl lq r [] 0 s.last.length ex)=some (s.last.map Ju):=by
    simp only[elems,hl]
    simp[aar]
   rw[ldV,e,Lr]
   simp[view,el,Sh.pure]
 have h7:view rows (n+3) (E9 L s)=some (.agg ik [.raw (u32 s.t),.raw (u32 s.o),.agg (.ar 16 L8) (bs s.id),.agg (.ar 32 L8) (bs s.aM),.dh (.ar 32 L8) (s.ns.map aV) L.ne,.raw (u32 s.nx),.om yz s.sm,.om yA s.tm,ldV L s]):=by
  unfold E9
  rw[vw_agg]
  simp[Sh.pure,view,eK,en,hm,ht,hv]
 rw[vw_ptr,h.a]
 have hg:cM [E9 L s] [0]=some (E9 L s):=rfl
 simp only[abg,hg,h7]
 rfl
theorem oc.rd{rows:Rows}{L:vQ}{s:Sg}(h:oc rows L s):bY rows (cj zm) (.ptr ik L.r [0]) (s.v L):=
 ⟨⟨zm (s.v L),h.vw 5,bZ Hi _⟩,λh=>by simp[bb]at h⟩
theorem Sg.Jv{L:vQ}{s:Sg}{rows:Rows}(h:oc rows L s):bb (ldV L s)=false:=by
 rcases h.l with⟨e2,e⟩|⟨r,ex,e,hl⟩
 ·rw[ldV,e];rfl
 ·rw[ldV,e];rfl
def lfS(o:BitVec 32)(id aM:List (BitVec 8))(H r:Nat):List (BitVec 8):=pP id (BitVec.ofNat 32 r) (GW o.toNat ⟨id,BitVec.ofNat 32 (r-H)⟩ aM)
def V3(o:BitVec 32)(id aM:List (BitVec 8))(H:Nat)(N:List (List (BitVec 8)))(r:Nat):List (BitVec 8):=if H<=r then lfS o id aM H r else uQ id (BitVec.ofNat 32 r) (N.getD (2*r) []) (N.getD (2*r+1) [])
def o6(o:BitVec 32)(id aM:List (BitVec 8))(H:Nat):Nat->List (List (BitVec 8))
 |0=>List.replicate (2*H) sO
 |k+1=>(o6 o id aM H k).set (2*H-1-k) (V3 o id aM H (o6 o id aM H k) (2*H-1-k))
def mr(o:BitVec 32)(id aM:List (BitVec 8))(H:Nat):List (List (BitVec 8)):=o6 o id aM H (2*H-1)
section
variable (o:BitVec 32) (id aM:List (BitVec 8)) (H:Nat)
theorem Dt:∀k,(o6 o id aM H k).length=2*H
 |0=>by simp[o6]
 |k+1=>by simp[o6,Dt k]
theorem ndV_len(N:List (List (BitVec 8)))(r:Nat):(V3 o id aM H N r).length=32:=by
 unfold V3
 split
 ·exact E7 _ _ _
 ·exact Mv _ _ _ _
theorem T6:∀k,∀x∈o6 o id aM H k,x.length=32
 |0,x,hx=>by rw[abt hx];rfl
 |k+1,x,hx=>by
  rcases adw hx with h|rfl
  ·exact T6 k x h
  ·exact ndV_len _ _ _ _ _ _
theorem Jw(k:Nat):∀m j,1<=j->2*H-k<=j->(o6 o id aM H (k+m)).getD j []=(o6 o id aM H k).getD j []
 |0,j,_,_=>rfl
 | m + 1, j, h0, h => by
  have ih:=Jw k m j h0 h
  rw[show k+(m+1)=(k+m)+1 from rfl,o6]
  by_cases hlt:j<2*H
  ·rw[<-ih]
   have hne:2*H-1-(k+m)≠j:=by omega
   simp only[List.getD,ab7 hne]
  ·rw[<-ih]
   have h1:(o6 o id aM H (k+m)).length<=j:=by rw[Dt];omega
   simp only[List.getD]
   rw[abv (by rw[abe];exact h1),abv h1]
theorem QT(r:Nat)(h1:1<=r)(h2:r<2*H):(mr o id aM H).getD r []=V3 o id aM H (mr o id aM H) r:=by
 obtain⟨k,hk⟩:∃k,r=2*H-1-k:=⟨2*H-1-r,by omega⟩
 have e1:(mr o id aM H).getD r []=(o6 o id aM H (k+1)).getD r []:=by
  have:=Jw o id aM H (k+1) (2*H-1-(k+1)) r (by omega) (by omega)
  rw[show k+1+(2*H-1-(k+1))=2*H-1 by omega]at this
  exact this
 have hl:=Dt o id aM H k
 rw[e1,o6,<-hk]
 have e2:((o6 o id aM H k).set r (V3 o id aM H (o6 o id aM H k) r)).getD r []=V3 o id aM H (o6 o id aM H k) r:=by
  simp[List.getD,hl,h2]
 rw[e2]
 unfold V3
 by_cases hH:H<=r
 ·rw[aaJ hH,aaJ hH]
 ·rw[aaC hH,aaC hH]
  have st:=λj (h0:1<=j) (hj:2*H-k<=j)=>by
   have:=Jw o id aM H k (2*H-1-k) j h0 hj
   rw[show k+(2*H-1-k)=2*H-1 by omega]at this
   exact this
  show uQ _ _ _ _=uQ _ _ ((mr o id aM H).getD (2*r) []) ((mr o id aM H).getD (2*r+1) [])
  rw[mr,st (2*r) (by omega) (by omega),st (2*r+1) (by omega) (by omega)]
theorem T7(r:Nat)(h1:H<=r)(h2:r<2*H):(mr o id aM H).getD r []=lfS o id aM H r:=by
 rw[QT o id aM H r (by omega) h2,V3,aaJ h1]
theorem T8(r:Nat)(h1:1<=r)(h2:r<H):(mr o id aM H).getD r []=uQ id (BitVec.ofNat 32 r) ((mr o id aM H).getD (2*r) []) ((mr o id aM H).getD (2*r+1) []):=by
 rw[QT o id aM H r h1 (by omega),V3,aaC (by omega)]
end
structure oe (rows:Rows) (q a w:Nat) (c:pj):Prop where
 ch:live rows q=some ⟨Kz,[.agg Kz [.ptr vj a [0],.raw (.bool c.s)]]⟩
 ar:live rows a=some ⟨vj,[.agg vj [.sl tN w [] 0 64 c.e]]⟩
 dat:live rows w=some ⟨tN,c.ws.map yu⟩
 len:c.ws.length=64
theorem oe.keep{rows aa:Rows}{q a w:Nat}{c:pj}(h:oe rows q a w c)(f:∀p row,live rows p=some row->(p=q\/p=a\/p=w)->live aa p=some row):oe aa q a w c:=
 ⟨f _ _ h.ch (.inl rfl),f _ _ h.ar (.inr (.inl rfl)),f _ _ h.dat (.inr (.inr rfl)),h.len⟩
theorem oe.push{rows:Rows}{q a w:Nat}{c:pj}(h:oe rows q a w c)(L:Rows):oe (rows++L) q a w c:=h.keep λ_ _ hq _=>bG hq
theorem ar_view{rows:Rows}{a w:Nat}{x:List Wd}{e:Bool}(h1:live rows a=some ⟨vj,[.agg vj [.sl tN w [] 0 64 e]]⟩)(h2:live rows w=some ⟨tN,x.map yu⟩)(hl:x.length=64)(n:Nat):view rows (n+3) (.ptr vj a [0])=some (arK (x,e)):=by
 have he:elems rows (.sl tN w [] 0 64 e)=some (x.map yu):=by
  simp only[elems,h2]
  simp[aar,hl]
 simp only[view,h1,cM,abG,D.get,Sh.pure,eK]
 rw[he]
 simp[eK,he,hl,arK,arV]
theorem oe.rd{rows:Rows}{q a w:Nat}{c:pj}(h:oe rows q a w c):bY rows (cj tS) (.ptr Kz q [0]) c:=by
 refine⟨⟨tS c,?_,bZ Hf c⟩,λh=>by simp[bb]at h⟩
 have he:elems rows (.sl tN w [] 0 64 c.e)=some (c.ws.map yu):=by
  simp only[elems,h.dat]
  simp[aar,h.len]
 simp only[view,h.ch,h.ar,cM,abG,D.get,Sh.pure,eK,ado,adz,aaK,acQ]
 rw[he]
 simp[eK,he,h.len,tS,arV]
theorem T9{rows:Rows}{a w:Nat}{x:List Wd}{e:Bool}(h1:live rows a=some ⟨vj,[.agg vj [.sl tN w [] 0 64 e]]⟩)(h2:live rows w=some ⟨tN,x.map yu⟩)(hl:x.length=64):bY rows (cj arK) (.ptr vj a [0]) (x,e):=
 ⟨⟨_,ar_view h1 h2 hl 6,bZ VO _⟩,λh=>by simp[bb]at h⟩
noncomputable def tx:Fn:=zy (cj arK) u9 (λx i=>decide (x.1.length=64)&&decide (0<=i)&&decide (i<64)) λ_ _=>(.raw (it 0),[])
theorem YA(C:aU)(hC:aI C P):aQ C.aZ P 189 (Fn.run tx):=by
 refine aJ (A6 C hC) λds rows r h=>?_
 obtain⟨d,e,⟨x,e⟩,i,rfl,rfl,hd,he,hp,rfl⟩:=dS h
 cases aH hd
 cases bX he
 simp only[aan,aaq]at hp
 obtain⟨⟨hl,h0⟩,h1⟩:=hp
 refine⟨rfl,ae rfl ?_⟩
 clear h hd he
 unfold rO rP
 have e1:(i<0)=False:=aaw (by omega)
 have e2:((64:Int)<=i)=False:=aaw (by omega)
 have nA:(x.map yu).length=64:=by rw[aaA,hl]
 simp only[arK,arV,↓ag,ah,simprocAttr,e1,e2,nA]
 exact .val _ rfl
theorem V4{rows:Rows}{d:D}{x:List Wd×Bool}(h:bY rows (cj arK) d x)(hl:x.1.length=64)(i:Nat)(hi:i<64)(k:D->Rows->Prop):aG tx rows k [d,.raw (it (i:Int))]=k (.raw (it 0)) rows:=by
 refine(lY h (.int _) (by simp[hl];omega) rfl k).trans ?_
 simp[shift,af]
theorem Ua{x:List Wd}{i:Nat}(h:i<x.length):(x.map yu)[i]?=some (.agg tN [.raw (u32 x[i].1),.raw (.bool x[i].2)]):=by
 simp[h,yu]
theorem Ub(x:List Wd)(i:Nat)(v:BitVec 32)(l:Bool):(x.map yu).set i (.agg tN [.raw (u32 v),.raw (.bool l)])=(x.set i (v,l)).map yu:=by
 rw[acr];rfl
theorem cut_run(C:aU){rows:Rows}{a w:Nat}{x:List Wd}{e:Bool}(h1:live rows a=some ⟨vj,[.agg vj [.sl tN w [] 0 64 e]]⟩)(h2:live rows w=some ⟨tN,x.map yu⟩)(hl:x.length=64){i:Nat}(hi:i<x.length){v g:BitVec 32}
  (hok:x[i].1&&&~~~v=0#32)(hT:C.fn 189=some tx){K:D->Rows->Prop}(hk:K (.raw (it 0)) (rows.set w (some ⟨tN,(x.set i (x[i].1|||v&&&g,x[i].2)).map yu⟩))):
  aB C 4 jA jz [.ptr vj a [0],.raw (it (i:Int)),.raw (u32 v),.raw (u32 g)] rows K:=by
 refine ae rfl ?_
 unfold jz jA
 have kT:=λk=>V4 (T9 h1 h2 hl) hl i (by omega) k
 have e1:((i:Int)<64)=True:=aas (by omega)
 have g1:=Ua hi
 simp only[↓ag,ah,simprocAttr,hT,kT,h1,h2,e1,g1,Ub,hok,abc,aaz]
 exact hk
def mj(x:List Wd)(l:List Wr):Nat->List Wd
 |0=>x
 | n + 1 => match l[n]? with
  |some p=>match(mj x l n)[p.1]? with
   |some o=>(mj x l n).set p.1 (o.1|||p.2,o.2)
   |none=>mj x l n
  |none=>mj x l n
theorem Mx(x:List Wd)(l:List Wr):∀n,(mj x l n).length=x.length
 |0=>rfl
 | n + 1 => by
  have ih:=Mx x l n
  rw[mj]
  split
  ·split
   ·rw[abe,ih]
   ·exact ih
  ·exact ih
def Uc(x:List Wd)(l:List Wr):Prop:=∀j p,l[j]?=some p->∃o,(mj x l j)[p.1]?=some o/\o.1&&&~~~p.2=0#32
structure PrgC (C2 C1 C:aU):Prop where
 th:C2.fn 189=some tx
 n1:C1.fn 129=none
 r1:C1.cV 129=some (aB C2 4 jA jz)
 n0:C.fn 68=none
 r0:C.cV 68=some (aB C1 3 fQ fP)
theorem all_ones(v:BitVec 32):v&&&4294967295#32=v:=BitVec.and_allOnes
theorem prg_run(C C1 C2:aU)(H:PrgC C2 C1 C){rows:Rows}{a w:Nat}{x:List Wd}{e:Bool}(h1:live rows a=some ⟨vj,[.agg vj [.sl tN w [] 0 64 e]]⟩)(h2:live rows w=some ⟨tN,x.map yu⟩)(hl:x.length=64){i:Nat}(hi:i<x.length){v:BitVec 32}
  (hok:x[i].1&&&~~~v=0#32){K:D->Rows->Prop}(hk:K (.raw (it 0)) (rows.set w (some ⟨tN,(x.set i (x[i].1|||v,x[i].2)).map yu⟩))):
  aB C1 3 fQ fP [.ptr vj a [0],.raw (it (i:Int)),.raw (u32 v)] rows K:=by
 refine ae rfl ?_
 unfold fP fQ
 simp only[↓ag,ah,simprocAttr,H.n1,H.r1]
 refine cut_run C2 (e:=e) h1 h2 hl hi hok H.th ?_
 rw[all_ones]
 simp only[↓ag,ah,simprocAttr]
 exact hk
theorem Du(C C1 C2:aU)(H:PrgC C2 C1 C){rows:Rows}{q a w ro n:Nat}{ex:Bool}{c:pj}{l:List Wr}(hc:oe rows q a w c)(hr:live rows ro=some ⟨K4,l.map wrD⟩)(hn:l.length=n)(hn2:n<=1000)(hok:Uc c.ws l){K:D->Rows->Prop}
  (hk:∀aa,oe aa q a w ⟨mj c.ws l l.length,c.e,c.s⟩->(∀p row,live rows p=some row->p≠w->live aa p=some row)->K (.raw (it 0)) aa):
  aB C 2 kY kU [.ptr Kz q [0],.sl K4 ro [] 0 n ex] rows K:=by
 subst hn
 refine ae rfl ?_
 unfold kU kY
 have ne:ro≠w:=λe=>by rw[e,hc.dat]at hr;cases hr
 have nq:q≠w:=λe=>by have:=hc.ch;rw[e,hc.dat]at this;cases this
 have na:a≠w:=λe=>by have:=hc.ar;rw[e,hc.dat]at this;cases this
 simp only[↓ag,ah,simprocAttr]
 refine bx l.length (λj env rs=>has env [(12,.raw (it (j:Int))),(11,.raw (it (l.length:Int))),(10,.sl K4 ro [] 0 l.length ex),(0,.ptr Kz q [0])]/\oe rs q a w ⟨mj c.ws l j,c.e,c.s⟩/\∀p row,live rows p=some row->p≠w->live rs p=some row) ?_ ?_ ⟨?_,hc,λp row h _=>h⟩
 ·rintro j hj env rs ⟨hh,hC,hf⟩ R hR
  simp only[has]at hh
  have e0:((j:Int)<(l.length:Int))=True:=aas (by omega)
  have e1:=cG j (by omega)
  have hl:=hf _ _ hr ne
  have g:(l.map wrD)[j]?=some (.agg K4 [.raw (it (l[j].1:Int)),.raw (u32 l[j].2)]):=by simp[hj,wrD]
  obtain⟨o,ho,hz⟩:=hok j l[j] (aao hj)
  have hs:mj c.ws l (j+1)=(mj c.ws l j).set l[j].1 (o.1|||l[j].2,o.2):=by
   rw[mj,aao hj]
   simp only[ho]
  generalize l[j]=p at*
  have hC1:=hC.ch
  have hCa:=hC.ar
  have hC1':=λL=>ab hC1 L
  simp only[↓ag,ah,simprocAttr,aK,hh,hl,g,e0,hC1',H.n0,H.r0,abc,aaz]
  obtain⟨hlt,rfl⟩:=acR.1 ho
  refine prg_run C C1 C2 H (e:=c.e) (ab hCa _) (ab hC.dat _) hC.len hlt hz ?_
  rw[<-hs]
  simp only[↓ag,ah,simprocAttr,aK,hh,e1]
  have hdat:=ab hC.dat [some ⟨K4,[.agg K4 [.raw (it (p.1:Int)),.raw (u32 p.2)]]⟩]
  refine hR _ _ ⟨by simp only[has,↓ag,ah,simprocAttr,hh],⟨dH (ab hC1 _) (abh nq),dH (ab hCa _) (abh na),aD hdat,?_⟩,λp row h hp=>dH (ab (hf p row h hp) _) (abh hp)⟩
  rw[Mx];exact hc.len
 ·rintro env rs ⟨hh,hC,hf⟩ R
  simp only[has]at hh
  have e0:((l.length:Int)<(l.length:Int))=False:=aaw (by omega)
  simp only[↓ag,ah,simprocAttr,hh,e0]
  exact hk rs hC hf
 ·simp only[has,↓ag,ah,simprocAttr]
theorem lock_run(C:aU){rows:Rows}{a w:Nat}{x:List Wd}{e:Bool}(h1:live rows a=some ⟨vj,[.agg vj [.sl tN w [] 0 64 e]]⟩)(h2:live rows w=some ⟨tN,x.map yu⟩)(hl:x.length=64){i:Nat}(hi:i<x.length)
  (hT:C.fn 189=some tx){K:D->Rows->Prop}(hk:K (.raw (it 0)) (rows.set w (some ⟨tN,(x.set i (x[i].1,true)).map yu⟩))):
  aB C 2 gq gk [.ptr vj a [0],.raw (it (i:Int))] rows K:=by
 refine ae rfl ?_
 unfold gk gq
 have kT:=λk=>V4 (T9 h1 h2 hl) hl i (by omega) k
 have e1:((i:Int)<64)=True:=aas (by omega)
 have g1:=Ua hi
 simp only[↓ag,ah,simprocAttr,hT,kT,h1,h2,e1,g1,Ub,abc,aaz]
 exact hk
theorem seal_run(C C1:aU)(hT:C1.fn 189=some tx)(n0:C.fn 259=none)(r0:C.cV 259=some (aB C1 2 gq gk)){rows:Rows}{q a w:Nat}{c:pj}(hc:oe rows q a w c){K:D->Rows->Prop}
  (hk:∀aa c',oe aa q a w c'->c'.w=c.w->(∀p row,live rows p=some row->p≠q->p≠w->live aa p=some row)->K (.cd []) aa):
  aB C 1 j9 j8 [.ptr Kz q [0]] rows K:=by
 refine ae rfl ?_
 unfold j8 j9
 have nq:q≠w:=λe=>by have:=hc.ch;rw[e,hc.dat]at this;cases this
 have na:a≠w:=λe=>by have:=hc.ar;rw[e,hc.dat]at this;cases this
 have nqa:q≠a:=λe=>by have:=hc.ch;rw[e,hc.ar]at this;cases this
 have h1:=hc.ch
 simp only[↓ag,ah,simprocAttr,h1]
 refine bx 36 (λj env rs=>has env [(2,.raw (it ((27+j:Nat):Int))),(0,.ptr Kz q [0])]/\∃c',oe rs q a w c'/\c'.w=c.w/\∀p row,live rows p=some row->p≠q->p≠w->live rs p=some row) ?_ ?_ ⟨?_,⟨c.ws,c.e,true⟩,⟨aD h1,dH hc.ar nqa,dH hc.dat nq,hc.len⟩,rfl,λp row h hq _=>dH h (abh hq)⟩
 ·rintro j hj env rs ⟨hh,c',hC,hw,hf⟩ R hR
  simp only[has]at hh
  have e0:(((27+j:Nat):Int)<63)=True:=aas (by omega)
  have e1:=cG (27+j) (by omega)
  have hC1:=hC.ch
  have hl:=hC.len
  simp only[↓ag,ah,simprocAttr,hh,hC1,e0,n0,r0]
  refine lock_run C1 hC.ar hC.dat hC.len (i:=27+j) (by omega) hT ?_
  simp only[↓ag,ah,simprocAttr,hh,e1]
  refine hR _ _ ⟨by simp only[has,↓ag,ah,simprocAttr,hh];rfl,⟨c'.ws.set (27+j) ((c'.ws[27+j]'(by omega)).1,true),c'.e,c'.s⟩,⟨dH hC1 (abh nq),dH hC.ar (abh na),aD hC.dat,by rw[abe];exact hl⟩,?_,λp row h hq hp=>dH (hf p row h hq hp) (abh hp)⟩
  rw[<-hw]
  show List.map _ (List.set _ _ _)=_
  rw[acr]
  have KF:27+j<(c'.ws.map (·.1)).length:=by rw[aaA];omega
  have:(c'.ws.map (·.1)).set (27+j) ((c'.ws.map (·.1))[27+j])=c'.ws.map (·.1):=adO KF
  rw[adu]at this
  exact this
 ·rintro env rs ⟨hh,c',hC,hw,hf⟩ R
  simp only[has]at hh
  have e0:(((27+36:Nat):Int)<63)=False:=aaw (by omega)
  simp only[↓ag,ah,simprocAttr,hh,e0]
  exact hk rs c' hC hw hf
 ·simp only[has,↓ag,ah,simprocAttr]
def tP:pj:=⟨List.replicate 64 (0#32,false),true,false⟩
theorem My(C:aU){rows:Rows}{K:D->Rows->Prop}(hk:K (.cd [.ptr vj (rows.length+1) [0],.raw (it 0)]) (rows++[some ⟨tN,tP.ws.map yu⟩,some ⟨vj,[.agg vj [.sl tN rows.length [] 0 64 true]]⟩])):
  aB C 1 gA gz [.raw (it 64)] rows K:=by
 refine ae rfl ?_
 unfold gz gA
 have hz:List.replicate 64 (D.agg tN [.raw (u32 0#32),.raw (.bool false)])=tP.ws.map yu:=rfl
 simp only[↓ag,ah,simprocAttr,aK,hz]
 exact hk
theorem Jx(C C1:aU)(n0:C.fn 56=none)(r0:C.cV 56=some (aB C1 1 gA gz)){rows:Rows}{K:D->Rows->Prop}
  (hk:∀aa,dz rows aa->oe aa (rows.length+2) (rows.length+1) rows.length tP->K (.ptr Kz (rows.length+2) [0]) aa):
  aB C 0 oM oL [] rows K:=by
 refine ae rfl ?_
 unfold oL oM
 simp only[↓ag,ah,simprocAttr,n0,r0]
 refine My C1 ?_
 simp only[↓ag,ah,simprocAttr,aK]
 exact hk _ (dz.app _ _) ⟨by rw[bg];rfl,by rw[bg];rfl,by rw[a9];rfl,rfl⟩
def YB(W:List (BitVec 32)):pj:=⟨W.map λv=>(v,false),true,false⟩
theorem ofW_w(W:List (BitVec 32)):(YB W).w=W:=by
 show List.map _ (List.map _ _)=_
 rw[List.map_map]
 exact List.map_id _
theorem fof_run(C C2:aU)(n1:C.fn 56=none)(r1:C.cV 56=some (aB C2 1 gA gz)){rows:Rows}{r:Nat}{p:List Nat}{ex:Bool}{row:Row}{W:List (BitVec 32)}(hW:W.length=64)
  (hl:live rows r=some row)(hg:∀i,i<64->cM row.els (p++[i])=some (.raw (u32 (W.getD i 0#32)))){K:D->Rows->Prop}
  (hk:∀aa,dz rows aa->live aa (rows.length+1)=some ⟨vj,[.agg vj [.sl tN rows.length [] 0 64 true]]⟩->live aa rows.length=some ⟨tN,(YB W).ws.map yu⟩->K (.cd [.ptr vj (rows.length+1) [0],.raw (it 0)]) aa):
  aB C 1 oU oT [.sl cN r p 0 64 ex] rows K:=by
 refine ae rfl ?_
 unfold oT oU
 have hlt:=aR hl
 simp only[↓ag,ah,simprocAttr,n1,r1]
 refine My C2 ?_
 have hA:live (rows++[some ⟨tN,tP.ws.map yu⟩,some ⟨vj,[.agg vj [.sl tN rows.length [] 0 64 true]]⟩]) (rows.length+1)=some ⟨vj,[.agg vj [.sl tN rows.length [] 0 64 true]]⟩:=by rw[bg];rfl
 have hB:live (rows++[some ⟨tN,tP.ws.map yu⟩,some ⟨vj,[.agg vj [.sl tN rows.length [] 0 64 true]]⟩]) rows.length=some ⟨tN,tP.ws.map yu⟩:=by rw[a9];rfl
 have hK0:dz rows (rows++[some ⟨tN,tP.ws.map yu⟩,some ⟨vj,[.agg vj [.sl tN rows.length [] 0 64 true]]⟩]):=dz.app _ _
 generalize rows++[some ⟨tN,tP.ws.map yu⟩,some ⟨vj,[.agg vj [.sl tN rows.length [] 0 64 true]]⟩]=R0 at*
 simp only[↓ag,ah,simprocAttr]
 refine bx 64 (λi env rs=>has env [(19,.raw (it (i:Int))),(18,.raw (it 64)),(17,.sl cN r p 0 64 ex),(4,.ptr vj (rows.length+1) [0])]/\dz rows rs/\live rs (rows.length+1)=some ⟨vj,[.agg vj [.sl tN rows.length [] 0 64 true]]⟩/\
  ∃x:List Wd,live rs rows.length=some ⟨tN,x.map yu⟩/\x.length=64/\∀j,j<64->x.getD j (0#32,true)=(if j<i then W.getD j 0#32 else 0#32,false)) ?_ ?_ ⟨?_,hK0,hA,tP.ws,hB,rfl,?_⟩
 ·rintro i hi env rs ⟨hh,hK,hA,x,hB,hx,hv⟩ R hR
  simp only[has]at hh
  have e0:((i:Int)<64)=True:=aas (by omega)
  have e1:=cG i (by omega)
  have nA:=hK _ _ hl
  have g:=hg i hi
  have g1:=Ua (x:=x) (i:=i) (by omega)
  have hxi:=hv i hi
  rw[aaC (by omega)]at hxi
  have hxi2:x[i]'(by omega)=(0#32,false):=by simpa[List.getD,hx,hi]using hxi
  rw[hxi2]at g1
  generalize hWi:W.getD i 0#32=v at*
  simp only[↓ag,ah,simprocAttr,aK,hh,e0,e1,nA,g,hA,hB,g1,Ub,abc,aaz,abk]
  refine hR _ _ ⟨by simp only[has,↓ag,ah,simprocAttr,hh],hK.set (aax _) _,dH hA (by omega),_,aD hB,by rw[abe,hx],λj hj=>?_⟩
  rw[aay,acT]
  by_cases c:i=j
  ·subst c
   rw[aaJ rfl,aaJ (by omega),aaJ (by omega),hWi]
   rfl
  ·rw[aaC c,<-aay,hv j hj]
   congr 1
   by_cases c2:j<i
   ·rw[aaJ c2,aaJ (by omega)]
   ·rw[aaC c2,aaC (by omega)]
 ·rintro env rs ⟨hh,hK,hA,x,hB,hx,hv⟩ R
  simp only[has]at hh
  have e0:((64:Int)<64)=False:=aaw (by omega)
  have hxe:x=(YB W).ws:=by
   refine ac7 (by rw[hx];simp[YB,hW]) λj h1 h2=>?_
   have:=hv j (by omega)
   rw[aaJ (by omega)]at this
   simpa[List.getD,h1,YB,hW▸(hx▸h1:j<64)]using this
  subst hxe
  simp only[↓ag,ah,simprocAttr,hh,e0]
  exact hk rs hK hA hB
 ·simp only[has,↓ag,ah,simprocAttr]
 ·intro j hj
  rw[aaC (by omega),tP,aay,ac8,aaJ hj]
  rfl
theorem V5(C C1 C2:aU)(n0:C.fn 130=none)(r0:C.cV 130=some (aB C1 1 oU oT))(n1:C1.fn 56=none)(r1:C1.cV 56=some (aB C2 1 gA gz)){rows:Rows}{r:Nat}{p:List Nat}{ex:Bool}{row:Row}{W:List (BitVec 32)}(hW:W.length=64)
  (hl:live rows r=some row)(hg:∀i,i<64->cM row.els (p++[i])=some (.raw (u32 (W.getD i 0#32)))){K:D->Rows->Prop}
  (hk:∀aa q,dz rows aa->rows.length+1<q->oe aa q (rows.length+1) rows.length (YB W)->K (.cd [.ptr Kz q [0],.raw (it 0)]) aa):
  aB C 1 uv uu [.sl cN r p 0 64 ex] rows K:=by
 refine ae rfl ?_
 unfold uu uv
 simp only[↓ag,ah,simprocAttr,n0,r0]
 refine fof_run C1 C2 n1 r1 hW hl hg λrs hK hA hB=>?_
 have:=aR hA
 simp only[↓ag,ah,simprocAttr,aK]
 exact hk _ _ (hK.trans (dz.app _ _)) this ⟨by rw[a9];rfl,ab hA _,ab hB _,by simp[YB,hW]⟩
def yC:Fn:=zy PX PX (λx y=>decide (x=1#64)&&decide (y.toNat<4294967296)) λ_ y=>(.cd [.raw (u64 0#64),.raw (u64 y)],[])
theorem mul64_ok(C:aU)(hC:aI C P):aQ C.aZ P 187 (Fn.run yC):=by
 refine aJ (Cu C hC) λds rows r h=>?_
 obtain⟨d,e,x,y,rfl,rfl,hd,he,hp,rfl⟩:=dS h
 cases qN hd
 cases qN he
 simp only[aan,aaq]at hp
 obtain⟨rfl,hy⟩:=hp
 refine⟨rfl,ae rfl ?_⟩
 clear h hd he
 unfold tf tg
 have h1:y&&&4294967295#64=y:=by
  apply aaL
  rw[aej]
  have:(4294967295#64).toNat=2^32-1:=by decide
  rw[this,adS];omega
 have h2:y>>>32=0#64:=by
  apply aaL
  rw[abU,abq];simp;omega
 have h3:1#64&&&4294967295#64=1#64:=by decide
 have h4:1#64>>>32=0#64:=by decide
 have h5:0#64&&&4294967295#64=0#64:=by decide
 have h6:0#64>>>32=0#64:=by decide
 simp only[↓ag,ah,simprocAttr,h1,h2,h3,h4,h5,h6,BitVec.one_mul,BitVec.zero_mul,BitVec.mul_zero,BitVec.add_zero]
 exact .val _ rfl
theorem kMul64(rows:Rows)(k:D->Rows->Prop)(y:BitVec 64)(h:y.toNat<4294967296):aG yC rows k [.raw (u64 1#64),.raw (u64 y)]=k (.cd [.raw (u64 0#64),.raw (u64 y)]) rows:=by
 refine(bk rfl (r:=(.cd [.raw (u64 0#64),.raw (u64 y)],[])) ?_).trans ?_
 ·rw[yC,lF (BT _) (BT _) (by simp[h])]
 ·simp[shift,bD,af]
theorem bmul_ok(C:aU)(hC:aI C P)(hm:C.fn 187=some yC):aQ C.aZ P 123 (Fn.run yC):=by
 refine aJ (GJ C hC) λds rows r h=>?_
 obtain⟨d,e,x,y,rfl,rfl,hd,he,hp,rfl⟩:=dS h
 cases qN hd
 cases qN he
 simp only[aan,aaq]at hp
 obtain⟨rfl,hy⟩:=hp
 refine⟨rfl,ae rfl ?_⟩
 clear h hd he
 unfold ww wx
 have k1:=λrows k=>kMul64 rows k y hy
 simp only[↓ag,ah,simprocAttr,hm,k1]
 exact .val _ rfl
def Dv:Fn:=zy eP u9 (λb n=>decide (b.length=1)&&decide (0<=n)&&decide (n<=1048576)) λb n=>eR (List.replicate n.toNat (b.getD 0 0#8)) false
theorem rep_take(l:List (BitVec 8))(x:BitVec 8)(bp c n:Nat)(hl:l.length=n)(h:l.take bp=List.replicate bp x)(hb:bp<=n)(hc:c<=bp)(m:Nat)(hm:m=min c (n-bp)):(aP l bp ((l.take c).take m)).take (bp+m)=List.replicate (bp+m) x:=by
 have e1:(l.take c).take m=List.replicate m x:=by
  have h2:l.take c=List.replicate c x:=by
   have:=ach (List.take c) h
   rw[aco,adY,show min c bp=c by omega]at this
   exact this
  rw[h2,adY,show min m c=m by omega]
 rw[aP,e1,h,acf (by simp),acw,aar (by simp)]
theorem jT{α:Type}(l:List α)(off:Nat)(xs:List α)(h:off+xs.length<=l.length):(aP l off xs).length=l.length:=by
 simp[aP];omega
theorem Bf(l:List (BitVec 8))(off:Nat)(xs:List (BitVec 8)):aP (bs l) off (bs xs)=bs (aP l off xs):=by
 simp[aP,bs]
theorem Jy{rows:Rows}{r off len:Nat}{ex:Bool}{l src:List (BitVec 8)}{k:D->Rows->Prop}(h:live rows r=some ⟨L8,bs l⟩)(hle:off+len<=l.length):
  oq rows L8 (.sl L8 r [] off len ex) (bs src) k=k (.raw (it (min src.length len:Nat))) (rows.set r (some ⟨L8,bs (aP l off (src.take (min src.length len)))⟩)):=by
 unfold oq
 simp only[h,bj,aE,fM,Bf,hle,abf]
 rfl
theorem YC(C:aU)(hC:aI C P)(hm:C.fn 123=some yC):aQ C.aZ P 55 (Fn.run Dv):=by
 refine cA (Iu C hC) λds rows r h=>?_
 obtain⟨d,e,b,n,rfl,rfl,hd,he,hp,rfl⟩:=dS h
 obtain⟨x,hx⟩:=cF hd
 cases bX he
 simp only[aan,aaq]at hp
 obtain⟨⟨hb,h0⟩,hn⟩:=hp
 obtain⟨n,rfl⟩:=aaH h0
 refine⟨rfl,_,.cons hx (.cons (.refl _) .nil),ae rfl ?_⟩
 obtain⟨b0,rfl⟩:∃b0,b=[b0]:=by
  match b,hb with
  |[b0],_=>exact⟨b0,rfl⟩
 clear h hd he hx hb
 unfold xK xL
 have RY:bs [b0]=[.raw (u8 b0)]:=rfl
 have hg:[b0].getD 0 0#8=b0:=rfl
 simp only[RY,hg,aaz]
 by_cases hz:n=0
 ·subst hz
  simp only[↓ag,ah,simprocAttr]
  exact .own L8 0 0 0 true false _ rfl rfl (λh=>by cases h)
 ·have e0:((n:Int)=0)=False:=aaw (by omega)
  have e1:((n:Int)<0)=False:=aaw (by omega)
  have e2:BitVec.ofInt 64 (n:Int)=BitVec.ofNat 64 n:=by simp
  have hnn:(BitVec.ofNat 64 n).toNat=n:=by simp;omega
  have e3:BitVec.ofInt 64 1=1#64:=by decide
  have km:=λrows k=>kMul64 rows k (BitVec.ofNat 64 n) (by omega)
  have e4:(0#64<0#64)=False:=aaw (by decide)
  have e5:(9223372036854775807#64<BitVec.ofNat 64 n)=False:=aaw (by rw[aci,hnn];simp;omega)
  have e6:wz (n:Int)=(n:Int):=bh (by omega)
  have main:∀c:Nat,c=min n 8192->True:=λ_ _=>trivial
  obtain⟨c,hc⟩:∃c,c=min n 8192:=⟨_,rfl⟩
  have hcz:((n:Int)=((n:Nat):Int)):=rfl
  have z1:((0:Int)<=(n:Int))=True:=aas (by omega)
  have z2:((n:Int)<=1099511627776)=True:=aas (by omega)
  have z3:∀l:List (BitVec 8),(l.map λb=>D.raw (.int .u8 (b.toNat:Int)))=bs l:=λ_=>rfl
  by_cases hbig:8192<n
  all_goals
   have e7:((8192:Int)<(n:Int))=(8192<n):=by rw[eq_iff_iff];omega
   simp only[hbig,acZ,ad9]at e7
   have z4:Int.tdiv 8192 1=8192:=by decide
   simp only[↓ag,ah,simprocAttr,e0,e1,e2,e3,e4,e5,e6,e7,hm,km,hnn,z1,z2,z3,z4]
   try simp only[↓ag,ah,simprocAttr,e0,e1,e2,e3,e4,e5,e6,e7,hm,km,hnn,z1,z2,z3,z4]
   intro l hl
   refine Eq.mpr (Jy (l:=l) (src:=[b0]) rfl (by omega)) ?_
   have wg:min [b0].length (n-0)=1:=by simp;omega
   have hsp:(aP l 0 ([b0].take 1)).take 1=List.replicate 1 b0:=by simp[aP]
   have mH:(aP l 0 ([b0].take 1)).length=n:=by rw[jT _ _ _ (by simp;omega),hl]
   rw[wg]
   generalize aP l 0 ([b0].take 1)=l1 at*
   simp only[↓ag,ah,simprocAttr]
   refine qM (λk env rows=>∃bp:Nat,∃l2:List (BitVec 8),k=n-bp/\1<=bp/\bp<=n/\l2.length=n/\l2.take bp=List.replicate bp b0/\has env [(10,.raw (it (bp:Int))),(7,.raw (it (n:Int))),(8,.raw (it (c:Int))),(9,.sl L8 0 [] 0 n (qB (some (n:Int)) n n n false))]/\rows=[some ⟨L8,bs l2⟩]) ?_ (n-1) ⟨1,l1,rfl,aax _,by omega,mH,hsp,?_,rfl⟩
   ·rintro k env rows ⟨bp,l2,rfl,zt,hbn,Ea,ht,hh,rfl⟩ R hR
    simp only[has]at hh
    obtain⟨h10,h7,h8,h9,-⟩:=hh
    by_cases hlt:bp<n
    ·have f0:((bp:Int)<(n:Int))=True:=aas (by omega)
     have f1:min (bp:Int) (c:Int)=((min bp c:Nat):Int):=by omega
     have f2:((0:Int)<=(bp:Int))=True:=aas (by omega)
     have f3:((bp:Int)<=(n:Int))=True:=aas (by omega)
     have f4:((0:Int)<=((min bp c:Nat):Int))=True:=aas (by omega)
     have f5:(((min bp c:Nat):Int)<=(n:Int))=True:=aas (by omega)
     simp only[↓ag,ah,simprocAttr,h10,h7,h8,h9,f0,f1,f2,f3,f4,f5,aaD]
     rw[acV,fM]
     refine⟨by rw[aE,aau];omega,Eq.mpr (Jy rfl (by omega)) ?_⟩
     obtain⟨m,hm'⟩:∃m,m=min ((l2.take (min bp c)).length) (n-bp):=⟨_,rfl⟩
     have KJ:m=min (min bp c) (n-bp):=by rw[hm',aau];omega
     have hr:=rep_take l2 b0 bp (min bp c) n Ea ht hbn (by omega) m KJ
     have hsl2:(aP l2 bp ((l2.take (min bp c)).take m)).length=n:=by rw[jT _ _ _ (by rw[aau,aau];omega),Ea]
     rw[<-hm']
     generalize aP l2 bp ((l2.take (min bp c)).take m)=l3 at*
     have f6:wz ((bp:Int)+(m:Int))=((bp+m:Nat):Int):=by rw[bh (by omega)];omega
     simp only[↓ag,ah,simprocAttr,h10,h7,h8,h9,f6]
     exact hR (n-(bp+m)) _ _ (by omega) ⟨bp+m,l3,rfl,by omega,by omega,hsl2,hr,by simp only[has,↓ag,ah,simprocAttr,h7,h8,h9],rfl⟩
    ·obtain rfl:bp=n:=by omega
     have f0:((bp:Int)<(bp:Int))=False:=aaw (by omega)
     rw[aar (by omega)]at ht
     simp only[↓ag,ah,simprocAttr,h10,h7,h8,h9,f0,aaE,ht]
     subst ht
     exact jy.No (l:=List.replicate bp b0) (.inr ⟨0,_,by rw[aE,aaN],rfl⟩)
   ·simp only[has,↓ag,ah,simprocAttr,hc,acV]
    first|(rw[show min n 8192=8192 by omega];rfl)|rw[show min n 8192=n by omega]
theorem kRepeat{rows:Rows}{d:D}{b:BitVec 8}(h:aY rows d [b])(n:Nat)(hn:n<=1048576)(k:D->Rows->Prop):
  aG Dv rows k [d,.raw (it (n:Int))]=k (.sl L8 (0+rows.length) [] 0 n false) (rows++[some ⟨L8,bs (List.replicate n b)⟩]):=by
 refine(N3 h (qd (n:Int)) (by simp;omega) rfl).trans ?_
 simp[eR,shift,af,Sh.pure]
abbrev SF:Sh:=S17
abbrev FV:=Option (List (BitVec 8)×Bool)
def GY:FV->D
 |none=> .raw (.pointer none)
 |some (x,e)=> .cb (.agg SF [.dh L8 (bs x) e])
theorem bs_injF{a b:List (BitVec 8)}(h:bs a=bs b):a=b:=(adh λx y hxy=>by cases(D.raw.inj hxy:u8 x=u8 y)|>AQ.1;rfl).1 h
theorem Dw(x y:FV)(h:GY x=GY y):x=y:=by
 rcases x with _|⟨x,e⟩<;>rcases y with _|⟨y,f⟩
 ·rfl
 ·cases h
 ·cases h
 ·unfold GY at h
  injection h with h
  injection h with _ h
  injection h with h _
  injection h with _ h h2
  rw[bs_injF h,h2]
def sr:FV->Nat
 |none=>0
 |some (x,_)=>x.length
def mP:FV->Int->Int->Int
 |none,_,_=>3
 |some (x,_),a,n=>if a<0\/n<0\/(x.length:Int)<a\/(x.length:Int)-a<n then 9 else 0
def errP:FV->Int->Int
 |none,_=>3
 |some (x,_),i=>if i<0\/((x.length/256:Nat):Int)<=i then 9 else 0
noncomputable def vR:Fn:=Kx (cj GY) u9 u9 (λK _ _=>decide (sr K<=1048576)) λK a n=>(.raw (it (mP K a n)),[])
theorem Mz(C:aU)(hC:aI C P):aQ C.aZ P 57 (Fn.run vR):=by
 refine aJ (xM C hC) λds rows r h=>?_
 obtain⟨d,e,f,K,a,n,rfl,rfl,hd,he,hf,hp,rfl⟩:=fV h
 cases aH hd
 cases bX he
 cases bX hf
 simp only[aaq]at hp
 refine⟨rfl,ae rfl ?_⟩
 clear h hd he hf
 unfold pJ pK
 rcases K with _|⟨x,e⟩
 ·simp only[GY,↓ag,ah,simprocAttr,mP]
  exact .val _ rfl
 ·simp only[sr]at hp
  simp only[GY,mP]
  by_cases c1:a<0
  ·simp only[↓ag,ah,simprocAttr,c1,aew,abR]
   exact .val _ rfl
  by_cases c2:n<0
  ·simp only[↓ag,ah,simprocAttr,c1,c2,aew,or_true,abR,aaE,aaD]
   exact .val _ rfl
  by_cases c3:(x.length:Int)<a
  ·simp only[↓ag,ah,simprocAttr,aE,c1,c2,c3,aew,or_true,abR,aaE,aaD]
   exact .val _ rfl
  have e1:wz ((x.length:Int)-a)=(x.length:Int)-a:=bh (by omega)
  by_cases c4:(x.length:Int)-a<n
  ·simp only[↓ag,ah,simprocAttr,aE,c1,c2,c3,c4,e1,aew,or_true,abR,aaE,aaD]
   exact .val _ rfl
  ·simp only[↓ag,ah,simprocAttr,aE,c1,c2,c3,c4,e1,or_self,abP,aaE,aaD]
   exact .val _ rfl
noncomputable def fPageE:Fn:=zy (cj GY) u9 (λK _=>decide (sr K<=1048576)) λK i=>(.raw (it (errP K i)),[])
theorem page_ok(C:aU)(hC:aI C P):aQ C.aZ P 196 (Fn.run fPageE):=by
 refine aJ (A7 C hC) λds rows r h=>?_
 obtain⟨d,e,K,i,rfl,rfl,hd,he,hp,rfl⟩:=dS h
 cases aH hd
 cases bX he
 simp only[aaq]at hp
 refine⟨rfl,ae rfl ?_⟩
 clear h hd he
 unfold rT rU
 rcases K with _|⟨x,e⟩
 ·simp only[GY,↓ag,ah,simprocAttr,errP]
  exact .val _ rfl
 ·simp only[sr]at hp
  simp only[GY,errP]
  have e1:(x.length:Int).tdiv 256=((x.length/256:Nat):Int):=rfl
  have e2:wz ((x.length/256:Nat):Int)=((x.length/256:Nat):Int):=bh (by omega)
  by_cases c1:i<0
  ·simp only[↓ag,ah,simprocAttr,c1,aew,abR]
   exact .val _ rfl
  by_cases c2:((x.length/256:Nat):Int)<=i
  ·simp only[↓ag,ah,simprocAttr,aE,e1,e2,c1,c2,aew,or_true,abR,aaE,aaD]
   exact .val _ rfl
  ·simp only[↓ag,ah,simprocAttr,aE,e1,e2,c1,c2,or_self,abP,aaE,aaD]
   exact .val _ rfl
def clr1(a b:List (BitVec 8))(i:Nat):Prop:=b.getD i 0#8&&&~~~a.getD i 0#8=0#8
def clears(a b:List (BitVec 8)):Prop:=∀i,i<b.length->clr1 a b i
noncomputable def Dx:Fn:=zy eP eP (λa b=>decide (b.length<=a.length)&&decide (a.length<=1048576)) λa b=>(.raw (.bool (open Classical in decide (clears a b))),[])
theorem YD(C:aU)(hC:aI C P):aQ C.aZ P 58 (Fn.run Dx):=by
 refine cA (Iv C hC) λds rows r h=>?_
 obtain⟨d,e,a,b,rfl,rfl,hd,he,hp,rfl⟩:=dS h
 obtain⟨x,hx⟩:=cF hd
 obtain⟨y,hy⟩:=cF he
 simp only[aan,aaq]at hp
 obtain⟨hp,qL⟩:=hp
 refine⟨rfl,_,.cons hx (.cons hy .nil),ae rfl ?_⟩
 clear h hd he hx hy
 unfold xN xO
 simp only[↓ag,ah,simprocAttr,aE]
 refine bx b.length (λi env rows=>has env [(9,.raw (it (i:Int))),(8,.raw (it (b.length:Int))),(7,.dh L8 (bs b) y),(0,.dh L8 (bs a) x)]/\rows=[]/\∀j,j<i->clr1 a b j) ?_ ?_ ⟨?_,rfl,λj h=>by omega⟩
 ·rintro i hi env rows ⟨hh,rfl,hc⟩ R hR
  simp only[has]at hh
  obtain⟨h9,h8,h7,h0,-⟩:=hh
  have e0:((i:Int)<(b.length:Int))=True:=aas (by omega)
  have e2:=cG i (by omega)
  have g1:∀rows k,pC L8 (i:Int) rows k (.dh L8 (bs b) y)=k (.cb (.raw (u8 (b.getD i 0#8)))) rows:=λrows k=>TA b y i hi rows k
  have g2:∀rows k,pC L8 (i:Int) rows k (.dh L8 (bs a) x)=k (.cb (.raw (u8 (a.getD i 0#8)))) rows:=λrows k=>TA a x i (by omega) rows k
  by_cases hz:clr1 a b i
  ·have Gs:b.getD i 0#8&&&~~~a.getD i 0#8=0#8:=hz
   simp only[↓ag,ah,simprocAttr,h9,h8,h7,h0,e0,e2,g1,g2,Gs,aaD]
   exact hR _ _ ⟨by simp only[has,↓ag,ah,simprocAttr,h8,h7,h0],rfl,λj hj=>by
    rcases aaT j i with h|h
    ·exact hc j h
    ·obtain rfl:j=i:=by omega
     exact hz⟩
  ·have Gs:(b.getD i 0#8&&&~~~a.getD i 0#8=0#8)=False:=aaw hz
   have hno:(open Classical in decide (clears a b))=false:=by
    classical
    rw[ab0]
    exact λh=>hz (h i hi)
   simp only[↓ag,ah,simprocAttr,h9,h8,h7,h0,e0,e2,g1,g2,Gs,hno,aaD,aaE]
   exact .val _ rfl
 ·rintro env rows ⟨hh,rfl,hc⟩ R
  simp only[has]at hh
  obtain⟨h9,h8,h7,h0,-⟩:=hh
  have e0:((b.length:Int)<(b.length:Int))=False:=aaw (by omega)
  have hy:(open Classical in decide (clears a b))=true:=by
   classical
   rw[decide_eq_true_iff]
   exact hc
  simp only[↓ag,ah,simprocAttr,h9,h8,h7,h0,e0,hy,aaE]
  exact .val _ rfl
 ·simp only[has,↓ag,ah,simprocAttr]
structure fW (rows:Rows) (r m:Nat) (x:List (BitVec 8)):Prop where
 ptr:∃ex,live rows r=some ⟨SF,[.agg SF [.sl L8 m [] 0 x.length ex]]⟩
 dat:live rows m=some ⟨L8,bs x⟩
theorem fW.view{rows:Rows}{r m:Nat}{x:List (BitVec 8)}(h:fW rows r m x):∃e,view rows 9 (.ptr SF r [0])=some (GY (some (x,e))):=by
 obtain⟨⟨ex,h1⟩,h2⟩:=h
 refine⟨ex,?_⟩
 have he:elems rows (.sl L8 m [] 0 x.length ex)=some (bs x):=by
  simp only[elems,h2];simp[lL]
 simp only[Am.view,h1,cM,abG,D.get,GY,Sh.pure,eK]
 rw[he]
 simp[aE,eK,he]
theorem fW.push{rows:Rows}{r m:Nat}{x:List (BitVec 8)}(h:fW rows r m x)(more:Rows):fW (rows++more) r m x:=by
 obtain⟨⟨ex,h1⟩,h2⟩:=h
 exact⟨⟨ex,bG h1⟩,bG h2⟩
theorem fW.set{rows:Rows}{r m:Nat}{x:List (BitVec 8)}(h:fW rows r m x){q:Nat}{y:Row}(h1:q≠r)(h2:q≠m):fW (rows.set q (some y)) r m x:=by
 obtain⟨⟨ex,g1⟩,g2⟩:=h
 exact⟨⟨ex,dH g1 h1⟩,dH g2 h2⟩
def Ud(rows:Rows)(d:D)(K:FV):Prop:=(bb d=true/\view rows 9 d=some (GY K))\/(d=GY K/\bb d=false)
theorem fW.to{rows:Rows}{r m:Nat}{x:List (BitVec 8)}(h:fW rows r m x):∃e,Ud rows (.ptr SF r [0]) (some (x,e)):=by
 obtain⟨e,h⟩:=h.view
 exact⟨e,.inl ⟨by simp[bb],h⟩⟩
theorem Jz{F:Fn}{rows:Rows}{d:D}{K:FV}(h:Ud rows d K){vs:List D}(hv:eK (view rows 9) vs=some vs)(hn:aX vs=false){r:D×Rows}(hF:F (GY K::vs) []=some r)(hr:(cv r.1&&bf r.2)=true)(k:D->Rows->Prop):
  aG F rows k (d::vs)=k (shift rows.length r.1) (rows++af rows.length r.2):=by
 unfold aG
 rcases h with⟨h1,h2⟩|⟨rfl,h2⟩
 ·simp[aX,h1,eK,h2,hv,bj,hF,hr]
 ·simp[aX,h2,hn,bj,hF]
theorem V6{rows:Rows}{d:D}{K:FV}(h:Ud rows d K)(hl:sr K<=1048576)(a n:Int)(k:D->Rows->Prop):aG vR rows k [d,.raw (it a),.raw (it n)]=k (.raw (it (mP K a n))) rows:=by
 refine(Jz h rfl rfl (r:=(.raw (it (mP K a n)),[])) ?_ rfl k).trans ?_
 ·simp only[vR,Ba,bZ Dw,qd,abg,hl,aaD,aaU]
 ·simp[shift,af]
theorem kClears{rows:Rows}{d e:D}{a b:List (BitVec 8)}(h:aY rows d a)(h':aY rows e b)(hb:b.length<=a.length)(ha:a.length<=1048576)(k:D->Rows->Prop):aG Dx rows k [d,e]=k (.raw (.bool (open Classical in decide (clears a b)))) rows:=by
 refine(Em h h' (by simp[hb,ha]) rfl).trans ?_
 simp[shift,af]
theorem Oj{x:List (BitVec 8)}{e:Bool}{a n:Int}(h:mP (some (x,e)) a n=0):0<=a/\0<=n/\a<=x.length/\n<=x.length-a:=by
 simp only[mP]at h
 split at h
 ·cases h
 ·omega
def sub(x:List (BitVec 8))(a n:Nat):List (BitVec 8):=(x.drop a).take n
theorem tz{x:List (BitVec 8)}{a n:Nat}(h:a+n<=x.length):(sub x a n).length=n:=by
 rw[sub,aau,aat];omega
def tA:FV->List (BitVec 8)
 |none=>[]
 |some (x,_)=>x
def JA(K:FV)(a n:Int):D×Rows:=
 if mP K a n=0 then(.cd [.sl L8 0 [] 0 n.toNat false,.raw (it 0)],[some ⟨L8,bs (sub (tA K) a.toNat n.toNat)⟩])else(.cd [.raw (.slice none 0 0),.raw (it (mP K a n))],[])
noncomputable def Av:Fn:=Kx (cj GY) u9 u9 (λK _ _=>decide (sr K<=1048576)) JA
theorem lstIn(rows:Rows)(l:List (BitVec 8))(e:Bool):aY rows (.dh L8 (bs l) e) l:=eC.to (.inr ⟨e,rfl⟩)
theorem Ue(rows:Rows)(K:FV):Ud rows (GY K) K:=by
 refine .inr ⟨rfl,?_⟩
 rcases K with _|⟨x,e⟩<;>simp[GY,bb,aX,Sh.pure]
theorem read_ok(C:aU)(hC:aI C P)(hw:C.fn 57=some vR)(hc:C.fn 114=some oX):aQ C.aZ P 152 (Fn.run Av):=by
 refine aJ (AX C hC) λds rows r h=>?_
 obtain⟨d,e,f,K,a,n,rfl,rfl,hd,he,hf,hp,rfl⟩:=fV h
 cases aH hd
 cases bX he
 cases bX hf
 simp only[aaq]at hp
 refine⟨rfl,ae rfl ?_⟩
 clear h hd he hf
 unfold rG rH
 have k1:=λrows k=>V6 (Ue rows K) hp a n k
 by_cases h0:mP K a n=0
 ·rw[JA,aaJ h0]
  rcases K with _|⟨x,e⟩
  ·cases h0
  simp only[sr]at hp
  obtain⟨b1,b2,b3,b4⟩:=Oj h0
  rw[h0]at k1
  obtain⟨a,rfl⟩:=aaH b1
  obtain⟨n,rfl⟩:=aaH b2
  have e1:wz ((a:Int)+(n:Int))=((a+n:Nat):Int):=by rw[bh (by omega)];omega
  have e2:((0:Int)<=(a:Int))=True:=aas (by omega)
  have e3:((a:Int)<=((a+n:Nat):Int))=True:=aas (by omega)
  have e4:(((a+n:Nat):Int)<=(x.length:Int))=True:=aas (by omega)
  have e5:a+n-a=n:=by omega
  have mH:(sub x a n).length=n:=tz (by omega)
  have kc:=λrows k e=>EV rows k (.dh L8 (bs (sub x a n)) e) (sub x a n) (lstIn rows _ e) (by omega)
  rw[mH]at kc
  have hsb:((x.drop a).take n)=sub x a n:=rfl
  simp only[GY]at k1⊢
  simp only[↓ag,ah,simprocAttr,hw,k1,hc,kc,aE,hU,fM,hsb,e1,e2,e3,e4,e5,tA]
  exact .Nl L8 0 0 n _ false _ _ rfl rfl rfl (λh=>by cases h)
 ·rw[JA,aaC h0]
  have h1:(mP K a n=0)=False:=aaw h0
  simp only[↓ag,ah,simprocAttr,hw,k1,h1]
  exact .val _ rfl
theorem kRead{rows:Rows}{d:D}{K:FV}(h:Ud rows d K)(hl:sr K<=1048576)(a n:Int)(k:D->Rows->Prop):aG Av rows k [d,.raw (it a),.raw (it n)]=k (shift rows.length (JA K a n).1) (rows++af rows.length (JA K a n).2):=by
 refine Jz h rfl rfl (r:=JA K a n) ?_ ?_ k
 ·simp only[Av,Ba,bZ Dw,qd,abg,hl,aaD,aaU]
 ·unfold JA;split<;>rfl
theorem QU{rows:Rows}{r m:Nat}{x:List (BitVec 8)}(h:fW rows r m x)(hl:x.length<=1048576)(a n:Nat)(ha:a+n<=x.length)(k:D->Rows->Prop):
  aG Av rows k [.ptr SF r [0],.raw (it (a:Int)),.raw (it (n:Int))]=k (.cd [.sl L8 rows.length [] 0 n false,.raw (it 0)]) (rows++[some ⟨L8,bs (sub x a n)⟩]):=by
 obtain⟨e,h⟩:=h.to
 rw[kRead h hl]
 have h0:mP (some (x,e)) (a:Int) (n:Int)=0:=by
  simp only[mP];rw[aaC (by omega)]
 rw[JA,aaJ h0]
 simp[shift,bD,af,Sh.pure,tA]
end kj
end Go.Am
namespace Go.Am
attribute [local congr] cJ bI cK bJ bK b6 bw bN bO b7 bi b8 bP cI
namespace kj
open Go.Am.F
end kj
end Go.Am
namespace Go.Am
attribute [local congr] cJ bI cK bJ bK b6 bw bN bO b7 bi b8 bP cI
namespace kj
open Go.Am.F
def GF:Nat->Option D:=λ_=>none
noncomputable def CF:aU:=⟨GF,mz [(196,fPageE),(57,vR),(58,Dx),(114,oX),(55,Dv),(123,yC),(187,yC)],λ_=>none,λ_=>none⟩
theorem ctxF:aI CF P:=
 have c0:=Vs (G:=GF) (P:=P)
 have c1:=az (mul64_ok _ c0) c0
 have c2:=az (bmul_ok _ c1 rfl) c1
 have c3:=az (YC _ c2 rfl) c2
 have c4:=az (QA _ c3) c3
 have c5:=az (YD _ c4) c4
 have c6:=az (Mz _ c5) c5
 az (page_ok _ c6) c6
theorem JB:CF.fn 57=some vR:=rfl
theorem QV:CF.fn 58=some Dx:=rfl
theorem f_clone:CF.fn 114=some oX:=rfl
theorem f_repeat:CF.fn 55=some Dv:=rfl
theorem JD{rows:Rows}{m:Nat}{row:Row}(h:live rows m=some row):rows.set m (some row)=rows:=by
 refine abX λi=>?_
 rw[acT]
 split
 ·rename_i e
  subst e
  have hl:=aR h
  unfold live at h
  rw[aaJ hl]
  split at h
  ·rename_i r hr
   cases h
   exact hr.symm
  ·cases h
 ·rfl
theorem fW.ne{rows:Rows}{r m:Nat}{x:List (BitVec 8)}(h:fW rows r m x):r≠m:=by
 obtain⟨⟨ex,h1⟩,h2⟩:=h
 intro e
 subst e
 rw[h1]at h2
 injection h2 with h2
 injection h2 with h2 _
 cases h2
theorem fW.u6{rows:Rows}{r m:Nat}{x y:List (BitVec 8)}(h:fW rows r m x)(hy:y.length=x.length):fW (rows.set m (some ⟨L8,bs y⟩)) r m y:=by
 have hne:=h.ne
 obtain⟨⟨ex,h1⟩,h2⟩:=h
 exact⟨⟨ex,by rw[hy];exact dH h1 hne.symm⟩,aD h2⟩
noncomputable def V7(x:List (BitVec 8))(a:Int)(p:List (BitVec 8)):Int:=open Classical in
 if mP (some (x,false)) a p.length≠0 then mP (some (x,false)) a p.length else if clears (x.drop a.toNat) p then 0 else 14
noncomputable def Ok(x:List (BitVec 8))(a:Int)(p:List (BitVec 8)):List (BitVec 8):=open Classical in if V7 x a p=0 then aP x a.toNat p else x
theorem wrE_ok{x:List (BitVec 8)}{a:Int}{p:List (BitVec 8)}(h:V7 x a p=0):0<=a/\a.toNat+p.length<=x.length/\clears (x.drop a.toNat) p:=by
 unfold V7 at h
 split at h
 ·rename_i h2;exact absurd h h2
 ·rename_i h2
  have h3:=Oj (Decidable.of_not_not h2)
  split at h
  ·rename_i h4
   exact⟨h3.1,by omega,h4⟩
  ·cases h
theorem mJ(x:List (BitVec 8))(a:Int)(p:List (BitVec 8)):(Ok x a p).length=x.length:=by
 unfold Ok
 split
 ·rename_i h
  have:=wrE_ok h
  exact jT _ _ _ this.2.1
 ·rfl
theorem YE{rows:Rows}{r m q:Nat}{x p:List (BitVec 8)}{ex:Bool}(h:fW rows r m x)(hq:live rows q=some ⟨L8,bs p⟩)(hx:x.length<=1048576)(hp:p.length<=1048576)(a:Int){K:D->Rows->Prop}
  (hk:K (.raw (it (V7 x a p))) (rows.set m (some ⟨L8,bs (Ok x a p)⟩))):aB CF 3 dO dN [.ptr SF r [0],.raw (it a),.sl L8 q [] 0 p.length ex] rows K:=by
 obtain⟨e,hin⟩:=h.to
 have kw:=λk=>V6 hin hx a p.length k
 have hee:mP (some (x,e)) a p.length=mP (some (x,false)) a p.length:=rfl
 obtain⟨⟨e2,h1⟩,h2⟩:=h
 simp only[ii]
 unfold dN dO
 rw[hee]at kw
 by_cases h0:mP (some (x,false)) a p.length=0
 ·obtain⟨b1,b2,b3,b4⟩:=Oj h0
  obtain⟨a,rfl⟩:=aaH b1
  rw[h0]at kw
  have f1:((0:Int)<=(a:Int))=True:=aas (by omega)
  have f2:((a:Int)<=(x.length:Int))=True:=aas (by omega)
  have tR:((x.drop a).take (x.length-a))=x.drop a:=aar (by rw[aat];omega)
  have kc:∀e3 k,aG Dx rows k [.sl L8 m [] a (x.length-a) e3,.sl L8 q [] 0 p.length ex]=k (.raw (.bool (open Classical in decide (clears (x.drop a) p)))) rows:=λe3 k=>by
   have hbi:=aY.sub (rows:=rows) (r:=m) (off:=a) (len:=x.length-a) (ex:=e3) h2 (by omega:a+(x.length-a)<=x.length)
   rw[tR]at hbi
   exact kClears hbi (aY.own hq _ rfl) (by rw[aat];omega) (by rw[aat];omega) k
  by_cases c:clears (x.drop a) p
  ·have hE:V7 x (a:Int) p=0:=by rw[V7,aaC (by rw[h0];simp),aaz,aaJ c]
   have hX:Ok x (a:Int) p=aP x a p:=by rw[Ok,aaJ hE];rfl
   rw[hE,hX]at hk
   have hdc:(open Classical in decide (clears (x.drop a) p))=true:=by classical exact abA c
   rw[hdc]at kc
   simp only[↓ag,ah,simprocAttr,JB,QV,kw,kc,h1,hq,aE,lL,f1,f2]
   refine Eq.mpr (Jy (l:=x) h2 (by omega)) ?_
   rw[show min p.length (x.length-a)=p.length by omega,aa8]
   simp only[↓ag,ah,simprocAttr]
   exact hk
  ·have hE:V7 x (a:Int) p=14:=by rw[V7,aaC (by rw[h0];simp),aaz,aaC c]
   have hX:Ok x (a:Int) p=x:=by rw[Ok,aaC (by rw[hE];decide)]
   rw[hE,hX,JD h2]at hk
   have hdc:(open Classical in decide (clears (x.drop a) p))=false:=by classical exact aa7 c
   rw[hdc]at kc
   simp only[↓ag,ah,simprocAttr,JB,QV,kw,kc,h1,hq,aE,lL,f1,f2]
   exact hk
 ·have hE:V7 x a p=mP (some (x,false)) a p.length:=by rw[V7,aaJ h0]
  have hX:Ok x a p=x:=by rw[Ok,aaC (by rw[hE];exact h0)]
  rw[hE,hX,JD h2]at hk
  have EZ:(mP (some (x,false)) a p.length=0)=False:=aaw h0
  simp only[↓ag,ah,simprocAttr,JB,kw,EZ,aaE]
  exact hk
theorem copy_run{rows:Rows}{r m:Nat}{x:List (BitVec 8)}(h:fW rows r m x)(hx:x.length<=1048576){K:D->Rows->Prop}
  (hk:K (.ptr SF (rows.length+1) [0]) (rows++[some ⟨L8,bs x⟩,some ⟨SF,[.agg SF [.sl L8 rows.length [] 0 x.length false]]⟩])):aB CF 1 fE fD [.ptr SF r [0]] rows K:=by
 obtain⟨⟨e2,h1⟩,h2⟩:=h
 have kc:=λk e=>EV rows k (.sl L8 m [] 0 x.length e) x (aY.own h2 _ rfl) (by omega)
 simp only[ii]
 unfold fD fE
 simp only[↓ag,ah,simprocAttr,aK,f_clone,h1,kc]
 exact hk
theorem QW{rows:Rows}(n:Nat)(hn:n<=1024){K:D->Rows->Prop}
  (hk:K (.cd [.ptr SF (rows.length+2) [0],.raw (it 0)]) (rows++[some ⟨L8,[.raw (u8 255#8)]⟩,some ⟨L8,bs (List.replicate (256*n) 255#8)⟩,some ⟨SF,[.agg SF [.sl L8 (rows.length+1) [] 0 (256*n) false]]⟩])):aB CF 1 lH lG [.raw (it (n:Int))] rows K:=by
 have e1:((n:Int)<0)=False:=aaw (by omega)
 have e2:((1024:Int)<(n:Int))=False:=aaw (by omega)
 have w1:wz (256*(n:Int))=((256*n:Nat):Int):=by rw[bh (by omega)];omega
 obtain⟨z,hz⟩:∃z,z=List.replicate (256*n) 255#8:=⟨_,rfl⟩
 have kr:∀k,aG Dv (rows++[some ⟨L8,[.raw (u8 255#8)]⟩]) k [.sl L8 rows.length [] 0 1 true,.raw (it ((256*n:Nat):Int))]=k (.sl L8 (rows.length+1) [] 0 (256*n) false) (rows++[some ⟨L8,[.raw (u8 255#8)]⟩,some ⟨L8,bs z⟩]):=λk=>by
  rw[hz]
  have:=kRepeat (rows:=rows++[some ⟨L8,[.raw (u8 255#8)]⟩]) (d:= .sl L8 rows.length [] 0 1 true) (b:=255#8) (aY.own (l:=[255#8]) (by rw[a9];rfl) _ rfl) (256*n) (by omega) k
  simp only[aap,aaP,aaV,abk,aaB,abu,aaZ]at this
  exact this
 rw[<-hz]at hk
 simp only[ii]
 unfold lG lH
 simp only[↓ag,ah,simprocAttr,aK,f_repeat,e1,e2,w1,kr,aaE]
 exact hk
theorem wr_ok{x p:List (BitVec 8)}{a:Nat}(h:a+p.length<=x.length)(hc:clears (x.drop a) p):V7 x (a:Int) p=0/\Ok x (a:Int) p=aP x a p:=by
 have h0:mP (some (x,false)) (a:Int) p.length=0:=by
  simp only[mP];rw[aaC (by omega)]
 have hE:V7 x (a:Int) p=0:=by rw[V7,aaC (by rw[h0];simp),aaz,aaJ hc]
 exact⟨hE,by rw[Ok,aaJ hE];rfl⟩
def Ol(a b:List (BitVec 8)):Bool:=(List.range b.length).all λi=>decide (b.getD i 0#8&&&~~~a.getD i 0#8=0#8)
theorem Uf(a b:List (BitVec 8)):clears a b↔Ol a b=true:=by
 simp only[clears,clr1,Ol,aa4,adq,aaq]
theorem fW.new{rows:Rows}{n:Nat}{z:List (BitVec 8)}(hz:z=List.replicate (256*n) 255#8):fW (rows++[some ⟨L8,[.raw (u8 255#8)]⟩,some ⟨L8,bs z⟩,some ⟨SF,[.agg SF [.sl L8 (rows.length+1) [] 0 (256*n) false]]⟩]) (rows.length+2) (rows.length+1) z:=by
 refine⟨⟨false,?_⟩,?_⟩
 ·rw[bg,hz,aaN];rfl
 ·rw[bg];rfl
structure Upd (rows aa:Rows) (r m:Nat) (x:List (BitVec 8)):Prop where
 fl:fW aa r m x
 frame:∀q row,live rows q=some row->q≠m->live aa q=some row
structure Made (rows aa:Rows) (r m:Nat) (x:List (BitVec 8)):Prop where
 fl:fW aa r m x
 frame:∀q row,live rows q=some row->live aa q=some row
 hr:rows.length<=r
 hm:rows.length<=m
theorem fW.lt{rows:Rows}{r m:Nat}{x:List (BitVec 8)}(h:fW rows r m x):r<rows.length/\m<rows.length:=by
 obtain⟨⟨ex,h1⟩,h2⟩:=h
 exact⟨aR h1,aR h2⟩
theorem fW.keep{rows aa:Rows}{r m r2 m2:Nat}{x y:List (BitVec 8)}(h:fW rows r m x)(U:Upd rows aa r2 m2 y)(h1:r≠m2)(h2:m≠m2):fW aa r m x:=by
 obtain⟨⟨ex,g1⟩,g2⟩:=h
 exact⟨⟨ex,U.frame _ _ g1 h1⟩,U.frame _ _ g2 h2⟩
theorem upd_set0{rows:Rows}{r m:Nat}{x y:List (BitVec 8)}(h:fW rows r m x)(hy:y.length=x.length):Upd rows (rows.set m (some ⟨L8,bs y⟩)) r m y:=
 ⟨h.u6 hy,λq row hq hn=>dH hq hn.symm⟩
theorem Ug{rows:Rows}{r m q:Nat}{x p:List (BitVec 8)}{ex:Bool}(h:fW rows r m x)(hq:live rows q=some ⟨L8,bs p⟩)(hx:x.length<=1048576)(hp:p.length<=1048576)(a:Int){K:D->Rows->Prop}
  (hk:∀aa,Upd rows aa r m (Ok x a p)->K (.raw (it (V7 x a p))) aa):aB CF 3 dO dN [.ptr SF r [0],.raw (it a),.sl L8 q [] 0 p.length ex] rows K:=
 YE h hq hx hp a (hk _ (upd_set0 h (mJ x a p)))
theorem copyA{rows:Rows}{r m:Nat}{x:List (BitVec 8)}(h:fW rows r m x)(hx:x.length<=1048576){K:D->Rows->Prop}
  (hk:∀aa r' m',Made rows aa r' m' x->K (.ptr SF r' [0]) aa):aB CF 1 fE fD [.ptr SF r [0]] rows K:=by
 refine copy_run h hx (hk _ (rows.length+1) rows.length ⟨⟨⟨false,?_⟩,?_⟩,λq row hq=>bG hq,by omega,by omega⟩)
 ·rw[bg];rfl
 ·rw[a9];rfl
end kj
end Go.Am
namespace Go.Am
attribute [local congr] cJ bI cK bJ bK b6 bw bN bO b7 bi b8 bP cI
namespace kj
open Go.Am.F
end kj
end Go.Am
namespace Go.Am
attribute [local congr] cJ bI cK bJ bK b6 bw bN bO b7 bi b8 bP cI
namespace kj
open Go.Am.F
theorem o7{α:Type}{x:Option α}{a:α}{k:α->Prop}(h:x=some a)(hk:k a):bj x k:=by rw[h];exact hk
noncomputable def QX{α:Type}(mk:α->List D)(pre:α->Bool)(out:α->D):Fn:=λds rows=>open Classical in if h:rows=[]/\∃x,ds=mk x/\pre x=true then some (out h.2.choose,[])else none
theorem gQ{α:Type}{mk:α->List D}{pre:α->Bool}{out:α->D}{f:FuncId}{A:lQ}{G:Nat->Option D}(hA:aQ G P f A)(h:∀x,pre x=true->A (mk x) [] λd rows=>xE rows d (out x) []):aQ G P f (Fn.run (QX mk pre out)):=by
 refine aJ hA λds rows r hr=>?_
 unfold QX at hr
 split at hr
 ·rename_i hh
  cases hr
  obtain⟨rfl,hx⟩:=hh
  have hs:=hx.choose_spec
  generalize hx.choose=y at hs⊢
  obtain⟨rfl,hp⟩:=hs
  exact⟨rfl,h y hp⟩
 ·cases hr
theorem uT{α:Type}{mk:α->List D}{pre:α->Bool}{out:α->D}(inj:∀x y,mk x=mk y->x=y)(x:α)(hp:pre x=true)(h1:aX (mk x)=false)(rows:Rows)(k:D->Rows->Prop)(h3:shift rows.length (out x)=out x):aG (QX mk pre out) rows k (mk x)=k (out x) rows:=by
 refine(bk h1 (r:=(out x,[])) ?_).trans ?_
 ·have hh:([]:Rows)=[]/\∃y,mk x=mk y/\pre y=true:=⟨rfl,x,rfl,hp⟩
  unfold QX
  rw[dif_pos hh,<-inj _ _ hh.2.choose_spec.1]
 ·simp[af,h3]
abbrev Fa(l:List UInt8):D:= .raw (.string ⟨l.toArray⟩)
theorem str_inj{a b:List UInt8}(h:Fa a=Fa b):a=b:=by
 injection h with h
 injection h with h
 injection h with h
 exact List.toArray_inj h
def wdL:List (List UInt8):=[[],[114,119],[114,120]]
def ltL:List UInt8:=[114,119,120]
def okW(p:List UInt8×UInt8):Bool:=decide (p.1∈wdL)&&decide (p.2∈ltL)
def atW(p:List UInt8×UInt8):Int:=WZ (p.2.toBitVec.toNat:Int) ⟨p.1.toArray⟩
def Uh(p:List UInt8×UInt8):Bool:=decide (0<=atW p)
def mkW(p:List UInt8×UInt8):List D:=[Fa p.1,Fa [p.2]]
def mkI(p:List UInt8×UInt8):List D:=[Fa p.1,.raw (u8 p.2.toBitVec)]
theorem Om(x y:List UInt8×UInt8)(h:mkW x=mkW y):x=y:=by
 unfold mkW at h
 injection h with h1 h
 injection h with h2 _
 have:=str_inj h2
 injection this with h3 _
 exact adp (str_inj h1) h3
theorem mkI_inj(x y:List UInt8×UInt8)(h:mkI x=mkI y):x=y:=by
 unfold mkI at h
 injection h with h1 h
 injection h with h2 _
 injection h2 with h2
 exact adp (str_inj h1) (UInt8.toBitVec_inj.1 (Go.Am.AQ.1 h2))
noncomputable def V8:Fn:=QX mkI okW λp=> .raw (it (atW p))
theorem idxb_ok(C:aU)(hC:aI C P):aQ C.aZ P 270 (Fn.run V8):=by
 refine gQ (nP C hC) λx hx=>ae rfl ?_
 unfold jb jc mkI atW
 simp only[↓ag,ah,simprocAttr]
 exact .val _ rfl
noncomputable def V9:Fn:=QX mkW okW λp=> .raw (it (atW p))
theorem idxs_ok(C:aU)(hC:aI C P)(h1:C.fn 270=some V8):aQ C.aZ P 250 (Fn.run V9):=by
 refine gQ (qf C hC) λx hx=>ae rfl ?_
 unfold kf kg
 have kI:=λrows k=>uT (out:=λp=> .raw (it (atW p))) mkI_inj x hx rfl rows k rfl
 obtain⟨a,c⟩:=x
 simp only[okW,aan,aaq]at hx
 obtain⟨ha,-⟩:=hx
 have e1:((ByteArray.mk [c].toArray).toList==(ByteArray.mk a.toArray).toList)=false:=by
  rw[ByteArray.toList_eq,ByteArray.toList_eq]
  simp only[wdL,aaI,aa1,acd]at ha
  rcases ha with rfl|rfl|rfl<;>simp
 have e2:(ByteArray.mk [c].toArray).size=1:=rfl
 have e3:(ByteArray.mk [c].toArray).data.toList[0]?=some c:=rfl
 simp only[mkI]at kI
 simp only[mkW,↓ag,ah,simprocAttr,e1,e2,e3,h1,V8,kI,Int.toNat_zero,aby,acv]
 exact .val _ rfl
noncomputable def Wa:Fn:=QX mkW okW λp=> .raw (it (atW p))
theorem idx1_ok(C:aU)(hC:aI C P)(h1:C.fn 250=some V9):aQ C.aZ P 214 (Fn.run Wa):=by
 refine gQ (GO C hC) λx hx=>ae rfl ?_
 unfold wF wG
 have kI:=λrows k=>uT (out:=λp=> .raw (it (atW p))) Om x hx rfl rows k rfl
 simp only[mkW]at kI⊢
 simp only[↓ag,ah,simprocAttr,h1,V9,kI]
 exact .val _ rfl
noncomputable def Wb:Fn:=QX mkW okW λp=> .raw (.bool (Uh p))
theorem hasw_ok(C:aU)(hC:aI C P)(h1:C.fn 214=some Wa):aQ C.aZ P 166 (Fn.run Wb):=by
 refine gQ (AY C hC) λx hx=>ae rfl ?_
 unfold rI rJ Uh
 have kI:=λrows k=>uT (out:=λp=> .raw (it (atW p))) Om x hx rfl rows k rfl
 simp only[mkW]at kI⊢
 simp only[↓ag,ah,simprocAttr,h1,Wa,kI]
 exact .val _ rfl
def Ui:List (Nat×Nat×Nat):=[(0,0,1),(1,0,1),(3,0,1),(3,0,2),(3,0,3),(3,0,4),(3,0,5),(1,1,1),(1,1,4)]
def JE(k:Nat×Nat×Nat):List UInt8:=if k∈[(0,0,1),(3,0,4),(1,1,4)]then[114,119]else if k=(1,1,1)then[114,120]else[]
def mk3(k:Nat×Nat×Nat):List D:=[.raw (it (k.1:Int)),.raw (it (k.2.1:Int)),.raw (it (k.2.2:Int))]
theorem tB{a b:Nat}(h:D.raw (it (a:Int))= .raw (it (b:Int))):a=b:=by
 injection h with h
 unfold it at h
 injection h with _ h
 omega
theorem mk3_inj(x y:Nat×Nat×Nat)(h:mk3 x=mk3 y):x=y:=by
 unfold mk3 at h
 injection h with h1 h
 injection h with h2 h
 injection h with h3 _
 exact adp (tB h1) (adp (tB h2) (tB h3))
noncomputable def fMay:Fn:=QX mk3 (λk=>decide (k∈Ui)) λk=>Fa (JE k)
theorem may_ok(C C1:aU)(hC:aI C P)(n0:C.fn 215=none)(r0:C.cV 215=some (aB C1 0 nO nL)):aQ C.aZ P 167 (Fn.run fMay):=by
 refine gQ (Qh C hC) λx hx=>ae rfl ?_
 unfold FY FZ
 have nm:qc (.mp 0)=some (.mp 0):=rfl
 simp only[mk3,↓ag,ah,simprocAttr,n0,r0,ii,nL,nO]
 refine dQ 6 ?_
 simp only[↓ag,ah,simprocAttr,aK]
 refine dQ 6 ?_
 simp only[↓ag,ah,simprocAttr,aK]
 refine dQ 6 ?_
 simp only[↓ag,ah,simprocAttr,aK]
 refine dQ 6 ?_
 simp only[↓ag,ah,simprocAttr,aK]
 refine dQ 6 ?_
 simp only[↓ag,ah,simprocAttr,aK,nm]
 simp only[Ui,aaI,aa1,acd,aaq]at hx
 have ed:∀l,dV (.cons LS .nil) (.agg #[.string l])= .agg (.cons LS .nil) [.raw (.string l)]:=λ_=>rfl
 rcases hx with rfl|rfl|rfl|rfl|rfl|rfl|rfl|rfl|rfl
 all_goals
  first
  |refine o7 (a:=(some (Value.agg #[.string ⟨#[114,119]⟩]):Option Value)) rfl ?_
  |refine o7 (a:=(some (Value.agg #[.string ⟨#[114,120]⟩]):Option Value)) rfl ?_
  |refine o7 (a:=(none:Option Value)) rfl ?_
  simp only[↓ag,ah,simprocAttr,aK,ed]
  exact .val _ rfl
abbrev SAc:Sh:= .cons LI (.cons LI (.cons cN (.cons LI (.cons LB (.cons LB .nil)))))
structure Ac where
 who:Nat
 st:Nat
 at_:BitVec 32
 sz:Nat
 w:Bool
 f:Bool
def Uj(a:Ac):D:= .agg SAc [.raw (it (a.who:Int)),.raw (it (a.st:Int)),.raw (u32 a.at_),.raw (it (a.sz:Int)),.raw (.bool a.w),.raw (.bool a.f)]
theorem acD_inj(x y:Ac)(h:Uj x=Uj y):x=y:=by
 obtain⟨x1,x2,x3,x4,x5,x6⟩:=x
 obtain⟨y1,y2,y3,y4,y5,y6⟩:=y
 unfold Uj at h
 injection h with _ h
 injection h with h1 h
 injection h with h2 h
 injection h with h3 h
 injection h with h4 h
 injection h with h5 h
 injection h with h6 _
 have:=tB h1
 have:=tB h2
 have:=tB h4
 injection h3 with h3
 injection h5 with h5
 injection h5 with h5
 injection h6 with h6
 injection h6 with h6
 have:=Go.Am.lV.1 h3
 subst_vars
 rfl
def mkA(a:Ac):List D:=[Uj a]
theorem On(x y:Ac)(h:mkA x=mkA y):x=y:=by
 unfold mkA at h
 injection h with h _
 exact acD_inj x y h
def okA(a:Ac):Bool:=decide (a.who<=3)&&decide (a.st<=2)&&decide (a.sz=1\/a.sz=4)&&!(a.w&&a.f)
theorem okA_is{a:Ac}(h:okA a=true):a.who<=3/\a.st<=2/\(a.sz=1\/a.sz=4)/\(a.w&&a.f)=false:=by
 simp only[okA,aan,aaq,acH]at h
 obtain⟨⟨⟨a,b⟩,c⟩,d⟩:=h
 exact⟨a,b,c,d⟩
noncomputable def Hj:Fn:=QX mkA okA λ_=> .raw (.bool true)
theorem YF(C:aU)(hC:aI C P):aQ C.aZ P 164 (Fn.run Hj):=by
 refine gQ (wS C hC) λx hx=>ae rfl ?_
 obtain⟨h1,h2,h3,h4⟩:=okA_is hx
 clear hx
 obtain⟨x1,x2,x3,x4,x5,x6⟩:=x
 simp only at h1 h2 h3 h4
 unfold ov ow mkA Uj
 have e1:((0:Int)<=(x1:Int))=True:=aas (by omega)
 have e2:((x1:Int)<=3)=True:=aas (by omega)
 have e3:((0:Int)<=(x2:Int))=True:=aas (by omega)
 have e4:((x2:Int)<=2)=True:=aas (by omega)
 rcases h3 with rfl|rfl<;>cases x5<;>cases x6<;>first|exact absurd h4 (by decide)|(simp only[↓ag,ah,simprocAttr,aK,e1,e2,e3,e4,acv,aby];exact .val _ rfl)
def GZ(a:Ac):UInt8:=if a.f then 120 else if a.w then 119 else 114
noncomputable def Hk:Fn:=QX mkA (λ_=>true) λa=>Fa [GZ a]
theorem YG(C:aU)(hC:aI C P):aQ C.aZ P 168 (Fn.run Hk):=by
 refine gQ (wU C hC) λx hx=>ae rfl ?_
 obtain⟨x1,x2,x3,x4,x5,x6⟩:=x
 unfold ox oy mkA Uj GZ
 cases x5<;>cases x6<;>simp only[↓ag,ah,simprocAttr,aK]<;>exact .val _ rfl
abbrev SSp2:Sh:= .cons cN (.cons LI .nil)
def spnD(s:BitVec 32×Nat):D:= .agg SSp2 [.raw (u32 s.1),.raw (it (s.2:Int))]
def jk:List (BitVec 32×Nat):=[(0#32,0),(536870912#32,4096),(536875008#32,4096),(268435456#32,10240),(1073741824#32,64),(1610612736#32,256)]
def JF:D:= .agg (.ar 6 SSp2) (jk.map spnD)
def Dy(x:BitVec 32)(s:BitVec 32×Nat):Bool:=decide (s.1<=x)&&decide ((x-s.1).toNat<s.2)
def mT(x:BitVec 32):List (BitVec 32×Nat)->Nat->Nat×Nat
 |[],_=>(0,0)
 |s::l,i=>if Dy x s then(i,(x-s.1).toNat)else mT x l (i+1)
def bU(x:BitVec 32):Nat×Nat:=mT x jk 0
theorem JG(x:BitVec 32)(s:BitVec 32×Nat):Dy x s=true↔s.1.toNat<=x.toNat/\x.toNat<s.1.toNat+s.2:=by
 rw[Dy,aan,aaq,aaq,abx]
 constructor
 ·rintro⟨h1,h2⟩
  rw[adK (abx.2 h1)]at h2
  exact⟨h1,by omega⟩
 ·rintro⟨h1,h2⟩
  rw[adK (abx.2 h1)]
  exact⟨h1,by omega⟩
def K7(i:Nat):BitVec 32×Nat:=jk.getD i (0#32,0)
theorem QY:∀i j:Fin 6,i≠j->(K7 i.1).1.toNat+(K7 i.1).2<=(K7 j.1).1.toNat\/(K7 j.1).1.toNat+(K7 j.1).2<=(K7 i.1).1.toNat\/(K7 i.1).2=0\/(K7 j.1).2=0:=by decide
theorem Wc{i:Nat}{s:BitVec 32×Nat}(h:jk[i]?=some s):K7 i=s:=by rw[K7,aay,h];rfl
theorem MA(x:BitVec 32)(s:BitVec 32×Nat):∀(l:List (BitVec 32×Nat)) (k i:Nat),l[i]?=some s->Dy x s=true->(∀j,j<i->∀t,l[j]?=some t->Dy x t=false)->mT x l k=(k+i,(x-s.1).toNat)
 |[],k,i,h,_,_=>by simp at h
 |t::l,k,0,h,h1,_=>by
  cases h
  rw[mT,aaJ h1];rfl
 |t::l,k,i+1,h,h1,h2=>by
  rw[mT,aaC (by rw[h2 0 (by omega) t rfl];decide),MA x s l (k+1) i h h1 λj hj t' ht=>h2 (j+1) (by omega) t' ht]
  rw[show k+1+i=k+(i+1) by omega]
theorem Fb{x:BitVec 32}{s:BitVec 32×Nat}{i o:Nat}(hs:jk[i]?=some s)(hi:i<6)(hx:s.1.toNat<=x.toNat/\x.toNat<s.1.toNat+s.2)(ho:x.toNat-s.1.toNat=o):bU x=(i,o):=by
 have:=MA x s jk 0 i hs ((JG x s).2 hx) λj hj t ht=>by
  have:=QY ⟨i,hi⟩ ⟨j,by omega⟩ (by simp;omega)
  simp only[Wc hs,Wc ht]at this
  rw[Bool.eq_false_iff]
  intro h
  have:=(JG x t).1 h
  omega
 rw[bU,this,abk,adK (abx.2 hx.1),ho]
noncomputable def JH:Fn:=nv ry (λ_=>true) λx=>(.cd [.raw (it ((bU x).1:Int)),.raw (it ((bU x).2:Int))],[])
theorem where_ok(C:aU)(hC:aI C P)(hg:C.aZ 2=some JF):aQ C.aZ P 165 (Fn.run JH):=by
 refine aJ (KR C hC) λds rows r h=>?_
 obtain⟨d,x,rfl,rfl,hd,hp,rfl⟩:=bd h
 cases dY hd
 refine⟨rfl,ae rfl ?_⟩
 clear h hd hp
 unfold Ab Ad
 simp only[↓ag,ah,simprocAttr,aK,hg,JF]
 refine bx 6 (λi env rows=>has env [(8,.raw (it (i:Int))),(0,.raw (u32 x)),(7,.agg (.ar 6 SSp2) (jk.map spnD))]/\mT x (jk.drop i) i=bU x) ?_ ?_ ⟨by simp only[has,↓ag,ah,simprocAttr],rfl⟩
 ·rintro i hi env rows ⟨hh,hw⟩ R hR
  simp only[has]at hh
  obtain⟨s,hs⟩:∃s,jk[i]?=some s:=⟨_,aao (show i<jk.length from hi)⟩
  have hd:jk.drop i=s::jk.drop (i+1):=by
   obtain⟨h1,h2⟩:=acR.1 hs
   rw[abp h1,h2]
  rw[hd,mT]at hw
  have e0:((i:Int)<6)=True:=aas (by omega)
  have e1:=cG i (by omega)
  have e2:(jk.map spnD)[i]?=some (.agg SSp2 [.raw (u32 s.1),.raw (it (s.2:Int))]):=by rw[abl,hs];rfl
  have e3:((i:Int)<0)=False:=aaw (by omega)
  have e4:((i:Int)<((6:Nat):Int))=True:=aas (by omega)
  by_cases c1:s.1<=x
  ·have O8:=aas c1
   by_cases c2:((((x-s.1).toNat:Nat):Int)<(s.2:Int))
   ·have hin:Dy x s=true:=by rw[Dy,abA c1,ab8,aaq];omega
    rw[aaJ hin]at hw
    rw[<-hw]
    have We:=aas c2
    simp only[↓ag,ah,simprocAttr,aK,hh,e0,e1,e2,e3,e4,O8,We,aaz]
    exact⟨by omega,.val _ rfl⟩
   ·have hin:¬Dy x s=true:=by rw[Dy,abA c1,ab8,aaq];omega
    rw[aaC hin]at hw
    have We:=aaw c2
    simp only[↓ag,ah,simprocAttr,aK,hh,e0,e1,e2,e3,e4,O8,We,aaz]
    refine⟨by omega,?_⟩
    exact hR _ _ ⟨by simp only[has,↓ag,ah,simprocAttr,hh],hw⟩
  ·have hin:¬Dy x s=true:=by simp[Dy,c1]
   rw[aaC hin]at hw
   have O8:=aaw c1
   simp only[↓ag,ah,simprocAttr,aK,hh,e0,e1,e2,e3,e4,O8,aaz]
   refine⟨by omega,?_⟩
   exact hR _ _ ⟨by simp only[has,↓ag,ah,simprocAttr,hh],hw⟩
 ·rintro env rows ⟨hh,hw⟩ R
  simp only[has]at hh
  have hw':bU x=(0,0):=hw.symm
  rw[hw']
  have e0:(((6:Nat):Int)<6)=False:=aaw (by decide)
  simp only[↓ag,ah,simprocAttr,aK,hh,e0]
  exact .val _ rfl
theorem Uk(rows:Rows)(x:BitVec 32)(k:D->Rows->Prop):aG JH rows k [.raw (u32 x)]=k (.cd [.raw (it ((bU x).1:Int)),.raw (it ((bU x).2:Int))]) rows:=(bk rfl (fa (fL x) rfl)).trans (by simp[shift,bD,af])
def qx(r:Nat):BitVec 32×Nat:=jk.getD r (0#32,0)
noncomputable def Bg:Fn:=QX (λr:Nat=>[.raw (it (r:Int))]) (λr=>decide (1<=r/\r<=5)) λr=> .cd [.raw (u32 (qx r).1),.raw (it ((qx r).2:Int))]
theorem base_ok(C:aU)(hC:aI C P)(hg:C.aZ 2=some JF):aQ C.aZ P 207 (Fn.run Bg):=by
 refine gQ (NI C hC) λr hr=>ae rfl ?_
 unfold Cy Cz
 have hc:r=1\/r=2\/r=3\/r=4\/r=5:=by simp only[aaq]at hr;omega
 rcases hc with rfl|rfl|rfl|rfl|rfl<;>simp only[↓ag,ah,simprocAttr,aK,hg,JF,jk,spnD,abm,adJ,acv,aby]<;>exact .val _ rfl
theorem kBase(rows:Rows)(r:Nat)(h:1<=r/\r<=5)(k:D->Rows->Prop):aG Bg rows k [.raw (it (r:Int))]=k (.cd [.raw (u32 (qx r).1),.raw (it ((qx r).2:Int))]) rows:=
 uT (mk:=λr:Nat=>[.raw (it (r:Int))]) (out:=λr=> .cd [.raw (u32 (qx r).1),.raw (it ((qx r).2:Int))]) (λx y h=>by injection h with h _;exact tB h) r (by simpa using h) rfl rows k rfl
theorem Ul(rows:Rows)(k:D->Rows->Prop):aG Bg rows k [.raw (it 1)]=k (.cd [.raw (u32 536870912#32),.raw (it 4096)]) rows:=kBase rows 1 (by decide) k
def pS(a:Ac):Nat×Nat×Nat:=if(bU a.at_).1=0 then(0,0,9)else if Uh (JE (a.who,a.st,(bU a.at_).1),GZ a)then((bU a.at_).1,(bU a.at_).2,0)else(0,0,8)
def Dz(a:Ac):Bool:=okA a&&decide (a.at_.toNat %a.sz=0)&&decide ((bU a.at_).1=0\/(a.who,a.st,(bU a.at_).1)∈Ui)
def G1(a:Ac):D:= .cd [.raw (it ((pS a).1:Int)),.raw (it ((pS a).2.1:Int)),.raw (it ((pS a).2.2:Int))]
noncomputable def tC:Fn:=QX mkA Dz G1
theorem mayW_in{k:Nat×Nat×Nat}(h:k∈Ui):JE k∈wdL:=by
 unfold JE
 split
 ·simp[wdL]
 ·split<;>simp[wdL]
theorem letW_in(a:Ac):GZ a∈ltL:=by
 unfold GZ
 cases a.f<;>cases a.w<;>simp[ltL]
theorem YH(C:aU)(hC:aI C P)(h1:C.fn 164=some Hj)(h2:C.fn 165=some JH)(h3:C.fn 167=some fMay)(h4:C.fn 168=some Hk)(h5:C.fn 166=some Wb):
  aQ C.aZ P 96 (Fn.run tC):=by
 refine gQ (KP C hC) λx hx=>ae rfl ?_
 simp only[Dz,aan,aaq]at hx
 obtain⟨⟨hA,hal⟩,hreg⟩:=hx
 have h6:=(okA_is hA).2.2.1
 unfold zZ z8
 have k1:∀rows k,aG Hj rows k [Uj x]=k (.raw (.bool true)) rows:=λrows k=>uT On x hA rfl rows k rfl
 have k4:∀rows k,aG Hk rows k [Uj x]=k (Fa [GZ x]) rows:=λrows k=>uT (out:=λa=>Fa [GZ a]) On x rfl rfl rows k rfl
 have k2:=λrows k=>Uk rows x.at_ k
 have f0:(Uj x).fits SAc=true:=rfl
 have g0:(Uj x).get [0]=some (.raw (it (x.who:Int))):=rfl
 have g1:(Uj x).get [1]=some (.raw (it (x.st:Int))):=rfl
 have g2:(Uj x).get [2]=some (.raw (u32 x.at_)):=rfl
 have g3:(Uj x).get [3]=some (.raw (it (x.sz:Int))):=rfl
 have e1:(x.at_ %BitVec.ofInt 32 (x.sz:Int))=0#32:=by
  rw[abb]
  apply aaL
  rw[abC,aa2,abo (show x.sz<2^32 by omega),hal]
  rfl
 have e2:(BitVec.ofInt 32 (x.sz:Int)=0#32)=False:=aaw (by
  rw[abb]
  rcases h6 with h|h<;>rw[h]<;>decide)
 unfold mkA G1 pS
 by_cases c:(bU x.at_).1=0
 ·have c':(((bU x.at_).1:Int)=0)=True:=aas (by omega)
  rw[aaJ c]
  simp only[↓ag,ah,simprocAttr,aK,f0,g0,g1,g2,g3,e1,e2,h1,h2,k1,k2,c']
  exact .val _ rfl
 ·have c':(((bU x.at_).1:Int)=0)=False:=aaw (by omega)
  have hm:=hreg.resolve_left c
  rw[aaC c]
  have k3:∀rows k,aG fMay rows k [.raw (it (x.who:Int)),.raw (it (x.st:Int)),.raw (it ((bU x.at_).1:Int))]=k (Fa (JE (x.who,x.st,(bU x.at_).1))) rows:=λrows k=>uT (out:=λk=>Fa (JE k)) mk3_inj (x.who,x.st,(bU x.at_).1) (by simpa using hm) rfl rows k rfl
  have k5:∀rows k,aG Wb rows k [Fa (JE (x.who,x.st,(bU x.at_).1)),Fa [GZ x]]=k (.raw (.bool (Uh (JE (x.who,x.st,(bU x.at_).1),GZ x)))) rows:=λrows k=>uT (out:=λp=> .raw (.bool (Uh p))) Om (JE (x.who,x.st,(bU x.at_).1),GZ x) (by simp[okW,mayW_in hm,letW_in]) rfl rows k rfl
  cases hh:Uh (JE (x.who,x.st,(bU x.at_).1),GZ x)<;>rw[hh]at k5<;>simp only[↓ag,ah,simprocAttr,aK,f0,g0,g1,g2,g3,e1,e2,h1,h2,h3,h4,h5,k1,k2,k3,k4,k5,c']<;>exact .val _ rfl
theorem kChk(rows:Rows)(a:Ac)(h:Dz a=true)(k:D->Rows->Prop):aG tC rows k [Uj a]=k (G1 a) rows:=uT On a h rfl rows k rfl
end kj
end Go.Am

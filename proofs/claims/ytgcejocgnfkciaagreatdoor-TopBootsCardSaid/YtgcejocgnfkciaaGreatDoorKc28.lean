import Derived.Test.YtgcejocgnfkciaaGreatDoorKc27
namespace Go.Am
set_option linter.unusedSimpArgs false
set_option linter.unusedVariables false
attribute [local congr] cd bt cg bu bw bO bg bx bz bP a7 bQ bA b9
namespace iC
open Go.Am.F
set_option maxRecDepth 10000
structure LmC (C:be):Prop where
 hei:C.fn 36=some wF
 par:C.fn 37=some l6
 lvs:C.fn 38=some qE
 sit:C.fn 40=some Gg
 bH:C.fn 39=some D7
 lea:C.fn 41=some MH
 nod:C.fn 42=some MI
def uk(t o:BitVec 32)(id aL:List (BitVec 8))(N:List (List (BitVec 8))):Sg:=⟨t,o,id,aL,N,0#32,[],[],[]⟩
def hH(t:BitVec 32):Nat:=2^hT t.toNat
theorem KA{rows:Rows}{L:yI}{s:Sg}(h:qa rows L s)(h1:s.id.length=16)(h2:s.aL.length=32)(h3:∀x∈s.ns,x.length=32)(h4:4≤s.ns.length)(h5:s.ns.length≤2048)(h6:s.ns.length %2=0):ml (s.v L)=true:=
 eQ.2 ⟨h1,h2,h3,h4,h5,h6,Sg.Gk h⟩
theorem fC{rows:Rows}{a b:Nat}{s s':Sh}{l l':List D}(h:live rows a=some ⟨s,l⟩)(h':live rows b=some ⟨s',l'⟩)(hs:s≠s'):a≠b:=by
 rintro rfl
 rw[h]at h'
 injection h' with h'
 injection h' with h' _
 exact hs h'
theorem qa.setNs{rows:Rows}{L:yI}{s:Sg}(h:qa rows L s){N:List (List (BitVec 8))}(hN:N.length=s.ns.length):qa (rows.set L.nr (some ⟨.ar 32 L8,N.map aW⟩)) L {s with ns:=N}:=by
 have n1:=fC h.n h.a (by decide)
 have n2:=fC h.n h.m (by decide)
 have n3:=fC h.n h.t (by decide)
 refine⟨?_,aG h.n,?_,?_,?_⟩
 ·rw[aE n1,h.a];simp only[BR,hN]
 ·rw[aE n2];exact h.m
 ·rw[aE n3];exact h.t
 ·rcases h.l with e|⟨r,ex,e,hl⟩
  ·exact .inl e
  ·have n4:=fC h.n hl (by decide)
   exact .inr ⟨r,ex,e,by rw[aE n4];exact hl⟩
set_option maxHeartbeats 4000000 in
theorem Nk(C:be)(h:LmC C){rows:Rows}{t o:BitVec 32}{id aL:List (BitVec 8)}(ht:G4 t.toNat=true)(ht2:hT t.toNat≤10)(ho:sH o.toNat=true)(gV:id.length=16)(qX:aL.length=32){K:D→Rows→Prop}
  (hk:∀ab L,qa ab L (uk t o id aL (kx o id aL (hH t)))→eJ rows ab→rows.length≤L.r→rows.length≤L.nr→rows.length≤L.ms→rows.length≤L.mt→L.dl= .raw (.slice none 0 0)→K (.cA [.ptr iG L.r [0],.raw (it 0)]) ab):
  aR C 4 rG rF [.raw (u32 t),.raw (u32 o),.agg (.ar 16 L8) (bs id),.agg (.ar 32 L8) (bs aL)] rows K:=by
 refine ag rfl ?_
 unfold rF rG
 have hz:D.agg pD [.raw (it 0),.raw (it 0),.raw (it 0)]=iR ⟨0,0,0⟩:=rfl
 have h1:=Ec ht
 have b0:∀n:Nat,((0:Int)≤(n:Int))=True:=fun n=>eq_true (by omega)
 have c1:((10:Int)<((hT t.toNat:Nat):Int))=False:=eq_false (by omega)
 have tJ:=shl_it 2 (hT t.toNat) (by decide) (by omega)
 rw[show((2:Nat):Int)=2 from rfl]at tJ
 have hHd:2^hT t.toNat=hH t:=rfl
 have hH2:2≤hH t:=by
  have:2^1≤2^hT t.toNat:=Nat.pow_le_pow_right (by decide) h1
  exact this
 have hH10:hH t≤1024:=by
  have:2^hT t.toNat≤2^10:=Nat.pow_le_pow_right (by decide) ht2
  exact this
 rw[hHd]at tJ
 simp only[hz,dW]
 simp only[↓aj,ak,simprocAttr,aa,aX,h.hei,Eb,h.par,mY,cQ,ht,ho,c1,tJ,b0,Bool.not_true]
 have z1:wz (((2*hH t:Nat):Int)-1)=((2*hH t-1:Nat):Int):=by rw[bf (by omega)];omega
 refine⟨by omega,by omega,?_⟩
 rw[z1]
 generalize hHh:hH t=H at*
 obtain⟨L,lr,ln,lm,lt,le,ld⟩:∃L:yI,L.r=rows.length+6∧L.nr=rows.length+3∧L.ms=rows.length+4∧L.mt=rows.length+5∧L.ne=true∧L.dl= .raw (.slice none 0 0):=⟨⟨_,_,_,_,_,_⟩,rfl,rfl,rfl,rfl,rfl,rfl⟩
 have hz32:List.replicate (2*H) (D.agg (.ar 32 L8) (bs ug))=(mT o id aL H 0).map aW:=by simp[mT,aW]
 rw[hz32]
 have NT:=AD o id aL H
 have hn32:=Po o id aL H
 refine bB (2*H-1) (fun k env rs=>has env [(15,.raw (it ((2*H-1-k:Nat):Int))),(14,.ptr iG L.r [0]),(7,.ptr (.ar 32 L8) (rows.length+1) [0]),(6,.ptr (.ar 16 L8) rows.length [0]),(1,.raw (u32 o))]∧
  qa rs L (uk t o id aL (mT o id aL H k))∧eJ rows rs∧live rs rows.length=some ⟨.ar 16 L8,[.agg (.ar 16 L8) (bs id)]⟩∧live rs (rows.length+1)=some ⟨.ar 32 L8,[.agg (.ar 32 L8) (bs aL)]⟩) ?_ ?_ ⟨?_,⟨?_,?_,?_,?_,.inl ⟨rfl,ld⟩⟩,eJ.app _ _,?_,?_⟩
 ·rintro k UU env rs ⟨hw,hS,hK,r0,r1⟩ R hR
  simp only[has]at hw
  have hok:ml ((uk t o id aL (mT o id aL H k)).v L)=true:=KA hS gV qX (hn32 k) (by show 4≤(mT o id aL H k).length;rw[NT];omega) (by show(mT o id aL H k).length≤2048;rw[NT];omega) (by show(mT o id aL H k).length %2=0;rw[NT];omega)
  have hlv:iA ((uk t o id aL (mT o id aL H k)).v L)=H:=by show(mT o id aL H k).length/2=H;rw[NT];omega
  have kLv:=fun k'=>X1 rs k' _ _ hS.rd hok
  have kSt:=fun q k'=>X2 rs k' _ _ q hS.rd hok
  rw[hlv]at kLv
  have hSa:=hS.a
  have hSn:=hS.n
  have hsgR:BR L (uk t o id aL (mT o id aL H k))= .agg iG [.raw (u32 t),.raw (u32 o),.agg (.ar 16 L8) (bs id),.agg (.ar 32 L8) (bs aL),.sl (.ar 32 L8) L.nr [] 0 (2*H) true,.raw (u32 0#32),.mp L.ms,.mp L.mt,.raw (.slice none 0 0)]:=by
   show D.agg iG [.raw (u32 t),.raw (u32 o),.agg (.ar 16 L8) (bs id),.agg (.ar 32 L8) (bs aL),.sl (.ar 32 L8) L.nr [] 0 (mT o id aL H k).length L.ne,.raw (u32 0#32),.mp L.ms,.mp L.mt,L.dl]=_
   rw[NT,le,ld]
  rw[hsgR]at hSa
  have hns:(uk t o id aL (mT o id aL H k)).ns=mT o id aL H k:=rfl
  rw[hns]at hSn
  have hid2:((uk t o id aL (mT o id aL H k)).v L).id=id:=rfl
  rw[hid2]at kSt
  generalize hr:2*H-1-k=r at*
  have hr1:1≤r:=by omega
  have YN:r<2*H:=by omega
  have G5:2*H-1-(k+1)=r-1:=by omega
  have hst:mT o id aL H (k+1)=(mT o id aL H k).set r (Q4 o id aL H (mT o id aL H k) r):=by rw[←hr];rfl
  have f0:((0:Int)<(r:Int))=True:=eq_true (by omega)
  have f1:((r:Int)<((2*H:Nat):Int))=True:=eq_true (by omega)
  have f2:wz ((r:Int)-1)=((r-1:Nat):Int):=by rw[bf (by omega)];omega
  have f3:wz ((r:Int)-(H:Int))=(r:Int)-(H:Int):=bf (by omega)
  have f4:BitVec.ofInt 32 (r:Int)=BitVec.ofNat 32 r:=BitVec.ofInt_natCast _ _
  have hgg:∀j,j<2*H→((mT o id aL H k).map aW)[j]?=some (.agg (.ar 32 L8) (bs ((mT o id aL H k).getD j [])))∧((mT o id aL H k).getD j []).length=32:=fun j hj=>by
   have Wb:j<(mT o id aL H k).length:=by rw[NT];exact hj
   have e:(mT o id aL H k).getD j []=(mT o id aL H k)[j]:=by simp[List.getD,Wb]
   rw[e]
   exact⟨by simp[aW,Wb],hn32 k _ (List.getElem_mem Wb)⟩
  have hgr:=(hgg r YN).1
  have hNl:(mT o id aL H (k+1)).length=(uk t o id aL (mT o id aL H k)).ns.length:=by rw[hns,NT,NT]
  by_cases hH:H≤r
  ·have f5:((0:Int)≤(r:Int)-(H:Int))=True:=eq_true (by omega)
   have f6:BitVec.ofInt 32 ((r:Int)-(H:Int))=BitVec.ofNat 32 (r-H):=by
    rw[show(r:Int)-(H:Int)=((r-H:Nat):Int) by omega];exact BitVec.ofInt_natCast _ _
   have kPb:=fun ab k'=>kPublic ab k' o ⟨id,BitVec.ofNat 32 (r-H)⟩ aL gV qX ho
   have sO:(DI o.toNat ⟨id,BitVec.ofNat 32 (r-H)⟩ aL).length=32:=dh _
   have kLf:=fun ab k'=>kLeaf ab k' id (BitVec.ofNat 32 r) (DI o.toNat ⟨id,BitVec.ofNat 32 (r-H)⟩ aL) gV sO
   have hlf:Q4 o id aL H (mT o id aL H k) r=nD id (BitVec.ofNat 32 r) (DI o.toNat ⟨id,BitVec.ofNat 32 (r-H)⟩ aL):=by rw[Q4,if_pos hH];rfl
   rw[hlf]at hst
   have hSaA:=fun L'=>aA hSa L'
   have hSnA:=fun L'=>aA hSn L'
   have r0A:=fun L'=>aA r0 L'
   simp only[↓aj,ak,simprocAttr,aa,aX,hw,f0,f1,f2,f3,f4,f5,f6,b0,h.lvs,kLv,h.sit,kSt,h.bH,r1,kPb,hSaA,hSnA,r0A,h.lea,kLf]
   have uu:((mT o id aL H k).map aW).set r (.agg (.ar 32 L8) (bs (nD id (BitVec.ofNat 32 r) (DI o.toNat ⟨id,BitVec.ofNat 32 (r-H)⟩ aL))))=(mT o id aL H (k+1)).map aW:=by rw[hst,List.map_set];rfl
   simp only[hgr,uu,↓aj,ak,simprocAttr,aa]
   exact hR _ _ ⟨by simp only[has,↓aj,ak,simprocAttr,aa,hw,G5],(hS.push _).setNs (N:=mT o id aL H (k+1)) hNl,(hK.trans (eJ.app _ _)).set (by omega) _,by rw[aE (by omega)];exact bJ r0,by rw[aE (by omega)];exact bJ r1⟩
  ·have f5:((0:Int)≤(r:Int)-(H:Int))=False:=eq_false (by omega)
   have a1:wz (2*(r:Int))=((2*r:Nat):Int):=by rw[bf (by omega)];omega
   have a2:wz (((2*r:Nat):Int)+1)=((2*r+1:Nat):Int):=by rw[bf (by omega)];omega
   have a3:(((2*r:Nat):Int)<((2*H:Nat):Int))=True:=eq_true (by omega)
   have a4:(((2*r+1:Nat):Int)<((2*H:Nat):Int))=True:=eq_true (by omega)
   have g1:=hgg (2*r) (by omega)
   have g2:=hgg (2*r+1) (by omega)
   have kNd:=fun ab k'=>XS ab k' id (BitVec.ofNat 32 r) _ _ gV g1.2 g2.2
   have hlf:Q4 o id aL H (mT o id aL H k) r=sn id (BitVec.ofNat 32 r) ((mT o id aL H k).getD (2*r) []) ((mT o id aL H k).getD (2*r+1) []):=by rw[Q4,if_neg hH]
   rw[hlf]at hst
   simp only[↓aj,ak,simprocAttr,aa,aX,hw,f0,f1,f2,f3,f4,f5,a1,a2,a3,a4,b0,h.lvs,kLv,hSa,hSn,r0,g1.1,g2.1,h.nod,kNd]
   have uu:((mT o id aL H k).map aW).set r (.agg (.ar 32 L8) (bs (sn id (BitVec.ofNat 32 r) ((mT o id aL H k).getD (2*r) []) ((mT o id aL H k).getD (2*r+1) []))))=(mT o id aL H (k+1)).map aW:=by rw[hst,List.map_set];rfl
   simp only[hgr,uu,↓aj,ak,simprocAttr,aa]
   exact hR _ _ ⟨by simp only[has,↓aj,ak,simprocAttr,aa,hw,G5],hS.setNs (N:=mT o id aL H (k+1)) hNl,hK.set (by omega) _,by rw[aE (by omega)];exact r0,by rw[aE (by omega)];exact r1⟩
 ·rintro env rs ⟨hw,hS,hK,r0,r1⟩ R
  simp only[has]at hw
  have f0:((0:Int)<((2*H-1-(2*H-1):Nat):Int))=False:=eq_false (by omega)
  simp only[↓aj,ak,simprocAttr,aa,aX,hw,f0]
  exact hk rs L hS hK (by omega) (by omega) (by omega) (by omega) ld
 ·rw[lr,Nat.sub_zero]
  simp only[has,↓aj,ak,simprocAttr,aa]
 ·rw[lr,cD]
  have e:BR L (uk t o id aL (mT o id aL H 0))= .agg iG [.raw (u32 t),.raw (u32 o),.agg (.ar 16 L8) (bs id),.agg (.ar 32 L8) (bs aL),.sl (.ar 32 L8) (rows.length+3) [] 0 (2*H) true,.raw (u32 0#32),.mp (rows.length+4),.mp (rows.length+5),.raw (.slice none 0 0)]:=by
   show D.agg iG [.raw (u32 t),.raw (u32 o),.agg (.ar 16 L8) (bs id),.agg (.ar 32 L8) (bs aL),.sl (.ar 32 L8) L.nr [] 0 (mT o id aL H 0).length L.ne,.raw (u32 0#32),.mp L.ms,.mp L.mt,L.dl]=_
   rw[NT,le,ld,ln,lm,lt]
  rw[e];rfl
 ·rw[ln,cD];rfl
 ·rw[lm,cD];rfl
 ·rw[lt,cD];rfl
 ·rw[b6];rfl
 ·rw[cD];rfl
structure LmS (C:be):Prop where
 lef:C.fn 109=some Q1
 sit:C.fn 40=some Gg
 mas:C.fn 111=some Iv
 dig:C.fn 110=some wE
 frc:C.fn 54=some Kd
def ot(rows:Rows)(d:D)(m:List (BitVec 8)):Prop:=(∃e,d= .cF L8 (bs m) e)∨∃r e,d= .sl L8 r [] 0 m.length e∧live rows r=some ⟨L8,bs m⟩
theorem ot.bs{rows:Rows}{d:D}{m:List (BitVec 8)}(h:ot rows d m):bc rows d m:=by
 rcases h with⟨e,rfl⟩|⟨r,e,rfl,h⟩
 ·exact ec.to (.inr ⟨e,rfl⟩)
 ·exact bc.own h _ rfl
theorem ot.el{rows:Rows}{d:D}{m:List (BitVec 8)}(h:ot rows d m):eK L8 d=true∧elems rows d=some (Am.bs m)∧dK d=some m.length:=by
 rcases h with⟨e,rfl⟩|⟨r,e,rfl,h⟩
 ·exact⟨by simp[eK],rfl,by simp[dK,aC]⟩
 ·refine⟨by simp[eK],?_,rfl⟩
  simp only[elems,h]
  rw[List.drop_zero,List.take_of_length_le (by rw[aC];exact Nat.le_refl _)]
theorem ot.keep{rows ab:Rows}{d:D}{m:List (BitVec 8)}(h:ot rows d m)(hk:∀q l,live rows q=some ⟨L8,l⟩→live ab q=some ⟨L8,l⟩):ot ab d m:=by
 rcases h with⟨e,rfl⟩|⟨r,e,rfl,h⟩
 ·exact .inl ⟨e,rfl⟩
 ·exact .inr ⟨r,e,rfl,hk _ _ h⟩
def Dg(q:BitVec 32)(ds:List Nat)(tm:List D):Nat→List D
 |0=>tm
 |k+1=> .agg (pP ML LI) [Q3 q (k:Int),.raw (it ((ds.getD k 0:Nat):Int))]::Dg q ds tm k
def sgnE(m:List (BitVec 8)):D:= .agg (pP LS LB) [.raw (.string (j2 m)),.raw (.bool true)]
def Sg.next(s:Sg)(c m:List (BitVec 8)):Sg:={s with
 nx:=s.nx+1#32
 sm:=sgnE m::s.sm
 tm:=Dg s.nx (BM s.o.toNat ⟨s.id,s.nx⟩ c m) s.tm (pT s.o.toNat)
 last:=s.last++[(m,c)]}
def yI.next(L:yI)(d:D):yI:={L with dl:=d}
def B0(rows:Rows)(L:yI)(s:Sg)(q:Nat):Prop:=q≠L.r∧q≠L.nr∧q≠L.ms∧q≠L.mt∧∀ex n,L.dl≠ .sl jZ q [] 0 n ex
theorem qa.Zr{rows:Rows}{L:yI}{s:Sg}(h:qa rows L s):L.r≠L.nr∧L.r≠L.ms∧L.r≠L.mt∧L.nr≠L.ms∧L.nr≠L.mt∧L.ms≠L.mt:=
 ⟨fC h.a h.n (by decide),fC h.a h.m (by decide),fC h.a h.t (by decide),fC h.n h.m (by decide),fC h.n h.t (by decide),fC h.m h.t (by decide)⟩
theorem iK.setL{s:Sh}{d:D}{rows:Rows}{els:List D}{q:Nat}{s':Sh}{l:List D}(h:iK s d rows els)(hq:live rows q=some ⟨s',l⟩)(hs:s'≠s)(x:Option Row):iK s d (rows.set q x) els:=by
 rcases h with e|⟨r,ex,e,hl⟩
 ·exact .inl e
 ·exact .inr ⟨r,ex,e,by rw[aE (fC hq hl hs)];exact hl⟩
theorem qa.setNx{rows:Rows}{L:yI}{s:Sg}(h:qa rows L s)(x:BitVec 32):qa (rows.set L.r (some ⟨iG,[BR L {s with nx:=x}]⟩)) L {s with nx:=x}:=by
 obtain⟨n1,n2,n3,n4,n5,n6⟩:=h.Zr
 exact⟨aG h.a,by rw[aE n1];exact h.n,by rw[aE n2];exact h.m,by rw[aE n3];exact h.t,iK.setL h.l h.a (by decide) _⟩
theorem qa.setM{rows:Rows}{L:yI}{s:Sg}(h:qa rows L s)(x:List D):qa (rows.set L.ms (some ⟨AA,x⟩)) L {s with sm:=x}:=by
 obtain⟨n1,n2,n3,n4,n5,n6⟩:=h.Zr
 exact⟨by rw[aE n2.symm];exact h.a,by rw[aE n4.symm];exact h.n,aG h.m,by rw[aE n6];exact h.t,iK.setL h.l h.m (by decide) _⟩
theorem qa.setT{rows:Rows}{L:yI}{s:Sg}(h:qa rows L s)(x:List D):qa (rows.set L.mt (some ⟨C9,x⟩)) L {s with tm:=x}:=by
 obtain⟨n1,n2,n3,n4,n5,n6⟩:=h.Zr
 exact⟨by rw[aE n3.symm];exact h.a,by rw[aE n5.symm];exact h.n,by rw[aE n6.symm];exact h.m,aG h.t,iK.setL h.l h.t (by decide) _⟩
theorem ot.PD{rows:Rows}{d:D}{m:List (BitVec 8)}(h:ot rows d m){q:Nat}{s':Sh}{l:List D}(hq:live rows q=some ⟨s',l⟩)(hs:s'≠L8)(x:Option Row):ot (rows.set q x) d m:=
 h.keep fun p l' hp=>by rw[aE (fC hq hp hs)];exact hp
theorem ot.push{rows:Rows}{d:D}{m:List (BitVec 8)}(h:ot rows d m)(more:Rows):ot (rows++more) d m:=h.keep fun _ _ hp=>bJ hp
theorem qa.app{rows ab:Rows}{L:yI}{s:Sg}(h:qa rows L s){d':D}{x:List (BitVec 8)×List (BitVec 8)}(hO:iK jZ d' ab (s.last.map Gj++[Gj x]))
  (oD:∀r y,live rows r=some y→(∀ex n,L.dl≠ .sl jZ r [] 0 n ex)→live ab r=some y):
  live ab L.r=some ⟨iG,[BR L s]⟩∧qa (ab.set L.r (some ⟨iG,[BR (L.next d') {s with last:=s.last++[x]}]⟩)) (L.next d') {s with last:=s.last++[x]}:=by
 obtain⟨n1,n2,n3,n4,n5,n6⟩:=h.Zr
 have ga:=oD _ _ h.a (ia h.l h.a (by decide))
 have gn:=oD _ _ h.n (ia h.l h.n (by decide))
 have gm:=oD _ _ h.m (ia h.l h.m (by decide))
 have gt:=oD _ _ h.t (ia h.l h.t (by decide))
 refine⟨ga,aG ga,by rw[show(L.next d').nr=L.nr from rfl,aE n1];exact gn,by rw[show(L.next d').ms=L.ms from rfl,aE n2];exact gm,by rw[show(L.next d').mt=L.mt from rfl,aE n3];exact gt,?_⟩
 rw[List.map_append]
 exact iK.setL hO ga (by decide) _
set_option maxHeartbeats 8000000 in
theorem Zs(C:be)(h:LmS C){rows:Rows}{L:yI}{s:Sg}{d:D}{c m:List (BitVec 8)}(hS:qa rows L s)(hp:ml (s.v L)=true)(ho:sH s.o.toNat=true)(hc:c.length=32)(hm:ot rows d m)(hml:m.length≤1099511627776)
  (G5:s.nx.toNat<iA (s.v L))(hla:s.last.length≤1000000){K:D→Rows→Prop}
  (hk:∀ab dl' r',qa ab (L.next dl') (s.next c m)→live ab r'=some ⟨L8,bs (iD (s.v L) s.nx c m)⟩→rows.length≤r'→(∀q row,live rows q=some row→B0 rows L s q→live ab q=some row)→(∀q ex n,dl'= .sl jZ q [] 0 n ex→rows.length≤q)→rows.length≤ab.length→
   K (.cA [.sl L8 r' [] 0 (44+32*pT s.o.toNat+32*gX (s.v L) s.nx.toNat) false,.raw (it 0)]) ab):
  aR C 3 gG gF [.ptr iG L.r [0],.agg (.ar 32 L8) (bs c),d] rows K:=by
 refine ag rfl ?_
 unfold gF gG
 have hS1:=hS.push [some ⟨.ar 32 L8,[.agg (.ar 32 L8) (bs c)]⟩]
 have kLe:=fun k'=>kLeftV _ k' _ _ hS1.rd hp
 have hlv:iA (s.v L)≤1024:=by
  have:=(eQ.1 hp).2.2.2.2.1
  unfold iA;omega
 have c0:((iA (s.v L):Int)-((s.v L).nx.toNat:Int)=0)=False:=eq_false (by show¬((iA (s.v L):Int)-(s.nx.toNat:Int)=0);omega)
 have hSa:=hS1.a
 simp only[BR]at hSa
 have hcr:live (rows++[some (⟨.ar 32 L8,[.agg (.ar 32 L8) (bs c)]⟩:Row)]) rows.length=some ⟨.ar 32 L8,[.agg (.ar 32 L8) (bs c)]⟩:=by rw[b6];rfl
 have qj:=hm.push [some ⟨.ar 32 L8,[.agg (.ar 32 L8) (bs c)]⟩]
 have IS:∀q row,live rows q=some row→B0 rows L s q→live (rows++[some (⟨.ar 32 L8,[.agg (.ar 32 L8) (bs c)]⟩:Row)]) q=some row:=fun q row hq _=>bJ hq
 have hN1:rows.length<(rows++[some (⟨.ar 32 L8,[.agg (.ar 32 L8) (bs c)]⟩:Row)]).length:=by simp
 simp only[↓aj,ak,simprocAttr,aa]
 generalize rows++[some (⟨.ar 32 L8,[.agg (.ar 32 L8) (bs c)]⟩:Row)]=R1 at*
 have Zt:=hS1.setNx (s.nx+1#32)
 have hne:=hS1.Zr
 have hcr2:live (R1.set L.r (some ⟨iG,[BR L {s with nx:=s.nx+1#32}]⟩)) rows.length=some ⟨.ar 32 L8,[.agg (.ar 32 L8) (bs c)]⟩:=by rw[aE (fC hS1.a hcr (by decide))];exact hcr
 have LF:=qj.PD hS1.a (by decide) (some ⟨iG,[BR L {s with nx:=s.nx+1#32}]⟩)
 have DR:∀q row,live rows q=some row→B0 rows L s q→live (R1.set L.r (some ⟨iG,[BR L {s with nx:=s.nx+1#32}]⟩)) q=some row:=fun q row hq he=>by rw[aE (Ne.symm he.1)];exact IS q row hq he
 have hN2:rows.length<(R1.set L.r (some ⟨iG,[BR L {s with nx:=s.nx+1#32}]⟩)).length:=by simpa using hN1
 have hSa2:=Zt.a
 have hln2:(R1.set L.r (some (⟨iG,[BR L {s with nx:=s.nx+1#32}]⟩:Row))).length=R1.length:=List.length_set
 simp only[BR]at hSa2 Zt hcr2 LF DR hN2 hln2
 simp only[↓aj,ak,simprocAttr,aa,aX,h.lef,kLe,c0,hSa]
 generalize R1.set L.r (some (⟨iG,[.agg iG [.raw (u32 s.t),.raw (u32 s.o),.agg (.ar 16 L8) (bs s.id),.agg (.ar 32 L8) (bs s.aL),.sl (.ar 32 L8) L.nr [] 0 s.ns.length L.ne,.raw (u32 (s.nx+1#32)),.mp L.ms,.mp L.mt,L.dl]]⟩:Row))=R2 at*
 obtain⟨e1,e2,e3⟩:=LF.el
 have hby:=QE m
 have hmv:(⟨(ub m).toArray⟩:ByteArray)=j2 m:=rfl
 have Zb:=Zt.m
 have Zu:=Zt.setM (.agg (pP LS LB) [.raw (.string (j2 m)),.raw (.bool true)]::s.sm)
 have hcr3:live (R2.set L.ms (some ⟨AA,.agg (pP LS LB) [.raw (.string (j2 m)),.raw (.bool true)]::s.sm⟩)) rows.length=some ⟨.ar 32 L8,[.agg (.ar 32 L8) (bs c)]⟩:=by rw[aE (fC Zb hcr2 (by decide))];exact hcr2
 have hm3:=LF.PD Zb (by decide) (some ⟨AA,.agg (pP LS LB) [.raw (.string (j2 m)),.raw (.bool true)]::s.sm⟩)
 have Zk:∀q row,live rows q=some row→B0 rows L s q→live (R2.set L.ms (some ⟨AA,.agg (pP LS LB) [.raw (.string (j2 m)),.raw (.bool true)]::s.sm⟩)) q=some row:=fun q row hq he=>by rw[aE (Ne.symm he.2.2.1)];exact DR q row hq he
 have hN3:rows.length<(R2.set L.ms (some ⟨AA,.agg (pP LS LB) [.raw (.string (j2 m)),.raw (.bool true)]::s.sm⟩)).length:=by simpa using hN2
 have hln3:(R2.set L.ms (some (⟨AA,.agg (pP LS LB) [.raw (.string (j2 m)),.raw (.bool true)]::s.sm⟩:Row))).length=R1.length:=by rw[List.length_set,hln2]
 simp only[↓aj,ak,simprocAttr,aa,aX,hSa2,e1,e2,e3,aC,hby,hmv,Zb]
 generalize R2.set L.ms (some (⟨AA,.agg (pP LS LB) [.raw (.string (j2 m)),.raw (.bool true)]::s.sm⟩:Row))=R3 at*
 have hSa3:=Zu.a
 simp only[BR]at hSa3
 obtain⟨f1,f2,f3⟩:=hm3.el
 have hSa3A:=fun L'=>aA hSa3 L'
 have hcr3A:=fun L'=>aA hcr3 L'
 have f2A:∀L',elems (R3++L') d=some (bs m):=fun L'=>(hm3.push L').el.2.1
 simp only[↓aj,ak,simprocAttr,aa,aX,hSa3,f1,f2,f2A,f3,aC,hby,hmv,hcr3,hSa3A,hcr3A]
 have iB:live (R3++[some (⟨jZ,[.agg jZ [.raw (.string (j2 m)),.agg (.ar 32 L8) (bs c)]]⟩:Row)]) R1.length=some ⟨jZ,[.agg jZ [.raw (.string (j2 m)),.agg (.ar 32 L8) (bs c)]]⟩:=by
  rw[←hln3,b6];rfl
 have hlet:D.agg jZ [.raw (.string (j2 m)),.agg (.ar 32 L8) (bs c)]=Gj (m,c):=rfl
 have hO3:=iK.push (more:=[some (⟨jZ,[.agg jZ [.raw (.string (j2 m)),.agg (.ar 32 L8) (bs c)]]⟩:Row)]) Zu.l
 have hS3p:=Zu.push [some (⟨jZ,[.agg jZ [.raw (.string (j2 m)),.agg (.ar 32 L8) (bs c)]]⟩:Row)]
 have hcr3p:=hcr3A [some (⟨jZ,[.agg jZ [.raw (.string (j2 m)),.agg (.ar 32 L8) (bs c)]]⟩:Row)]
 have hm3p:=hm3.push [some (⟨jZ,[.agg jZ [.raw (.string (j2 m)),.agg (.ar 32 L8) (bs c)]]⟩:Row)]
 have hF3p:∀q row,live rows q=some row→B0 rows L s q→live (R3++[some (⟨jZ,[.agg jZ [.raw (.string (j2 m)),.agg (.ar 32 L8) (bs c)]]⟩:Row)]) q=some row:=fun q row hq he=>bJ (Zk q row hq he)
 have hN3p:rows.length<(R3++[some (⟨jZ,[.agg jZ [.raw (.string (j2 m)),.agg (.ar 32 L8) (bs c)]]⟩:Row)]).length:=by rw[List.length_append];omega
 simp only[↓aj,ak,simprocAttr,aa,iB,List.take]
 generalize R3++[some (⟨jZ,[.agg jZ [.raw (.string (j2 m)),.agg (.ar 32 L8) (bs c)]]⟩:Row)]=R4 at*
 rw[hlet]
 refine Ao hO3 (by rw[List.length_map];simp[most];omega) (by rw[List.length_map];simp[most];omega) fun R5 hl5 oD hlen5=>?_
 obtain⟨d',je⟩:∃d',d'=D.sl jZ R4.length [] 0 ((s.last.map Gj).length+[Gj (m,c)].length) false:=⟨_,rfl⟩
 rw[←je]
 have hO5:iK jZ d' R5 (s.last.map Gj++[Gj (m,c)]):= .inr ⟨R4.length,false,by rw[je,List.length_append],hl5⟩
 obtain⟨hSa5,hS6⟩:=hS3p.app hO5 oD
 have hcr5:=oD _ _ hcr3p (ia hO3 hcr3p (by decide))
 have hm5:ot R5 d m:=hm3p.keep fun q l hq=>oD _ _ hq (ia hO3 hq (by decide))
 have hF5:∀q row,live rows q=some row→B0 rows L s q→live R5 q=some row:=fun q row hq he=>oD _ _ (hF3p q row hq he) he.2.2.2.2
 have hcr6:live (R5.set L.r (some ⟨iG,[BR (L.next d') {s with nx:=s.nx+1#32,sm:= .agg (pP LS LB) [.raw (.string (j2 m)),.raw (.bool true)]::s.sm,last:=s.last++[(m,c)]}]⟩)) rows.length=some ⟨.ar 32 L8,[.agg (.ar 32 L8) (bs c)]⟩:=by rw[aE (fC hSa5 hcr5 (by decide))];exact hcr5
 have hm6:=hm5.PD hSa5 (by decide) (some ⟨iG,[BR (L.next d') {s with nx:=s.nx+1#32,sm:= .agg (pP LS LB) [.raw (.string (j2 m)),.raw (.bool true)]::s.sm,last:=s.last++[(m,c)]}]⟩)
 have hF6:∀q row,live rows q=some row→B0 rows L s q→live (R5.set L.r (some ⟨iG,[BR (L.next d') {s with nx:=s.nx+1#32,sm:= .agg (pP LS LB) [.raw (.string (j2 m)),.raw (.bool true)]::s.sm,last:=s.last++[(m,c)]}]⟩)) q=some row:=fun q row hq he=>by rw[aE (Ne.symm he.1)];exact hF5 q row hq he
 have hN6:rows.length<(R5.set L.r (some (⟨iG,[BR (L.next d') {s with nx:=s.nx+1#32,sm:= .agg (pP LS LB) [.raw (.string (j2 m)),.raw (.bool true)]::s.sm,last:=s.last++[(m,c)]}]⟩:Row))).length:=by rw[List.length_set,hlen5];omega
 have hdf:D.fits d' .ref=true:=by rw[je];rfl
 have Z1:∀q ex n,d'= .sl jZ q [] 0 n ex→rows.length≤q:=fun q ex n e=>by rw[je]at e;injection e with _ e;omega
 simp only[BR]at hSa5
 have hR6:R5.set L.r (some (⟨iG,[BR (L.next d') {s with nx:=s.nx+1#32,sm:= .agg (pP LS LB) [.raw (.string (j2 m)),.raw (.bool true)]::s.sm,last:=s.last++[(m,c)]}]⟩:Row))=R5.set L.r (some ⟨iG,[.agg iG [.raw (u32 s.t),.raw (u32 s.o),.agg (.ar 16 L8) (bs s.id),.agg (.ar 32 L8) (bs s.aL),.sl (.ar 32 L8) L.nr [] 0 s.ns.length L.ne,.raw (u32 (s.nx+1#32)),.mp L.ms,.mp L.mt,d']]⟩):=rfl
 rw[hR6]at hcr6 hm6 hN6 hS6
 have hF6:∀q row,live rows q=some row→B0 rows L s q→live (R5.set L.r (some ⟨iG,[.agg iG [.raw (u32 s.t),.raw (u32 s.o),.agg (.ar 16 L8) (bs s.id),.agg (.ar 32 L8) (bs s.aL),.sl (.ar 32 L8) L.nr [] 0 s.ns.length L.ne,.raw (u32 (s.nx+1#32)),.mp L.ms,.mp L.mt,d']]⟩)) q=some row:=hF6
 clear hR6
 obtain⟨e1',e2',e3'⟩:=hm5.el
 simp only[↓aj,ak,simprocAttr,aa,aX,hSa5,hcr5,e1',e2',e3',aC,hby,hmv,hdf]
 generalize R5.set L.r (some (⟨iG,[.agg iG [.raw (u32 s.t),.raw (u32 s.o),.agg (.ar 16 L8) (bs s.id),.agg (.ar 32 L8) (bs s.aL),.sl (.ar 32 L8) L.nr [] 0 s.ns.length L.ne,.raw (u32 (s.nx+1#32)),.mp L.ms,.mp L.mt,d']]⟩:Row))=R6 at*
 have hSa6:=hS6.a
 simp only[BR,yI.next]at hSa6
 obtain⟨gV,qX,p8,Ph,hn,wv,HV⟩:=eQ.1 hp
 have hp6:ml (Sg.v {s with nx:=s.nx+1#32,sm:= .agg (pP LS LB) [.raw (.string (j2 m)),.raw (.bool true)]::s.sm,last:=s.last++[(m,c)]} (L.next d'))=true:=KA hS6 gV qX p8 Ph hn wv
 have kSt:=fun k'=>X2 R6 k' _ _ s.nx hS6.rd hp6
 have hrL:(L.next d').r=L.r:=rfl
 have hidE:(Sg.v {s with nx:=s.nx+1#32,sm:= .agg (pP LS LB) [.raw (.string (j2 m)),.raw (.bool true)]::s.sm,last:=s.last++[(m,c)]} (L.next d')).id=s.id:=rfl
 rw[hrL,hidE]at kSt
 have kMa:=fun k'=>XB R6 k' ⟨s.id,s.nx⟩ c m d hm6.bs gV hc
 have hml':(jJ s.id s.nx c m).length=32:=dh _
 have kDi:=fun k'=>J3 R6 k' s.o (jJ s.id s.nx c m) hml' ho
 have yT:fz s.o.toNat (jJ s.id s.nx c m)=BM s.o.toNat ⟨s.id,s.nx⟩ c m:=rfl
 rw[yT]at kDi
 have hpt:pT s.o.toNat≤265:=(j8 ho).2.2.1
 simp only[↓aj,ak,simprocAttr,aa,aX,hSa6,h.sit,kSt,hcr6,h.mas,kMa,h.dig,kDi]
 have qY:(BM s.o.toNat ⟨s.id,s.nx⟩ c m).length=pT s.o.toNat:=J8 _ _ _ _
 have hSd:live (R6++[some (⟨LI,(BM s.o.toNat ⟨s.id,s.nx⟩ c m).map vR⟩:Row)]) R6.length=some ⟨LI,(BM s.o.toNat ⟨s.id,s.nx⟩ c m).map vR⟩:=by rw[b6];rfl
 have hSx:Sg.next s c m={s with nx:=s.nx+1#32,sm:= .agg (pP LS LB) [.raw (.string (j2 m)),.raw (.bool true)]::s.sm,tm:=Dg s.nx (BM s.o.toNat ⟨s.id,s.nx⟩ c m) s.tm (pT s.o.toNat),last:=s.last++[(m,c)]}:=rfl
 rw[hSx]at hk
 have hsF:∀tm,iD (Sg.v {s with nx:=s.nx+1#32,sm:= .agg (pP LS LB) [.raw (.string (j2 m)),.raw (.bool true)]::s.sm,tm:=tm,last:=s.last++[(m,c)]} (L.next d')) s.nx c m=iD (s.v L) s.nx c m:=fun _=>rfl
 have hpN:∀tm,gX (Sg.v {s with nx:=s.nx+1#32,sm:= .agg (pP LS LB) [.raw (.string (j2 m)),.raw (.bool true)]::s.sm,tm:=tm,last:=s.last++[(m,c)]} (L.next d')) s.nx.toNat=gX (s.v L) s.nx.toNat:=fun _=>rfl
 generalize BM s.o.toNat ⟨s.id,s.nx⟩ c m=ds at*
 generalize hPP:pT s.o.toNat=P at*
 refine bB P (fun i env rs=>has env [(60,.raw (it (i:Int))),(59,.raw (it (P:Int))),(58,.sl LI R6.length [] 0 P false),(0,.ptr iG L.r [0]),(8,.raw (u32 s.nx)),(4,.ptr (.ar 32 L8) rows.length [0]),(2,d)]∧
  qa rs (L.next d') {s with nx:=s.nx+1#32,sm:= .agg (pP LS LB) [.raw (.string (j2 m)),.raw (.bool true)]::s.sm,tm:=Dg s.nx ds s.tm i,last:=s.last++[(m,c)]}∧
  live rs R6.length=some ⟨LI,ds.map vR⟩∧live rs rows.length=some ⟨.ar 32 L8,[.agg (.ar 32 L8) (bs c)]⟩∧ot rs d m∧(∀q row,live rows q=some row→B0 rows L s q→live rs q=some row)∧rows.length<rs.length) ?_ ?_
  ⟨?_,hS6.push _,hSd,bJ hcr6,hm6.push _,fun q row hq he=>bJ (hF6 q row hq he),by rw[List.length_append];omega⟩
 ·rintro i hi env rs ⟨hw,hSi,hdi,hci,hmi,hFi,hNi⟩ R hR
  simp only[has]at hw
  have g0:((i:Int)<(P:Int))=True:=eq_true (by omega)
  have b0:∀n:Nat,((0:Int)≤(n:Int))=True:=fun n=>eq_true (by omega)
  have g1:=cE i (by omega)
  have g2:(ds.map vR)[i]?=some (.raw (it ((ds.getD i 0:Nat):Int))):=by
   have:i<ds.length:=by omega
   simp[List.getD,this,vR]
  have hSai:=hSi.a
  have Zv:=hSi.t
  simp only[BR,yI.next]at hSai
  have hsp:D.agg S16 [.raw (u32 s.nx),.raw (it (i:Int))]=Q3 s.nx (i:Int):=rfl
  have spf:(Q3 s.nx (i:Int)).fits ML=true:=rfl
  have hT:=hSi.setT (Dg s.nx ds s.tm (i+1))
  have htk:Dg s.nx ds s.tm (i+1)= .agg (pP ML LI) [Q3 s.nx (i:Int),.raw (it ((ds.getD i 0:Nat):Int))]::Dg s.nx ds s.tm i:=rfl
  have hmt:(L.next d').mt=L.mt:=rfl
  rw[hmt]at Zv
  simp only[↓aj,ak,simprocAttr,aa,aX,hw,g0,g1,g2,b0,hdi,hSai,hsp,spf,Zv]
  rw[hmt,htk]at hT
  refine hR _ _ ⟨by simp only[has,↓aj,ak,simprocAttr,aa,hw],?_,?_,?_,?_,?_,?_⟩
  ·rw[htk];exact hT
  ·rw[aE (fC Zv hdi (by decide))];exact hdi
  ·rw[aE (fC Zv hci (by decide))];exact hci
  ·exact hmi.PD Zv (by decide) _
  ·exact fun q row hq he=>by rw[aE (Ne.symm he.2.2.2.1)];exact hFi q row hq he
  ·rw[List.length_set];exact hNi
 ·rintro env rs ⟨hw,hSi,hdi,hci,hmi,hFi,hNi⟩ R
  simp only[has]at hw
  have g0:((P:Int)<(P:Int))=False:=eq_false (by omega)
  have hpi:=KA hSi gV qX p8 Ph hn wv
  have kFo:=fun k'=>kForceV rs k' _ d _ s.nx c m hSi.rd hmi.bs hpi ho hc hml G5
  rw[hrL]at kFo
  simp only[↓aj,ak,simprocAttr,aa,aX,hw,g0,hci,h.frc,kFo]
  have hpo:pT (Sg.v {s with nx:=s.nx+1#32,sm:= .agg (pP LS LB) [.raw (.string (j2 m)),.raw (.bool true)]::s.sm,tm:=Dg s.nx ds s.tm P,last:=s.last++[(m,c)]} (L.next d')).o.toNat=P:=hPP
  rw[hsF,hpN,hpo,←Nat.add_assoc]
  refine hk _ d' rs.length (hSi.push _) (by rw[b6];rfl) (by omega) (fun q row hq he=>bJ (hFi q row hq he)) Z1 (by rw[List.length_append];omega)
 ·simp only[has,↓aj,ak,simprocAttr,aa]
end iC
end Go.Am
namespace Go.Am
set_option linter.unusedSimpArgs false
set_option linter.unusedVariables false
namespace iC
open Go.Am.F
set_option maxRecDepth 10000
structure Whole (s:oJ):Prop where
 t:G4 s.t.toNat=true
 t10:hT s.t.toNat≤10
 o:sH s.o.toNat=true
 id:s.id.length=16
 sd:s.aL.length=32
 ns:s.ns=kx s.o s.id s.aL (hH s.t)
 ld:aQ s.ld=false
theorem Zw{t:BitVec 32}(h:G4 t.toNat=true):2≤hH t:=by
 have:2^1≤2^hT t.toNat:=Nat.pow_le_pow_right (by decide) (Ec h)
 exact this
theorem hH_le{t:BitVec 32}(h:hT t.toNat≤10):hH t≤1024:=by
 have:2^hT t.toNat≤2^10:=Nat.pow_le_pow_right (by decide) h
 exact this
theorem Whole.len{s:oJ}(h:Whole s):s.ns.length=2*hH s.t:=by rw[h.ns];exact AD _ _ _ _ _
theorem Whole.lv{s:oJ}(h:Whole s):iA s=hH s.t:=by unfold iA;rw[h.len];omega
theorem Whole.ok{s:oJ}(h:Whole s):ml s=true:=by
 have h1:=Zw h.t
 have h2:=hH_le h.t10
 have h3:=h.len
 refine eQ.2 ⟨h.id,h.sd,?_,by omega,by omega,by omega,h.ld⟩
 rw[h.ns]
 exact Po _ _ _ _ _
theorem Whole.pn{s:oJ}(h:Whole s){q:Nat}(hq:q<hH s.t):gX s q=hT s.t.toNat:=by
 have h1:=Zw h.t
 have e:hH s.t=2^hT s.t.toNat:=rfl
 unfold gX
 rw[h.lv]
 refine(Nat.log2_eq_iff (by omega)).2 ⟨by omega,?_⟩
 rw[Nat.pow_succ];omega
theorem pM(x:BitVec 32)(l:List (BitVec 8)):cY (bC x++l)=x:=by
 rw[←oF _ 4 (by decide)]
 show cY (bC x)=x
 exact F9 x
section
variable {s:oJ} (h:Whole s) {q:BitVec 32} (hq:q.toNat<hH s.t) (c m:List (BitVec 8)) (hc:c.length=32)
theorem sf_q:wG (iD s q c m)=q:=by
 rw[wG,iD]
 simp only[List.append_assoc]
 exact pM _ _
theorem sf_4:(iD s q c m).drop 4=lq s.o ⟨s.id,q⟩ s.aL c m++(bC s.t++(l9 s q.toNat).flatten):=by
 rw[iD]
 simp only[List.append_assoc]
 rfl
theorem sf_o:QY (iD s q c m)=s.o:=by
 rw[QY,sf_4,lq]
 simp only[List.append_assoc]
 exact pM _ _
theorem sf_p:nE (iD s q c m)=pT s.o.toNat:=by rw[nE,sf_o]
include hc
theorem sf_40:(iD s q c m).drop (40+32*pT s.o.toNat)=bC s.t++(l9 s q.toNat).flatten:=by
 have hl:=sj s.o ⟨s.id,q⟩ s.aL c m hc
 rw[show 40+32*pT s.o.toNat=4+(lq s.o ⟨s.id,q⟩ s.aL c m).length by omega,←List.drop_drop,sf_4,List.drop_left]
theorem sf_one:nF (iD s q c m)=lq s.o ⟨s.id,q⟩ s.aL c m:=by
 have hl:=sj s.o ⟨s.id,q⟩ s.aL c m hc
 rw[nF,sf_p,sf_4,←hl,List.take_left]
theorem sf_t:Kc (iD s q c m)=s.t:=by rw[Kc,sf_p,sf_40 c m hc];exact pM _ _
theorem sf_h:m8 (iD s q c m)=hT s.t.toNat:=by rw[m8,sf_t c m hc]
include h hq
theorem sf_path:iU (iD s q c m) (hT s.t.toNat)=l9 s q.toNat:=by
 have hl:=sr s q.toNat
 have hn:=h.pn hq
 refine List.ext_getElem (by rw[IC,hl,hn]) fun i h1 h2=>?_
 have e:(iU (iD s q c m) (hT s.t.toNat))[i]=XW (iD s q c m) i:=by simp[iU]
 have e44:(iD s q c m).drop (44+32*pT s.o.toNat)=(l9 s q.toNat).flatten:=by
  rw[show 44+32*pT s.o.toNat=(40+32*pT s.o.toNat)+4 by omega,←List.drop_drop,sf_40 c m hc]
  rfl
 rw[e,XW,sf_p,←List.drop_drop,e44]
 exact Ga (Gh h.ok (by rw[h.lv];exact hq)) i h2
theorem sf_E:dz (iD s q c m)=0:=by
 have hl:=Gi h.ok (by rw[h.lv];exact hq) c m hc
 rw[h.pn hq]at hl
 have hsh:q.toNat>>>hT s.t.toNat=0:=by rw[Nat.shiftRight_eq_div_pow];exact Nat.div_eq_of_lt hq
 have h1:=Ec h.t
 unfold dz
 rw[sf_o,sf_p,sf_t c m hc,sf_h c m hc,sf_q,if_neg (by omega),if_neg (by rw[h.o];decide),if_neg (by omega),if_neg (by rw[h.t];decide),if_neg]
 rintro(e|e)
 ·exact e hl
 ·exact e hsh
end
theorem RQ(r:BitVec 32)(i:Nat):(r>>>i).toNat=r.toNat/2^i:=by simp[Nat.shiftRight_eq_div_pow]
theorem q_top{t:BitVec 32}(ht:hT t.toNat≤10){q:BitVec 32}(hq:q.toNat<hH t):(q+1#32<<<hT t.toNat).toNat=hH t+q.toNat:=by
 have h2:=hH_le ht
 have e:(1#32<<<hT t.toNat).toNat=hH t:=by
  rw[BitVec.toNat_shiftLeft,Nat.shiftLeft_eq]
  show 1*hH t %4294967296=hH t
  omega
 rw[BitVec.toNat_add,e]
 omega
theorem Nl(x:BitVec 32)(n:Nat)(h:x.toNat=n):BitVec.ofNat 32 n=x:=by
 rw[←h];simp
theorem Nm{s:oJ}(h:Whole s){q:BitVec 32}(hq:q.toNat<hH s.t){x:List (BitVec 8)}(hx:x=s.ns.getD (hH s.t+q.toNat) []):
  ∀i,i≤hT s.t.toNat→dI s.id (q+1#32<<<hT s.t.toNat) x (l9 s q.toNat) i=s.ns.getD ((hH s.t+q.toNat)/2^i) []
 |0,_=>by rw[dI,hx,Nat.pow_zero,Nat.div_one]
 | i + 1, hi => by
  have ih:=Nm h hq hx i (by omega)
  have hHe:hH s.t=2^hT s.t.toNat:=rfl
  have ht:=q_top h.t10 hq
  have hr:((q+1#32<<<hT s.t.toNat)>>>i).toNat=(hH s.t+q.toNat)/2^i:=by rw[RQ,ht]
  have hr1:(((q+1#32<<<hT s.t.toNat)>>>i)>>>1).toNat=(hH s.t+q.toNat)/2^i/2:=by rw[RQ,hr]
  have hge:2≤(hH s.t+q.toNat)/2^i:=by
   rw[Nat.le_div_iff_mul_le (Nat.two_pow_pos i)]
   have:2^(i+1)≤2^hT s.t.toNat:=Nat.pow_le_pow_right (by decide) hi
   rw[Nat.pow_succ]at this
   omega
  have hle:(hH s.t+q.toNat)/2^i<2*hH s.t:=Nat.lt_of_le_of_lt (Nat.div_le_self _ _) (by omega)
  have hp:(l9 s q.toNat).getD i []=s.ns.getD ((hH s.t+q.toNat)/2^i^^^1) []:=by
   have hl:=sr s q.toNat
   have hn:=h.pn hq
   have:i<(l9 s q.toNat).length:=by omega
   simp only[List.getD,List.getElem?_eq_getElem this,Option.getD_some]
   simp[l9,nX,h.lv,List.getD]
  have hd:(hH s.t+q.toNat)/2^(i+1)=(hH s.t+q.toNat)/2^i/2:=by rw[Nat.pow_succ,Nat.div_div_eq_div_mul]
  rw[dI,ih,hp,hd]
  generalize (hH s.t+q.toNat)/2^i=r at*
  have Cj:=Pq s.o s.id s.aL (hH s.t) (r/2) (by omega) (by omega)
  rw[←h.ns,Nl _ _ hr1]at Cj
  rw[Cj]
  unfold CZ
  have pS:=xor1 r
  have hb:((q+1#32<<<hT s.t.toNat)>>>i&&&1#32=1#32)=(r %2=1):=by
   rw[←and1]
   apply propext
   constructor
   ·intro e
    have:=congrArg BitVec.toNat e
    rw[BitVec.toNat_umod,hr]at this
    exact this
   ·intro e
    apply BitVec.eq_of_toNat_eq
    rw[BitVec.toNat_umod,hr]
    exact e
  by_cases c:r %2=1
  ·rw[if_pos (by rw[hb];exact c)]
   rw[if_neg (by omega)]at pS
   rw[pS,show 2*(r/2)=r-1 by omega,show r-1+1=r by omega]
  ·rw[if_neg (by rw[hb];exact c)]
   rw[if_pos (by omega)]at pS
   rw[pS,show 2*(r/2)=r by omega]
theorem leaf_at{s:oJ}(h:Whole s){q:BitVec 32}(hq:q.toNat<hH s.t):nD s.id (q+1#32<<<hT s.t.toNat) (DI s.o.toNat ⟨s.id,q⟩ s.aL)=s.ns.getD (hH s.t+q.toNat) []:=by
 have h1:=Zw h.t
 rw[h.ns,Pp _ _ _ _ _ (by omega) (by omega),lfS,Nl _ _ (q_top h.t10 hq),show hH s.t+q.toNat-hH s.t=q.toNat by omega]
 simp
theorem PX{s:oJ}(h:Whole s){q:BitVec 32}(hq:q.toNat<hH s.t):yH s.id q (nD s.id (q+1#32<<<hT s.t.toNat) (DI s.o.toNat ⟨s.id,q⟩ s.aL)) (l9 s q.toNat)=s.ns.getD 1 []:=by
 have e:=Nm h hq (leaf_at h hq) (hT s.t.toNat) (Nat.le_refl _)
 have hl:=sr s q.toNat
 rw[h.pn hq]at hl
 rw[yH,hl,e]
 have h1:hH s.t=2^hT s.t.toNat:=rfl
 rw[show(hH s.t+q.toNat)/2^hT s.t.toNat=1 by rw[←h1];exact Nat.div_eq_of_lt_le (by omega) (by omega)]
theorem pub_t(s:oJ):cY (fc s)=s.t:=by
 rw[fc];simp only[List.append_assoc];exact pM _ _
theorem pub_o(s:oJ):cY ((fc s).drop 4)=s.o:=by
 rw[fc];simp only[List.append_assoc];exact pM s.o (s.id++s.ns.getD 1 [])
theorem pub_8(s:oJ):(fc s).drop 8=s.id++s.ns.getD 1 []:=by
 rw[fc];simp only[List.append_assoc];rfl
theorem pub_id{s:oJ}(h:s.id.length=16):((fc s).drop 8).take 16=s.id:=by
 rw[pub_8,←h,List.take_left]
theorem Zx{s:oJ}(h:s.id.length=16):(fc s).drop 24=s.ns.getD 1 []:=by
 rw[show 24=8+s.id.length by omega,←List.drop_drop,pub_8,List.drop_left]
theorem GM{s:oJ}(h:Whole s):eu (fc s)=(⟨s.t,s.o,s.id,s.ns.getD 1 []⟩,0):=by
 unfold eu
 simp only[sq h.ok,pub_t,pub_o,h.t,h.o,decide_true,Bool.and_true,cond_true,keyOf,pub_id h.id,Zx h.id]
theorem Zy{s z:oJ}(h:Whole s)(hz:Whole z)(ht:z.t=s.t)(ho:z.o=s.o)(hi:z.id=s.id){q:BitVec 32}(hq:q.toNat<hH s.t)(c m m2:List (BitVec 8))(hc:c.length=32):KO (fc z) (iD s q c m)=0∧
  X0 (fc z) m2 (iD s q c m)=yH s.id q (nD s.id (q+1#32<<<hT s.t.toNat) (pF ⟨s.id,q⟩ (lq s.o ⟨s.id,q⟩ s.aL c m) m2)) (l9 s q.toNat):=by
 constructor
 ·rw[KO,GM hz,sf_E h hq c m hc,sf_t c m hc,sf_o]
  simp[ht,ho]
 ·rw[X0,GM hz,sf_q,sf_h c m hc,sf_one c m hc,sf_path h hq c m hc]
  simp only[hi]
theorem rt_own{s z:oJ}(h:Whole s)(hz:Whole z)(ht:z.t=s.t)(ho:z.o=s.o)(hi:z.id=s.id){q:BitVec 32}(hq:q.toNat<hH s.t)(c m:List (BitVec 8))(hc:c.length=32):X0 (fc z) m (iD s q c m)=s.ns.getD 1 []:=by
 rw[(Zy h hz ht ho hi hq c m m hc).2,Pk s.o ⟨s.id,q⟩ s.aL c m hc h.o]
 exact PX h hq
theorem ver_own{s z:oJ}(h:Whole s)(hz:Whole z)(ht:z.t=s.t)(ho:z.o=s.o)(hi:z.id=s.id){q:BitVec 32}(hq:q.toNat<hH s.t)(c m:List (BitVec 8))(hc:c.length=32):so (fc z) m (iD s q c m)=if s.ns.getD 1 []=z.ns.getD 1 []then 0 else 5:=by
 rw[so,(Zy h hz ht ho hi hq c m m hc).1,rt_own h hz ht ho hi hq c m hc,GM hz]
 simp
theorem qa.els{rows:Rows}{L:yI}{s:Sg}(h:qa rows L s){q:Nat}{l:List D}(hq:live rows q=some ⟨L8,l⟩):B0 rows L s q:=
 ⟨(fC h.a hq (by decide)).symm,(fC h.n hq (by decide)).symm,(fC h.m hq (by decide)).symm,(fC h.t hq (by decide)).symm,ia h.l hq (by decide)⟩
theorem IU{R:Rows}{L:yI}{t o:BitVec 32}{id aL:List (BitVec 8)}(h:qa R L (uk t o id aL (kx o id aL (hH t))))(ht:G4 t.toNat=true)(h10:hT t.toNat≤10)(ho:sH o.toNat=true)(gV:id.length=16)(qX:aL.length=32):Whole ((uk t o id aL (kx o id aL (hH t))).v L):=
 ⟨ht,h10,ho,gV,qX,rfl,Sg.Gk h⟩
theorem PY{R':Rows}{L:yI}{s:Sg}{d:D}{c m:List (BitVec 8)}(h:Whole (s.v L))(h':qa R' (L.next d) (s.next c m)):Whole ((s.next c m).v (L.next d)):=
 ⟨h.t,h.t10,h.o,h.id,h.sd,h.ns,Sg.Gk h'⟩
end iC
end Go.Am
namespace Go.Am
set_option linter.unusedSimpArgs false
set_option linter.unusedVariables false
attribute [local congr] cd bt cg bu bw bO bg bx bz bP a7 bQ bA b9
namespace iC
open Go.Am.F
set_option maxRecDepth 10000
def lD(p:List (BitVec 8)):List (BitVec 8):=p.take (min p.length 120/4*4)++[0#8,0#8,0#8,0#8]
theorem GN(p:List (BitVec 8)):(lD p).length=min p.length 120/4*4+4:=by
 rw[lD,List.length_append,List.length_take]
 show min _ _+4=_
 omega
def dY(v:Nat)(p:List (BitVec 8)):xQ:=ofS v 0 (lD p)
def AZ(v:Nat):List (BitVec 8):=ug.set 0 (BitVec.ofInt 8 (v:Int))
theorem GO(v:Nat)(p:List (BitVec 8))(hv:v≤255):cL (dY v p)=true:=by
 have h:=GN p
 have e:∀n:Nat,n %4=0→((n:Int).tmod 4=0):=fun n hn=>by
  have:(n:Int).tmod 4=((n %4:Nat):Int):=rfl
  rw[this,hn];rfl
 have e1:=e (lD p).length (by omega)
 generalize hn:(lD p).length=n at*
 have hm:dY v p=⟨v,n,0,dU (lD p)⟩:=by rw[dY,ofS,hn]
 rw[hm]
 simp only[cL,Bool.and_eq_true,decide_eq_true_eq]
 refine⟨⟨⟨⟨⟨⟨⟨by omega,by omega⟩,by omega⟩,by omega⟩,e1⟩,by decide⟩,by omega⟩,by decide⟩
theorem Zz{rows:Rows}{d:D}{p:List (BitVec 8)}(h:bc rows d p)(n:Int)(hp:p.length≤9223372036854775807)(hn:n≤1099511627776)(k:D→Rows→Prop):aJ Tu rows k [d,.raw (it n)]=k (.sl L8 (0+rows.length) [] 0 (p.take n.toNat).length false) (rows++[some ⟨L8,bs (p.take n.toNat)⟩]):=by
 refine(jB (.bs h) (.int n) (by rw[Bool.and_eq_true,Nat.ble_eq,Nat.ble_eq,List.length_take];unfold most;omega) (by simp[ez,bZ,aS,Sh.pure]) k).trans ?_
 simp[ez,shift,ae,Sh.pure]
theorem KB{rows:Rows}{L:yI}{s:Sg}(h:qa rows L s){R:Rows}{q:Nat}(hq:rows.length≤q):B0 R L s q:=by
 have a:=bn h.a
 have b:=bn h.n
 have c:=bn h.m
 have d:=bn h.t
 refine⟨by omega,by omega,by omega,by omega,fun ex n e=>?_⟩
 rcases h.l with⟨e',e''⟩|⟨r,oy,e',hl⟩
 ·first|(rw[e]at e';cases e')|(rw[e]at e'';cases e'')
 ·rw[e]at e'
  injection e' with _ e'
  have:=bn hl
  omega
theorem pT_le(t:Nat):pT t≤265:=by
 unfold pT
 repeat' split
 all_goals omega
structure ImC (C:be):Prop where
 cu:C.fn 17=some Tu
 jo:C.fn 51=some Mi
 of:C.fn 52=some fOf
 bo:C.fn 31=some tB
 s0:C.fn 53=none
 s1:∃C1,C.fU 53=some (aR C1 3 gG gF)∧LmS C1
 im:C.fn 55=some Kq
set_option maxHeartbeats 1000000 in
theorem B1(C:be)(H:ImC C){rows:Rows}{L:yI}{s:Sg}{d:D}{p:List (BitVec 8)}(v:Nat)(hv:v≤255)(hS:qa rows L s)(hW:Whole (s.v L))(G5:s.nx.toNat<hH s.t)(hla:s.last.length≤1000)(hd:∀more,bc (rows++more) d p)(jO:dK d=some p.length)(hp:p.length≤9223372036854775807){K:D→Rows→Prop}
  (hk:∀ab dl' r' n,qa ab (L.next dl') (s.next (AZ v) (cB (dY v p)))→n=(j3 (dY v p) (iD (s.v L) s.nx (AZ v) (cB (dY v p))) (lD p)).length→live ab r'=some ⟨L8,bs (j3 (dY v p) (iD (s.v L) s.nx (AZ v) (cB (dY v p))) (lD p))⟩→rows.length≤r'→
   (∀q row,live rows q=some row→B0 rows L s q→live ab q=some row)→(∀q ex n,dl'= .sl jZ q [] 0 n ex→rows.length≤q)→K (.sl L8 r' [] 0 n false) ab):
  aR C 4 nv nu [.ptr iG L.r [0],.raw (it (v:Int)),d,.raw (it (-1))] rows K:=by
 refine ag rfl ?_
 unfold nu nv
 simp only[-List.reduceReplicate,vV]
 simp only[-List.reduceReplicate,dW]
 obtain⟨C1,r1,hL⟩:=H.s1
 have pZ:=hd []
 rw[List.append_nil]at pZ
 have w0:min ((p.length:Nat):Int) 120=((min p.length 120:Nat):Int):=by omega
 have w1:wz ((((min p.length 120:Nat):Int)).tdiv 4)=((min p.length 120/4:Nat):Int):=by
  rw[show(4:Int)=((4:Nat):Int)from rfl,←Int.ofNat_tdiv,bf (by omega)]
 have w2:wz (((min p.length 120/4:Nat):Int)*4)=((min p.length 120/4*4:Nat):Int):=by rw[bf (by omega)];omega
 have kC:=fun k=>Zz pZ ((min p.length 120/4*4:Nat):Int) (by omega) (by omega) k
 rw[Int.toNat_natCast]at kC
 have hz4:[D.raw (u8 0#8),.raw (u8 0#8),.raw (u8 0#8),.raw (u8 0#8)]=bs [0#8,0#8,0#8,0#8]:=rfl
 have sO:=GN p
 have kJ:∀k,aJ Mi (rows++[some ⟨L8,bs (p.take (min p.length 120/4*4))⟩,some ⟨L8,[.raw (u8 0#8),.raw (u8 0#8),.raw (u8 0#8),.raw (u8 0#8)]⟩,some ⟨.ref,[.sl L8 rows.length [] 0 (p.take (min p.length 120/4*4)).length false,.sl L8 (rows.length+1) [] 0 4 true]⟩]) k [.sl .ref (rows.length+2) [] 0 2 true]=_:=fun k=>
  kJoin _ k (rows.length+2) 2 true [.sl L8 rows.length [] 0 (p.take (min p.length 120/4*4)).length false,.sl L8 (rows.length+1) [] 0 4 true] [p.take (min p.length 120/4*4),[0#8,0#8,0#8,0#8]] (cD rows _ 2) rfl (.cons (bc.own (b6 rows _) _ rfl) (.cons (bc.own (cD rows _ 1) _ rfl) .nil)) (by simp) (by simp;omega)
 have lz:[p.take (min p.length 120/4*4),[0#8,0#8,0#8,0#8]].flatten=lD p:=by simp[lD]
 rw[lz]at kJ
 have kO:=fun r ex R k (hl:live R r=some ⟨L8,bs (lD p)⟩)=>kOf R k v 0 (.sl L8 r [] 0 (lD p).length ex) (lD p) (bc.own hl _ rfl) (by omega)
 have I3:ofS v 0 (lD p)=dY v p:=rfl
 simp only[I3]at kO
 have hR:=GO v p hv
 have yT:(dY v p).dg.length=32:=dh _
 have kB:=fun rows k=>Py rows k (dY v p) yT hR
 have mf:=fA
 have hz0:∀x,(bs ug).set 0 (.raw (u8 x))=bs (ug.set 0 x):=fun x=>by rw[bs,bs,List.map_set]
 simp only[↓aj,ak,simprocAttr,aa,aX,jO,w0,w1,w2,H.cu,kC,H.jo,kJ,H.of,kO,mf,H.bo,kB,H.s0,r1,hz0]
 have Ow:=pH (dY v p) yT
 have hlv:iA (s.v L)=hH s.t:=hW.lv
 have hpn:=hW.pn G5
 refine Zs C1 hL (hS.push _) hW.ok hW.o (c:=AZ v) (m:=cB (dY v p)) (by rw[AZ,List.length_set];rfl) (.inr ⟨_,false,by rw[Ow],cD rows _ 5⟩) (by omega) (by rw[hlv];exact G5) (by omega) fun ab dl' r' g1 g2 g3 g4 g5 g6=>?_
 have e3:=g4 _ _ (cD rows _ 3) (KB hS (by omega))
 have e4:=g4 _ _ (cD rows _ 4) (KB hS (by omega))
 have hsl':(iD (s.v L) s.nx (AZ v) (cB (dY v p))).length=44+(32*pT s.o.toNat+32*hT s.t.toNat):=by
  rw[Gi hW.ok (by rw[hlv];exact G5) (AZ v) (cB (dY v p)) (by rw[AZ,List.length_set];rfl),hpn,Nat.add_assoc]
  rfl
 have ht9:hT s.t.toNat≤10:=hW.t10
 have hp9:=pT_le s.o.toNat
 have kI:=fun k=>kImage ab k (dY v p) _ _ (iD (s.v L) s.nx (AZ v) (cB (dY v p))) (lD p) yT (bc.own (ex:=false) g2 _ rfl) (bc.own (ex:=false) e3 _ rfl) (by omega) (by omega) (by
  simp only[pI,hR,Bool.true_and,Bool.and_eq_true,decide_eq_true_eq]
  exact⟨rfl,by omega⟩)
 rw[hsl']at kI
 have hpn':44+32*pT s.o.toNat+32*gX (s.v L) s.nx.toNat=44+32*pT s.o.toNat+32*hT s.t.toNat:=by rw[hpn];rfl
 simp only[↓aj,ak,simprocAttr,aa,aX,e4,hpn',H.im,kI]
 rw[List.length_append]at g6
 refine hk _ dl' ab.length _ (g1.push _) rfl (b6 ab _) (by omega) (fun q row hq he=>aA (g4 q row (aA hq _) he) _) fun q ex n hd=>?_
 have:=g5 q ex n hd
 rw[List.length_append]at this
 omega
def sl8:KS:=List.replicate 8 (0,ug)
def w9:List (BitVec 8):=List.replicate 8192 0#8
theorem ZA:w9.length=8192:=List.length_replicate ..
def pt0:D:= .agg (.ar 64 L8) (List.replicate 64 (.raw (u8 0#8)))
theorem UG(C:be){rows:Rows}{K:D→Rows→Prop}(hk:K (.ptr uI rows.length [0]) (rows++[some ⟨uI,[fO sl8]⟩])):aR C 0 pd pc [] rows K:=by
 refine ag rfl ?_
 unfold pc pd
 have zs:List.replicate 8 (D.agg SPl [.raw (it 0),.agg (.ar 32 L8) (bs ug)])=sl8.map plD:=rfl
 have sf:D.fits (.agg uI [.agg (.ar 8 SPl) (sl8.map plD),.raw (.bool false),.raw (.bool false)]) uI=true:=rfl
 simp only[dW,zs]
 simp only[↓aj,ak,simprocAttr,aa,aX,sf]
 exact hk
theorem UH(C:be){rows:Rows}{f q:Nat}{K:D→Rows→Prop}(hk:K (.ptr lC rows.length [0]) (rows++[some ⟨lC,[uH 0 w9 pt0 f q]⟩])):aR C 2 gI gH [.ptr SF f [0],.ptr Pf q [0]] rows K:=by
 refine ag rfl ?_
 unfold gH gI
 have z1:List.replicate 8192 (D.raw (u8 0#8))=bs w9:=by rw[bs,w9,List.map_replicate]
 have z2:D.agg (.ar 64 L8) (List.replicate 64 (.raw (u8 0#8)))=pt0:=rfl
 have sf:∀l,D.fits (.agg lC l) lC=true:=fun _=>rfl
 rw[z1]
 rw[z2]
 simp only[↓aj,ak,simprocAttr,aa,aX,sf]
 exact hk
structure EnC (C:be):Prop where
 s0:C.fn 128=none
 s1:∃C1,C.fU 128=some (aR C1 0 pd pc)
 ms:C.fn 129=some Gz
theorem ZB(C:be)(H:EnC C){rows:Rows}{K:D→Rows→Prop}(hk:K (.ptr ND (rows.length+1) [0]) (rows++[some ⟨uI,[fO sl8]⟩,some ⟨ND,[.agg ND [.ptr uI rows.length [0],gY zR,.agg (.ar 32 L8) (bs ug),.raw (it 0)]]⟩])):aR C 0 lV lU [] rows K:=by
 refine ag rfl ?_
 unfold lU lV
 obtain⟨C1,r1⟩:=H.s1
 have kM:=fun rows k=>kMsNew rows k
 have sf:∀l,D.fits (.agg ND l) ND=true:=fun _=>rfl
 have mf:(gY zR).fits SMea=true:=rfl
 simp only[dW]
 simp only[↓aj,ak,simprocAttr,aa,aX,H.s0,r1]
 refine UG C1 ?_
 simp only[↓aj,ak,simprocAttr,aa,aX,H.ms,kM,sf,mf]
 exact hk
structure NmC (C:be):Prop where
 s0:C.fn 64=none
 s1:∃C1,C.fU 64=some (aR C1 2 gI gH)
 e0:C.fn 65=none
 e1:∃C1,C.fU 65=some (aR C1 0 lV lU)∧EnC C1
 p0:C.fn 67=none
 p1:∃C1,C.fU 67=some (aR C1 0 tj tf)
 co:C.fn 66=some GH
theorem nm_run(C:be)(H:NmC C){rows:Rows}{f m q a w:Nat}{x:List (BitVec 8)}{c:pU}(hF:fG rows f m x)(hx:x.length=10240)(hc:sv rows q a w c){K:D→Rows→Prop}
  (hk:∀ab L,eJ rows ab→L.f=f→L.m=m→L.q=q→L.a=a→L.w=w→(∀x∈[L.M,L.s,L.e,L.sl],rows.length≤x)→fB ab L ⟨0,w9,x,c⟩→DS ab L zR sl8→K (.ptr jb L.M [0]) ab):
  aR C 2 gE gC [.ptr SF f [0],.ptr Pf q [0]] rows K:=by
 refine ag rfl ?_
 unfold gC gE
 obtain⟨C1,r1⟩:=H.s1
 obtain⟨C2,r2,hE⟩:=H.e1
 obtain⟨C3,r3⟩:=H.p1
 have cf:∀a,(GG a).fits Rz=true:=fun _=>rfl
 have sf:∀l,D.fits (.agg jb l) jb=true:=fun _=>rfl
 simp only[↓aj,ak,simprocAttr,aa,aX,H.s0,r1]
 refine UH C1 ?_
 simp only[↓aj,ak,simprocAttr,aa,aX,H.e0,r2]
 refine ZB C2 hE ?_
 simp only[↓aj,ak,simprocAttr,aa,aX,H.co,Zi,cf,H.p0,r3,lQ,tf,tj,sf]
 exact hk _ ⟨rows.length+4,rows.length,rows.length+2,rows.length+1,f,m,q,a,w⟩ (eJ.app _ _) rfl rfl rfl rfl rfl (by simp)
  ⟨⟨_,_,cD rows _ 4⟩,⟨pt0,b6 rows _⟩,ZA,hF.push _,hx,hc.push _⟩ ⟨⟨_,_,cD rows _ 2⟩,cD rows _ 1,rfl,rfl⟩
theorem Nn(C:be){rows:Rows}{K:D→Rows→Prop}(hk:K (.ptr jM rows.length [0]) (rows++[some ⟨jM,[jF PW]⟩])):aR C 0 oX oW [] rows K:=by
 refine ag rfl ?_
 unfold oW oX
 have sf:∀l,D.fits (.agg jM l) jM=true:=fun _=>rfl
 simp only[-List.reduceReplicate,vV]
 simp only[↓aj,ak,simprocAttr,aa,aX,sf]
 exact hk
end iC
end Go.Am
namespace Go.Am
set_option linter.unusedSimpArgs false
set_option linter.unusedVariables false
namespace iC
open Go.Am.F
set_option maxRecDepth 10000
theorem B2(x:List Wd)(P Q:List Wr):∀n,n≤P.length→jK x (P++Q) n=jK x P n
 |0,_=>rfl
 |n+1,h=>by
  rw[jK,jK,B2 x P Q n (by omega),List.getElem?_append_left (by omega)]
def v5(x:List Wd)(f:Nat)(l:List (BitVec 32)):Nat→List Wd
 |0=>x
 |n+1=>match(v5 x f l n)[f+n]? with
  |some o=>(v5 x f l n).set (f+n) (o.1|||l.getD n 0#32,o.2)
  |none=>v5 x f l n
theorem AQ(x:List Wd)(f:Nat)(l:List (BitVec 32)):∀n,(v5 x f l n).length=x.length
 |0=>rfl
 |n+1=>by
  rw[v5]
  split
  ·rw[List.length_set,AQ x f l n]
  ·exact AQ x f l n
theorem AR(x:List Wd)(f:Nat)(l:List (BitVec 32))(k:Nat):∀n,k<f∨f+n≤k→(v5 x f l n)[k]?=x[k]?
 |0,_=>rfl
 |n+1,h=>by
  rw[v5]
  split
  ·rw[List.getElem?_set_ne (by omega),AR x f l k n (by omega)]
  ·exact AR x f l k n (by omega)
theorem or_not(a b:BitVec 32):a&&&~~~(a|||b)=0#32:=by
 ext i hi;simp;intro h;simp[h]
theorem or_self(a b:BitVec 32):a|||(a|||b)=a|||b:=by
 ext i hi;simp
theorem IV(x:List Wd)(f:Nat)(l:List (BitVec 32)):∀n,f+n≤x.length→Pr x (pE (x.map (·.1)) f l n)∧jK x (pE (x.map (·.1)) f l n) (pE (x.map (·.1)) f l n).length=v5 x f l n
 |0,_=>⟨fun j p h=>by simp[pE]at h,rfl⟩
 | n + 1, h => by
  obtain⟨h1,h2⟩:=IV x f l n (by omega)
  have hx:f+n<x.length:=by omega
  have ho:=AR x f l (f+n) n (by omega)
  rw[List.getElem?_eq_getElem hx]at ho
  have hg:(x.map (·.1)).getD (f+n) 0#32=(x[f+n]).1:=by simp[List.getD,hx]
  have hs:v5 x f l (n+1)=(v5 x f l n).set (f+n) ((x[f+n]).1|||l.getD n 0#32,(x[f+n]).2):=by
   rw[v5,ho]
  rw[pE,ME,hg,hs]
  generalize pE (x.map (·.1)) f l n=P at*
  by_cases c:(x[f+n]).1|||l.getD n 0#32=(x[f+n]).1
  ·rw[if_pos c,List.append_nil,c]
   refine⟨h1,h2.trans ?_⟩
   have hl:f+n<(v5 x f l n).length:=by rw[AQ];exact hx
   have hv:(v5 x f l n)[f+n]=x[f+n]:=by rw[List.getElem?_eq_getElem hl]at ho;exact Option.some.inj ho
   rw[show((x[f+n]).1,(x[f+n]).2)=x[f+n]from rfl,←hv,List.set_getElem_self]
  ·rw[if_neg c]
   have hlen:(P++[(f+n,(x[f+n]).1|||l.getD n 0#32)]).length=P.length+1:=by simp
   have hp:jK x (P++[(f+n,(x[f+n]).1|||l.getD n 0#32)]) P.length=v5 x f l n:=by rw[B2 _ _ _ _ (Nat.le_refl _),h2]
   refine⟨fun j p hj=>?_,?_⟩
   ·by_cases c2:j<P.length
    ·rw[List.getElem?_append_left c2]at hj
     obtain⟨o,g1,g2⟩:=h1 j p hj
     exact⟨o,by rw[B2 _ _ _ _ (by omega)];exact g1,g2⟩
    ·have Wb:=(List.getElem?_eq_some_iff.1 hj).1
     have e:j=P.length:=by rw[hlen]at Wb;omega
     subst e
     rw[List.getElem?_append_right (Nat.le_refl _),Nat.sub_self]at hj
     cases hj
     exact⟨x[f+n],by rw[hp];exact ho,or_not _ _⟩
   ·rw[hlen,jK,List.getElem?_append_right (Nat.le_refl _),Nat.sub_self,hp]
    simp only[List.getElem?_cons_zero,ho,or_self]
theorem ZC(x:List Wd)(f:Nat)(l:List (BitVec 32)):∀n,n≤l.length→f+n≤x.length→(∀k,f≤k→k<f+n→(x.map (·.1)).getD k 0#32=0#32)→(v5 x f l n).map (·.1)=(x.map (·.1)).take f++l.take n++(x.map (·.1)).drop (f+n)
 |0,_,_,_=>by simp[v5]
 | n + 1, h1, h2, h3 => by
  have ih:=ZC x f l n (by omega) (by omega) fun k a b=>h3 k a (by omega)
  have hx:f+n<x.length:=by omega
  have ho:=AR x f l (f+n) n (by omega)
  rw[List.getElem?_eq_getElem hx]at ho
  have hz:=h3 (f+n) (by omega) (by omega)
  have hg:(x.map (·.1)).getD (f+n) 0#32=(x[f+n]).1:=by simp[List.getD,hx]
  rw[hg]at hz
  rw[v5,ho]
  simp only[hz,BitVec.zero_or,List.map_set,ih]
  have ll:l.getD n 0#32=l[n]'(by omega):=by simp[List.getD,(by omega:n<l.length)]
  have t1:l.take (n+1)=l.take n++[l[n]'(by omega)]:=by rw[List.take_succ_eq_append_getElem (by omega)]
  have t2:(x.map (·.1)).drop (f+n)=(x[f+n]).1::(x.map (·.1)).drop (f+(n+1)):=by
   rw[List.drop_eq_getElem_cons (by simpa using hx)]
   simp[Nat.add_assoc]
  have e1:((x.map (·.1)).take f++l.take n).length=f+n:=by simp;omega
  rw[t1,t2,ll,List.set_append_right _ _ (by rw[e1];exact Nat.le_refl _),e1,Nat.sub_self]
  simp only[List.set_cons_zero,List.append_assoc,List.cons_append,List.nil_append]
theorem GP(c:pU)(f:Nat)(l:List (BitVec 32))(h:f+l.length≤c.ws.length)(hz:∀k,f≤k→k<f+l.length→c.w.getD k 0#32=0#32):
  Pr c.ws (iT c.w f l)∧(jK c.ws (iT c.w f l) (iT c.w f l).length).length=c.ws.length∧(jK c.ws (iT c.w f l) (iT c.w f l).length).map (·.1)=c.w.take f++l++c.w.drop (f+l.length):=by
 obtain⟨h1,h2⟩:=IV c.ws f l l.length h
 have h3:=ZC c.ws f l l.length (Nat.le_refl _) h hz
 rw[List.take_length]at h3
 exact⟨h1,by rw[show iT c.w f l=pE (c.ws.map (·.1)) f l l.length from rfl,h2,AQ],by rw[show iT c.w f l=pE (c.ws.map (·.1)) f l l.length from rfl,h2];exact h3⟩
theorem lifeW:∀m,m<4→CX (255#32<<<(8*m)) 4=m+1:=by decide
theorem ZD:∀n,n<256→Pg (p9 n)=n:=by decide+kernel
theorem PZ(n:Nat)(d:List (BitVec 8))(h:d.length=4*n):jQ (words n d)=d:=by
 have key:∀n,4*n≤d.length→jQ (words n d)=d.take (4*n):=by
  intro n
  induction n with
  |zero=>intro _;rfl
  | succ n ih =>
   intro hn
   rw[yE,Mq,ih (by omega),show 4*(n+1)=4*n+4 by omega,List.take_add]
   congr 1
   obtain⟨a,b,c,e,hq⟩:∃a b c e,(d.drop (4*n)).take 4=[a,b,c,e]:=by
    have hl:((d.drop (4*n)).take 4).length=4:=by rw[List.length_take,List.length_drop];omega
    match(d.drop (4*n)).take 4,hl with
    |[a,b,c,e],_=>exact⟨a,b,c,e,rfl⟩
   rw[hq]
   simp only[jQ,List.map_cons,List.map_nil,List.flatten_cons,List.flatten_nil,List.append_nil]
   exact Xe a b c e
 rw[key n (by omega),List.take_of_length_le (by omega)]
def ZE(c:pU)(f:Nat)(l:List (BitVec 32)):pU:=⟨jK c.ws (iT c.w f l) (iT c.w f l).length,c.e,c.s⟩
def DT(bH:List (BitVec 8)):List (BitVec 32):=words 14 bH++words 4 idL
theorem v7(bH:List (BitVec 8)):(DT bH).length=18:=by simp[DT,eX]
def KC(bH:List (BitVec 8)):pU:=ZE DM 9 (DT bH)
def P0(bH:List (BitVec 8))(n:Nat):pU:=ZE (KC bH) 1 (p9 n)
def GQ(bH:List (BitVec 8))(n m:Nat):pU:=ZE (P0 bH n) 0 [255#32<<<(8*m)]
theorem No{c:pU}{f:Nat}{l:List (BitVec 32)}(h:f+l.length≤c.ws.length)(hz:∀k,f≤k→k<f+l.length→c.w.getD k 0#32=0#32):(ZE c f l).ws.length=c.ws.length:=(GP c f l h hz).2.1
theorem P1{c:pU}{f:Nat}{l:List (BitVec 32)}(h:f+l.length≤c.ws.length)(hz:∀k,f≤k→k<f+l.length→c.w.getD k 0#32=0#32):(ZE c f l).w=c.w.take f++l++c.w.drop (f+l.length):=(GP c f l h hz).2.2
theorem P2:DM.w=List.replicate 64 0#32:=by simp[DM,pU.w]
theorem P3(k:Nat):DM.w.getD k 0#32=0#32:=by
 rw[P2,List.getD_eq_getElem?_getD,List.getElem?_replicate]
 split<;>rfl
theorem v8:DM.ws.length=64:=by simp[DM]
theorem v9(bH:List (BitVec 8)):(KC bH).ws.length=64:=(No (by rw[v7,v8];decide) fun k _ _=>P3 k).trans v8
theorem P4(bH:List (BitVec 8)):(KC bH).w=List.replicate 9 0#32++DT bH++List.replicate 37 0#32:=by
 rw[KC,P1 (by rw[v7,v8];decide) fun k _ _=>P3 k,v7,P2]
 rfl
theorem P5(bH:List (BitVec 8))(k:Nat)(h:k<9):(KC bH).w.getD k 0#32=0#32:=by
 rw[P4,List.getD_eq_getElem?_getD,List.append_assoc,List.getElem?_append_left (by simpa using h),List.getElem?_replicate,if_pos h]
 rfl
theorem GR(bH:List (BitVec 8))(n:Nat):(P0 bH n).ws.length=64:=(No (by rw[iz,v9];decide) fun k _ h=>P5 bH k (by rw[iz]at h;omega)).trans (v9 bH)
theorem KD(bH:List (BitVec 8))(n:Nat):(P0 bH n).w=0#32::(p9 n++(DT bH++List.replicate 37 0#32)):=by
 rw[P0,P1 (by rw[iz,v9];decide) fun k _ h=>P5 bH k (by rw[iz]at h;omega),iz,P4]
 have e:(List.replicate 9 0#32++DT bH++List.replicate 37 0#32).drop (1+8)=DT bH++List.replicate 37 0#32:=by
  rw[List.append_assoc];exact List.drop_left' (by simp)
 rw[e,List.append_assoc,List.append_assoc]
 rfl
theorem P6(bH:List (BitVec 8))(n m:Nat):(GQ bH n m).w=255#32<<<(8*m)::(p9 n++(DT bH++List.replicate 37 0#32)):=by
 rw[GQ,P1 (by rw[GR];exact Nat.le_of_ble_eq_true rfl) fun k _ h=>by
  have:k=0:=by simpa using h
  subst this
  rw[KD];rfl,KD]
 rfl
theorem IW(bH:List (BitVec 8))(n m:Nat)(h:m<4):dH (GQ bH n m)=m+1:=by
 unfold dH
 rw[P6]
 exact lifeW m h
theorem Np(bH:List (BitVec 8))(n m:Nat)(h:n<256):iS (GQ bH n m)=n:=by
 unfold iS
 rw[P6]
 have e:((255#32<<<(8*m)::(p9 n++(DT bH++List.replicate 37 0#32))).drop 1).take 8=p9 n:=List.take_left' (iz n)
 rw[e,ZD n h]
 omega
theorem Nq(bH:List (BitVec 8))(n m:Nat)(h:bH.length=56):jE (GQ bH n m)=bH:=by
 unfold jE
 rw[P6]
 have e:((255#32<<<(8*m)::(p9 n++(DT bH++List.replicate 37 0#32))).drop 9).take 14=words 14 bH:=by
  rw[show(9:Nat)=8+1 from rfl,List.drop_succ_cons,List.drop_left' (iz n),DT,List.append_assoc]
  exact List.take_left' (eX 14 bH)
 rw[e,PZ 14 bH (by omega)]
end iC
end Go.Am

import Derived.Test.YtgcejocgnfkciaaGreatDoorKc18
namespace Go.Am
set_option linter.unusedSimpArgs false
set_option linter.unusedVariables false
attribute [local congr] cd bt cg bu bw bO bg bx bz bP a7 bQ bA b9
namespace iC
open Go.Am.F
set_option maxRecDepth 10000
def BM(t:Nat)(s:Site)(c msg:List (BitVec 8)):List Nat:=fz t (jJ s.id s.q c msg)
theorem J8(t:Nat)(s:Site)(c msg:List (BitVec 8)):(BM t s c msg).length=pT t:=by simp[BM,fz,vQ]
theorem J9{t:Nat}(h:sH t=true)(d:List (BitVec 8))(i:Nat):(fz t d).getD i 0≤2^wT t-1:=by
 by_cases c:i<(fz t d).length
 ·have hc:=c
  simp only[fz,vQ,List.length_map,List.length_range]at hc
  simp only[fz,vQ,List.getD,List.getElem?_map,List.getElem?_range hc,Option.map_some,Option.getD_some]
  exact MB _ _ _ (j8 h).1
 ·rw[List.getD,List.getElem?_eq_none (by omega)];exact Nat.zero_le _
def js(t:Nat)(s:Site)(aL c msg:List (BitVec 8))(n:Nat):List (List (BitVec 8)):=(List.range n).map fun i=>Hn s.id s.q i ((BM t s c msg).getD i 0) 0 (DH s.id s.q i aL)
theorem BN(t:Nat)(s:Site)(aL c msg:List (BitVec 8))(n:Nat):∀x∈js t s aL c msg n,x.length=32:=by
 intro x hx
 obtain⟨i,-,rfl⟩:=List.mem_map.1 hx
 exact wD _ _ _ _ _ _ (oH _ _ _ _ _)
def lq(t:BitVec 32)(s:Site)(aL c msg:List (BitVec 8)):List (BitVec 8):=bC t++c++(js t.toNat s aL c msg (pT t.toNat)).flatten
theorem sj(t:BitVec 32)(s:Site)(aL c msg:List (BitVec 8))(hc:c.length=32):(lq t s aL c msg).length=36+32*pT t.toNat:=by
 rw[lq,List.length_append,List.length_append,r8 (BN _ _ _ _ _ _),hc,js,List.length_map,List.length_range];rfl
noncomputable def QX:Fn:=gn5 qN (b8 fb) (b8 aW) (b8 aW) dN (fun _ s x c _=>decide (s.id.length=16)&&decide (x.length=32)&&decide (c.length=32)) fun t s x c m=>bif sH t.toNat then(.cA [.sl L8 0 [] 0 (36+32*pT t.toNat) false,.raw (it 0)],[some ⟨L8,bs (lq t s x c m)⟩])else(.cA [.raw (.slice none 0 0),.raw (it 6)],[])
theorem sign_ok(C:be)(hC:aI C P)(h1:C.fn 37=some l6)(h2:C.fn 167=some xP)(h3:C.fn 100=some Ap)(h4:C.fn 98=some BL)(h5:C.fn 111=some Iv)(h6:C.fn 110=some wE):aO C.aZ P 112 (Fn.run QX):=by
 refine aH (OI C hC) fun ds rows r h=>?_
 obtain⟨d0,d1,d2,d3,d4,t,s,aL,c,msg,rfl,rfl,g0,g1,g2,g3,g4,hp,rfl⟩:=Mu h
 cases dL g0
 cases aF g1
 cases aF g2
 cases aF g3
 have gm:=eU g4
 simp only[Bool.and_eq_true,decide_eq_true_eq]at hp
 obtain⟨⟨gV,qX⟩,ja⟩:=hp
 clear h g0 g1 g2 g3 g4
 have hz:D.agg pD [.raw (it 0),.raw (it 0),.raw (it 0)]=iR ⟨0,0,0⟩:=rfl
 have kP:=fun rows k=>mY rows k t
 cases hk:sH t.toNat
 ·rw[hk]at kP
  refine⟨rfl,ag rfl ?_⟩
  unfold yn yo
  simp only[hz,dW]
  simp only[↓aj,ak,simprocAttr,aa,aX,aW,h1,kP,cQ,dw,Bool.not_false,cond_false]
  exact .val _ rfl
 ·have hpt:pT t.toNat≤265:=(j8 hk).2.2.1
  have hpw:2^wT t.toNat≤256:=O9 (j8 hk).1
  have hsg:lq t s aL c msg=bC t++c++(js t.toNat s aL c msg (pT t.toNat)).flatten:=rfl
  have yT:=J9 hk (jJ s.id s.q c msg)
  have qY:=J8 t.toNat s c msg
  have hml:(jJ s.id s.q c msg).length=32:=dh _
  have kD:=fun rows k=>J3 rows k t (jJ s.id s.q c msg) hml hk
  have Lb:∀i,(js t.toNat s aL c msg i).flatten++Hn s.id s.q i ((BM t.toNat s c msg).getD i 0-0) 0 (DH s.id s.q i aL)=(js t.toNat s aL c msg (i+1)).flatten:=fun i=>by simp[js,List.range_succ]
  have lz:∀i,(bC t++c++(js t.toNat s aL c msg i).flatten).length=36+32*i:=fun i=>by
   rw[List.length_append,List.length_append,r8 (BN _ _ _ _ _ _),ja,js,List.length_map,List.length_range];rfl
  rw[hk]at kP
  refine⟨rfl,ag rfl ?_⟩
  unfold yn yo
  simp only[hz,dW]
  simp only[↓aj,ak,simprocAttr,aa,aX,aW,h1,kP,cQ,dw,h2,Mw,Bool.not_true,cond_true]
  rw[oG (n:=32) rfl rfl ja]
  have tk:List.take 4 (bs (bC t))=bs (bC t):=rfl
  refine⟨by rw[aC];exact ja,rfl,by rw[aC];omega,by rw[aC];omega,?_⟩
  rw[tk,nU,aC,ja]
  simp only[↓aj,ak,simprocAttr,aa,aX,h5]
  refine Eq.mpr (XB _ _ s c msg d4 (gm.to) gV ja) ?_
  simp only[↓aj,ak,simprocAttr,aa,aX,h6,kD]
  have hf0:bC t++c++(js t.toNat s aL c msg 0).flatten=bC t++c:=by simp[js]
  refine bB (pT t.toNat) (fun i env rows=>has env [(36,.raw (it (i:Int))),(35,.raw (it (pT t.toNat:Int))),(34,.sl LI 6 [] 0 (pT t.toNat) false),(7,.ptr (.ar 32 L8) 1 [0]),(6,.ptr vP 0 [0])]∧
   live rows 0=some ⟨vP,[fb s]⟩∧live rows 1=some ⟨.ar 32 L8,[.agg (.ar 32 L8) (bs aL)]⟩∧live rows 6=some ⟨LI,(fz t.toNat (jJ s.id s.q c msg)).map vR⟩∧
   ∃d',look env 14=some d'∧iK L8 d' rows (bs (bC t++c++(js t.toNat s aL c msg i).flatten))) ?_ ?_ ⟨?_,rfl,rfl,rfl,.sl L8 5 [] 0 36 false,?_,.inr ⟨5,false,by rw[aC,lz 0],by rw[hf0];rfl⟩⟩
  ·rintro i hi env rows ⟨hh,r0,r1,r6,d',h14,hO⟩ R hR
   simp only[has]at hh
   have e0:((i:Int)<(pT t.toNat:Int))=True:=eq_true (by omega)
   have e1:=cE i (by omega)
   have b0:∀n:Nat,((0:Int)≤(n:Int))=True:=fun n=>eq_true (by omega)
   have hai:=yT i
   have gi:((fz t.toNat (jJ s.id s.q c msg)).map vR)[i]?=some (.raw (it ((BM t.toNat s c msg).getD i 0:Int))):=by
    have hl:i<(fz t.toNat (jJ s.id s.q c msg)).length:=by rw[show(fz t.toNat (jJ s.id s.q c msg)).length=pT t.toNat from qY];exact hi
    simp[vR,BM,List.getD,hl]
   have hai:(BM t.toNat s c msg).getD i 0≤255:=by have:(BM t.toNat s c msg).getD i 0≤2^wT t.toNat-1:=hai;omega
   have hs:=Lb i
   generalize (BM t.toNat s c msg).getD i 0=ai at*
   have kS:=fun rows k=>QK rows k s i aL gV (by omega) qX
   have kC:=fun rows k=>O8 rows k s i 0 ai (DH s.id s.q i aL) gV (by omega) (by decide) (by omega) (oH _ _ _ _ _)
   have hx:=wD s.id s.q i (ai-0) 0 (DH s.id s.q i aL) (oH _ _ _ _ _)
   rw[show((0:Nat):Int)=0 from rfl]at kC
   generalize Hn s.id s.q i (ai-0) 0 (DH s.id s.q i aL)=xi at*
   have ea:∀ex,elems (rows++[some ⟨.ar 32 L8,[.agg (.ar 32 L8) (bs xi)]⟩]) (.sl L8 rows.length [0] 0 32 ex)=some (bs xi):=fun ex=>oG (n:=32) (by rw[b6];rfl) rfl hx
   simp only[↓aj,ak,simprocAttr,aa,aX,hh,e0,e1,b0,h14,dw,r0,r1,r6,gi,h3,kS,h4,kC,ea,aC,hx]
   refine iX hO.push (by rw[aC,aC,hx,lz];simp[most];omega) (by rw[aC,aC,hx,lz];simp[most];omega) fun d2 ab F4 oD vS _=>?_
   rw[nU,List.append_assoc _ _ xi,hs]at F4
   have r0':=oD 0 _ (aA r0 _) (fun ex=>ia hO r0 (by decide) ex _)
   have r1':=oD 1 _ (aA r1 _) (fun ex=>ia hO r1 (by decide) ex _)
   have r6':=oD 6 _ (aA r6 _) (fun ex=>ia hO r6 (by decide) ex _)
   simp only[↓aj,ak,simprocAttr,aa,aX,hh,e1]
   exact hR _ _ ⟨by simp only[has,↓aj,ak,simprocAttr,aa,hh],r0',r1',r6',d2,by simp only[↓aj,ak,simprocAttr,aa],F4⟩
  ·rintro env rows ⟨hh,r0,r1,r6,d',h14,hO⟩ R
   simp only[has]at hh
   have e0:((pT t.toNat:Int)<(pT t.toNat:Int))=False:=eq_false (by omega)
   rw[←hsg]at hO
   simp only[↓aj,ak,simprocAttr,aa,aX,hh,e0,h14,hO.mI]
   have hl:=sj t s aL c msg ja
   rcases hO with⟨h,_⟩|⟨r,ex,rfl,hlv⟩
   ·have:=congrArg List.length h;rw[aC,hl]at this;simp at this
   ·rw[aC,hl]
    exact .G9 L8 r 0 _ ex false _ _ hlv rfl rfl (fun h=>by cases h)
  ·simp only[has,↓aj,ak,simprocAttr,aa]
  ·simp only[↓aj,ak,simprocAttr,aa]
theorem kSign(rows:Rows)(k:D→Rows→Prop)(t:BitVec 32)(s:Site)(x c m:List (BitVec 8))(d:D)(hd:bc rows d m)(gV:s.id.length=16)(hx:x.length=32)(hc:c.length=32)(ht:sH t.toNat=true):
  aJ QX rows k [.raw (u32 t),fb s,.agg (.ar 32 L8) (bs x),.agg (.ar 32 L8) (bs c),d]=k (.cA [.sl L8 (0+rows.length) [] 0 (36+32*pT t.toNat) false,.raw (it 0)]) (rows++[some ⟨L8,bs (lq t s x c m)⟩]):=by
 refine(Mv (bT.raw (fK t)) (jC s rows) (iQ x) (iQ c) (.bs hd) (by simp[gV,hx,hc]) (by simp[ht,bZ,fI,aW,Sh.pure,aS]) k).trans ?_
 simp[ht,shift,bh,ae,Sh.pure]
def dj(p:List (BitVec 8)):BitVec 32:=cY p
def gy(p:List (BitVec 8)):Int:=if p.length<4 then 2 else bif !sH (dj p).toNat then 6 else if p.length=36+32*pT (dj p).toNat then 0 else 2
def chunk(p:List (BitVec 8))(i:Nat):List (BitVec 8):=(p.drop (36+32*i)).take 32
def chunks(p:List (BitVec 8))(n:Nat):List (List (BitVec 8)):=(List.range n).map (chunk p)
def lB(p:List (BitVec 8)):List (BitVec 8):=(p.drop 4).take 32
def F8:Fn:=lE dN (fun p=>decide (p.length≤1099511627776)) fun p=>if gy p=0 then(.cA [.raw (u32 (dj p)),aW (lB p),.sl (.ar 32 L8) 0 [] 0 (pT (dj p).toNat) false,.raw (it 0)],[some ⟨.ar 32 L8,(chunks p (pT (dj p).toNat)).map aW⟩])
 else(.cA [.raw (u32 0#32),aW ug,.raw (.slice none 0 0),.raw (it (gy p))],[])
set_option maxHeartbeats 1000000 in
theorem XO(C:be)(hC:aI C P)(h1:C.fn 37=some l6):aO C.aZ P 147 (Fn.run F8):=by
 refine cr (L7 C hC) fun ds rows r h=>?_
 obtain⟨d,p,rfl,rfl,g0,hp,rfl⟩:=a8 h
 obtain⟨ex,hx⟩:=cy g0
 simp only[decide_eq_true_eq]at hp
 refine⟨rfl,_,.cons hx .nil,ag rfl ?_⟩
 clear h g0 hx
 have hz:D.agg pD [.raw (it 0),.raw (it 0),.raw (it 0)]=iR ⟨0,0,0⟩:=rfl
 unfold Cx Cy
 simp only[hz,dW]
 by_cases c4:p.length<4
 ·have c4':((p.length:Int)<4)=True:=eq_true (by omega)
  have he:gy p=2:=by rw[gy,if_pos c4]
  rw[he,if_neg (by decide)]
  simp only[↓aj,ak,simprocAttr,aa,aX,aC,c4',decide_true]
  exact .val _ rfl
 have c4':((p.length:Int)<4)=False:=eq_false (by omega)
 have b0:∀n:Nat,((0:Int)≤(n:Int))=True:=fun n=>eq_true (by omega)
 have b1:((1:Int)<(p.length:Int))=True:=eq_true (by omega)
 have b2:((2:Int)<(p.length:Int))=True:=eq_true (by omega)
 have b3:((3:Int)<(p.length:Int))=True:=eq_true (by omega)
 have b4:((0:Int)<(p.length:Int))=True:=eq_true (by omega)
 have t0:(bs p)[0]?=some (.raw (u8 (p.getD 0 0#8))):=mJ (by omega)
 have t1:(bs p)[1]?=some (.raw (u8 (p.getD 1 0#8))):=mJ (by omega)
 have t2:(bs p)[2]?=some (.raw (u8 (p.getD 2 0#8))):=mJ (by omega)
 have t3:(bs p)[3]?=some (.raw (u8 (p.getD 3 0#8))):=mJ (by omega)
 have hsT:(p.getD 0 0#8).setWidth 32<<<24|||(p.getD 1 0#8).setWidth 32<<<16|||(p.getD 2 0#8).setWidth 32<<<8|||(p.getD 3 0#8).setWidth 32=dj p:=rfl
 have kP:=fun rows k=>mY rows k (dj p)
 cases hk:sH (dj p).toNat
 ·have he:gy p=6:=by rw[gy,if_neg c4,hk];rfl
  rw[he,if_neg (by decide)]
  rw[hk]at kP
  simp only[↓aj,ak,simprocAttr,aa,aX,aC,c4',b0,b1,b2,b3,b4,t0,t1,t2,t3,decide_false,h1,hsT,kP,cQ,Bool.not_false]
  exact .val _ rfl
 have hpt:pT (dj p).toNat≤265:=(j8 hk).2.2.1
 have g1:(iR (uB (dj p).toNat)).get [1]=some (.raw (it (pT (dj p).toNat:Int))):=rfl
 have q1:wz ((pT (dj p).toNat:Int)+1)=((pT (dj p).toNat+1:Nat):Int):=cE _ (by omega)
 have q2:wz (32*((pT (dj p).toNat+1:Nat):Int))=((32*(pT (dj p).toNat+1):Nat):Int):=by rw[bf (by omega)];omega
 have q3:wz (4+((32*(pT (dj p).toNat+1):Nat):Int))=((36+32*pT (dj p).toNat:Nat):Int):=by rw[bf (by omega)];omega
 rw[hk]at kP
 by_cases cl:p.length=36+32*pT (dj p).toNat
 ·have cl':((p.length:Int)=((36+32*pT (dj p).toNat:Nat):Int))=True:=eq_true (by omega)
  have he:gy p=0:=by rw[gy,if_neg c4,hk,if_pos cl];rfl
  rw[if_pos he]
  have g36:((36:Int)≤(p.length:Int))=True:=eq_true (by omega)
  simp only[↓aj,ak,simprocAttr,aa,aX,aC,c4',b0,b1,b2,b3,b4,t0,t1,t2,t3,decide_false,decide_true,h1,hsT,kP,cQ,Bool.not_true,g1,q1,q2,q3,cl',g36,fw,ey]
  have hd0:(p.drop 36).take (p.length-36)=p.drop 36:=List.take_of_length_le (by rw[List.length_drop];omega)
  rw[hd0]
  generalize oM none p.length p.length p.length ex=ex0
  have hp0:1≤pT (dj p).toNat:=by rcases Iu hk with e|e|e|e<;>rw[e]<;>decide
  generalize pT (dj p).toNat=NP at*
  generalize dj p=T at*
  have ja:∀i,i<NP→(chunk p i).length=32:=fun i hi=>by rw[chunk,List.length_take,List.length_drop];omega
  have hds:∀i,(chunks p i).map aW++[.agg (.ar 32 L8) (bs (chunk p i))]=(chunks p (i+1)).map aW:=fun i=>by simp[chunks,List.range_succ,aW]
  have qY:∀i,(chunks p i).length=i:=fun i=>by simp[chunks]
  refine bB NP (fun i env rows=>has env [(6,.raw (u32 T)),(0,.cF L8 (bs p) ex),(3,.ptr (.ar 32 L8) 0 [0])]∧live rows 0=some ⟨.ar 32 L8,[.agg (.ar 32 L8) (bs ug)]⟩∧
   (∃e',look env 10=some (.cF L8 (bs (p.drop (36+32*i))) e'))∧∃d',look env 9=some d'∧iK (.ar 32 L8) d' rows ((chunks p i).map aW)∧(∀r ex n,d'= .sl (.ar 32 L8) r [] 0 n ex→1≤r)) ?_ ?_ ⟨?_,rfl,⟨ex0,?_⟩,.raw (.slice none 0 0),?_,.inl ⟨rfl,rfl⟩,fun r ex n h=>?_⟩
  ·rintro i hi env rows ⟨hh,r0,⟨e',h10⟩,d',h9,hO,hne⟩ R hR
   simp only[has]at hh
   have Ax:(p.drop (36+32*i)).length=32*(NP-i):=by rw[List.length_drop];omega
   have e0:((0:Int)<((32*(NP-i):Nat):Int))=True:=eq_true (by omega)
   have e1:((32:Int)≤((32*(NP-i):Nat):Int))=True:=eq_true (by omega)
   have lt0:=bn r0
   simp only[↓aj,ak,simprocAttr,aa,aX,hh,h10,h9,aC,Ax,e0,e1,fw,ey,decide_true]
   have CY:List.take 32 (List.drop (36+32*i) p)=chunk p i:=rfl
   have hch2:List.take 32 (chunk p i)=chunk p i:=List.take_of_length_le (by rw[ja i hi];exact Nat.le_refl _)
   simp only[CY,hch2]
   refine⟨by rw[ja i hi];exact Nat.le_refl _,Ao hO.push (by rw[List.length_map,qY];simp[most];omega) (by rw[List.length_map,qY];simp[most];omega) fun ab mh oD vS=>?_⟩
   rw[hds,List.length_append]at mh
   have mh:live ab (rows.length+1)=_:=mh
   have r0':=oD 0 _ (aA r0 _) (fun ex n e=>by have:=hne _ _ _ e;omega)
   have Lx:List.take (32*(NP-i)-32) (List.drop 32 (List.drop (36+32*i) p))=p.drop (36+32*(i+1)):=by
    rw[List.drop_drop,show 36+32*i+32=36+32*(i+1) by omega,List.take_of_length_le (by rw[List.length_drop];omega)]
   simp only[↓aj,ak,simprocAttr,aa,aX,hh,h10,aC,Ax,e1,fw,ey,Lx]
   refine hR _ _ ⟨by simp only[has,↓aj,ak,simprocAttr,aa,hh],r0',⟨oM none (32*(NP-i)) (32*(NP-i)) (32*(NP-i)) e',by simp only[↓aj,ak,simprocAttr,aa]⟩,.sl (.ar 32 L8) (rows.length+1) [] 0 ((chunks p i).length+1) false,by simp only[↓aj,ak,simprocAttr,aa,List.length_map],.inr ⟨_,false,by rw[List.length_map,qY,qY],mh⟩,fun r ex n e=>by injection e with _ e;omega⟩
  ·rintro env rows ⟨hh,r0,⟨e',h10⟩,d',h9,hO,hne⟩ R
   simp only[has]at hh
   have Ax:(p.drop (36+32*NP)).length=0:=by rw[List.length_drop];omega
   have g36:((36:Int)≤(p.length:Int))=True:=eq_true (by omega)
   have w0:=fun y=>aG (y:=y) r0
   simp only[↓aj,ak,simprocAttr,aa,aX,hh,h10,h9,aC,Ax,g36,fw,ey,hO.mI,r0]
   have hsc:List.take 32 (List.drop 4 p)=lB p:=rfl
   have jO:(lB p).length=32:=by rw[lB,List.length_take,List.length_drop];omega
   have hsc2:List.take 32 (lB p)=lB p:=List.take_of_length_le (by rw[jO];exact Nat.le_refl _)
   simp only[hsc,hsc2,w0]
   refine⟨by rw[jO];exact Nat.le_refl _,?_⟩
   rcases hO with⟨h,_⟩|⟨r,Pj,rfl,hlv⟩
   ·have:=congrArg List.length h;rw[List.length_map,qY]at this;simp at this;omega
   ·have hr0:=hne r Pj _ rfl
    have hlv2:=cK (y:=⟨.ar 32 L8,[.agg (.ar 32 L8) (bs (lB p))]⟩) hlv (q:=0) (by omega)
    rw[List.length_map,qY]
    exact .ownU [.raw (u32 T),aW (lB p)] (.ar 32 L8) r 0 _ Pj false _ [.raw (it 0)] hlv2 rfl rfl rfl (fun h=>by cases h)
  ·simp only[has,↓aj,ak,simprocAttr,aa]
  ·simp only[↓aj,ak,simprocAttr,aa]
  ·simp only[↓aj,ak,simprocAttr,aa]
  ·cases h
 ·have cl':((p.length:Int)=((36+32*pT (dj p).toNat:Nat):Int))=False:=eq_false (by omega)
  have he:gy p=2:=by rw[gy,if_neg c4,hk,if_neg cl];rfl
  rw[he,if_neg (by decide)]
  simp only[↓aj,ak,simprocAttr,aa,aX,aC,c4',b0,b1,b2,b3,b4,t0,t1,t2,t3,decide_false,h1,hsT,kP,cQ,Bool.not_true,g1,q1,q2,q3,cl']
  exact .val _ rfl
theorem kSplit(rows:Rows)(k:D→Rows→Prop)(d:D)(p:List (BitVec 8))(hd:bc rows d p)(hp:p.length≤1099511627776)(he:gy p=0):
  aJ F8 rows k [d]=k (.cA [.raw (u32 (dj p)),.agg (.ar 32 L8) (bs (lB p)),.sl (.ar 32 L8) (0+rows.length) [] 0 (pT (dj p).toNat) false,.raw (it 0)]) (rows++[some ⟨.ar 32 L8,(chunks p (pT (dj p).toNat)).map aW⟩]):=by
 refine(cC (.bs hd) (by simp[hp]) (by simp[he,bZ,fI,aW,Sh.pure,aS]) k).trans ?_
 simp[he,aW,shift,bh,ae,Sh.pure]
theorem kSplitE(rows:Rows)(k:D→Rows→Prop)(d:D)(p:List (BitVec 8))(hd:bc rows d p)(hp:p.length≤1099511627776)(he:¬gy p=0):
  aJ F8 rows k [d]=k (.cA [.raw (u32 0#32),.agg (.ar 32 L8) (bs ug),.raw (.slice none 0 0),.raw (it (gy p))]) rows:=by
 refine(cC (.bs hd) (by simp[hp]) (by simp[he,bZ,fI,aW,Sh.pure,aS]) k).trans ?_
 simp[he,aW,shift,bh,ae,Sh.pure]
theorem split_0{p:List (BitVec 8)}(h:gy p=0):4≤p.length∧sH (dj p).toNat=true∧p.length=36+32*pT (dj p).toNat:=by
 unfold gy at h
 split at h
 ·cases h
 ·cases hk:sH (dj p).toNat with
  |false=>rw[hk]at h;cases h
  |true=>
   rw[hk]at h
   simp only[Bool.not_true,cond_false]at h
   split at h
   ·exact⟨by omega,rfl,by assumption⟩
   ·cases h
def clE(s:Site)(p msg:List (BitVec 8))(i:Nat):List (BitVec 8):=
 Hn s.id s.q i (2^wT (dj p).toNat-1-(BM (dj p).toNat s (lB p) msg).getD i 0) ((BM (dj p).toNat s (lB p) msg).getD i 0) (chunk p i)
def KN(s:Site)(p msg:List (BitVec 8))(n i:Nat):List (List (BitVec 8)):=(List.range n).map fun j=>if j<i then clE s p msg j else chunk p j
def pF(s:Site)(p msg:List (BitVec 8)):List (BitVec 8):=CW s.id s.q ((List.range (pT (dj p).toNat)).map (clE s p msg))
theorem clL_0(s:Site)(p msg:List (BitVec 8))(n:Nat):KN s p msg n 0=chunks p n:=by simp[KN,chunks]
theorem clL_n(s:Site)(p msg:List (BitVec 8))(n:Nat):KN s p msg n n=(List.range n).map (clE s p msg):=by
 apply List.map_congr_left
 intro j hj
 rw[if_pos (List.mem_range.1 hj)]
theorem clL_set(s:Site)(p msg:List (BitVec 8))(n i:Nat)(h:i<n):(KN s p msg n i).set i (clE s p msg i)=KN s p msg n (i+1):=by
 apply List.ext_getElem (by simp[KN])
 intro j h1 h2
 have hj:j<n:=by simpa[KN]using h2
 rw[List.getElem_set]
 by_cases c:i=j
 ·subst c;simp[KN]
 ·rw[if_neg c]
  simp only[KN,List.getElem_map,List.getElem_range]
  by_cases c2:j<i
  ·rw[if_pos c2,if_pos (by omega)]
  ·rw[if_neg c2,if_neg (by omega)]
theorem clE_len{s:Site}{p msg:List (BitVec 8)}{i:Nat}(h:(chunk p i).length=32):(clE s p msg i).length=32:=wD _ _ _ _ _ _ h
noncomputable def Ka:Fn:=G2 (b8 fb) dN dN (fun s p m=>decide (s.id.length=16)&&decide (p.length≤1099511627776)) fun s p m=>if gy p=0 then(.cA [aW (pF s p m),.raw (it 0)],[])else(.cA [aW ug,.raw (it (gy p))],[])
set_option maxHeartbeats 1000000 in
theorem XP(C:be)(hC:aI C P)(h1:C.fn 37=some l6)(h2:C.fn 99=some TL)(h4:C.fn 98=some BL)(h5:C.fn 111=some Iv)(h6:C.fn 110=some wE)(h7:C.fn 147=some F8)(h8:C.fn 101=some My):aO C.aZ P 90 (Fn.run Ka):=by
 refine aH (L3 C hC) fun ds rows r h=>?_
 obtain⟨d0,d1,d2,s,p,msg,rfl,rfl,g0,g1,g2,hp,rfl⟩:=fq h
 cases aF g0
 have gp:=eU g1
 have gm:=eU g2
 simp only[Bool.and_eq_true,decide_eq_true_eq]at hp
 obtain⟨gV,sO⟩:=hp
 clear h g0 g1 g2
 have hz:D.agg pD [.raw (it 0),.raw (it 0),.raw (it 0)]=iR ⟨0,0,0⟩:=rfl
 refine⟨rfl,ag rfl ?_⟩
 unfold Ct Cu
 simp only[hz,dW]
 by_cases he:gy p=0
 ·rw[if_pos he]
  obtain⟨h4l,hk,hl⟩:=split_0 he
  have kSp:=fun rows k=>kSplit rows k d1 p gp.to sO he
  have hcS:pF s p msg=CW s.id s.q (KN s p msg (pT (dj p).toNat) (pT (dj p).toNat)):=by rw[clL_n,pF]
  have uu:=clL_set s p msg (pT (dj p).toNat)
  have h00:=clL_0 s p msg (pT (dj p).toNat)
  have hcE:∀i,clE s p msg i=Hn s.id s.q i (2^wT (dj p).toNat-1-(BM (dj p).toNat s (lB p) msg).getD i 0) ((BM (dj p).toNat s (lB p) msg).getD i 0) (chunk p i):=fun i=>rfl
  have hpt:pT (dj p).toNat≤265:=(j8 hk).2.2.1
  have hpw:2^wT (dj p).toNat≤256:=O9 (j8 hk).1
  have kP:=fun rows k=>mY rows k (dj p)
  have kE:=fun rows k=>kEnd rows k (uB (dj p).toNat) (j8 hk).1
  have hew:(uB (dj p).toNat).w=wT (dj p).toNat:=rfl
  rw[hk]at kP
  rw[hew]at kE
  have hc32:(lB p).length=32:=by rw[lB,List.length_take,List.length_drop];omega
  have CY:∀i,i<pT (dj p).toNat→(chunk p i).length=32:=fun i hi=>by rw[chunk,List.length_take,List.length_drop];omega
  have kM:=fun rows k=>XB rows k s (lB p) msg d2 (gm.to) gV hc32
  have hml:(jJ s.id s.q (lB p) msg).length=32:=dh _
  have kD:=fun rows k=>J3 rows k (dj p) (jJ s.id s.q (lB p) msg) hml hk
  have qY:=J8 (dj p).toNat s (lB p) msg
  have yT:=J9 hk (jJ s.id s.q (lB p) msg)
  simp only[↓aj,ak,simprocAttr,aa,aX,aW,dw,cQ,h7,kSp,h1,kP,h5,kM,h6,kD]
  rw[←h00]
  have jz:∀i,i<pT (dj p).toNat→((KN s p msg (pT (dj p).toNat) i).map aW)[i]?=some (.agg (.ar 32 L8) (bs (chunk p i))):=fun i hi=>by
   simp[KN,aW,hi]
  have HE:∀i,(KN s p msg (pT (dj p).toNat) i).length=pT (dj p).toNat:=fun i=>by simp[KN]
  have hsm:∀i,i<pT (dj p).toNat→((KN s p msg (pT (dj p).toNat) i).map aW).set i (.agg (.ar 32 L8) (bs (clE s p msg i)))=(KN s p msg (pT (dj p).toNat) (i+1)).map aW:=fun i hi=>by
   rw[←uu i hi,List.map_set];rfl
  have p8:∀x∈KN s p msg (pT (dj p).toNat) (pT (dj p).toNat),x.length=32:=by
   intro x hx
   rw[clL_n]at hx
   obtain⟨i,hi,rfl⟩:=List.mem_map.1 hx
   exact clE_len (CY i (List.mem_range.1 hi))
  have g0':∀i,i<pT (dj p).toNat→((fz (dj p).toNat (jJ s.id s.q (lB p) msg)).map vR)[i]?=some (.raw (it ((BM (dj p).toNat s (lB p) msg).getD i 0:Int))):=fun i hi=>by
   have hl:i<(fz (dj p).toNat (jJ s.id s.q (lB p) msg)).length:=by rw[show(fz (dj p).toNat (jJ s.id s.q (lB p) msg)).length=pT (dj p).toNat from qY];exact hi
   simp[vR,BM,List.getD,hl]
  have b0:∀n:Nat,((0:Int)≤(n:Int))=True:=fun n=>eq_true (by omega)
  have hdg':∀i,(BM (dj p).toNat s (lB p) msg).getD i 0≤2^wT (dj p).toNat-1:=yT
  generalize fz (dj p).toNat (jJ s.id s.q (lB p) msg)=DG at*
  generalize pT (dj p).toNat=n at*
  refine bB n (fun i env rows=>has env [(39,.raw (it (i:Int))),(38,.raw (it (n:Int))),(37,.sl LI 5 [] 0 n false),(12,.ptr pD 4 [0]),(10,.sl (.ar 32 L8) 2 [] 0 n false),(6,.ptr (.ar 32 L8) 1 [0]),(3,.ptr vP 0 [0])]∧
   rows=[some ⟨vP,[fb s]⟩,some ⟨.ar 32 L8,[.agg (.ar 32 L8) (bs ug)]⟩,some ⟨.ar 32 L8,(KN s p msg n i).map aW⟩,some ⟨.ar 32 L8,[.agg (.ar 32 L8) (bs (lB p))]⟩,some ⟨pD,[iR (uB (dj p).toNat)]⟩,some ⟨LI,DG.map vR⟩]) ?_ ?_ ⟨?_,rfl⟩
  ·rintro i hi env rows ⟨hh,rfl⟩ R hR
   simp only[has]at hh
   have e0:((i:Int)<(n:Int))=True:=eq_true (by omega)
   have e1:=cE i (by omega)
   have hx:=CY i hi
   have kC:=fun rows k=>O8 rows k s i ((BM (dj p).toNat s (lB p) msg).getD i 0) (2^wT (dj p).toNat-1) (chunk p i) gV (by omega) (by have:=hdg' i;omega) (by omega) hx
   rw[←hcE i]at kC
   have gi:=g0' i hi
   have gl:=jz i hi
   have gs:=hsm i hi
   simp only[↓aj,ak,simprocAttr,aa,aX,hh,e0,e1,b0,dw,cQ,gi,h2,kE,gl,h4,kC,gs]
   exact hR _ _ ⟨by simp only[has,↓aj,ak,simprocAttr,aa,hh],rfl⟩
  ·rintro env rows ⟨hh,rfl⟩ R
   simp only[has]at hh
   have e0:((n:Int)<(n:Int))=False:=eq_false (by omega)
   simp only[↓aj,ak,simprocAttr,aa,aX,hh,e0,dw,h8]
   refine Eq.mpr (kFold _ _ s _ _ (bT.dl rfl (HE n)) gV p8 (by rw[HE];omega)) ?_
   rw[←hcS]
   simp only[↓aj,ak,simprocAttr,aa,aX,hh]
   exact .val _ rfl
  ·simp only[has,↓aj,ak,simprocAttr,aa]
 ·rw[if_neg he]
  have kSp:=fun rows k=>kSplitE rows k d1 p gp.to sO he
  have he':(gy p=0)=False:=eq_false he
  simp only[↓aj,ak,simprocAttr,aa,aX,aW,dw,h7,kSp,he',decide_false,Bool.not_false]
  exact .val _ rfl
theorem kClaim(rows:Rows)(k:D→Rows→Prop)(s:Site)(d e:D)(p m:List (BitVec 8))(hd:bc rows d p)(hm:bc rows e m)(gV:s.id.length=16)(hp:p.length≤1099511627776)(he:gy p=0):
  aJ Ka rows k [fb s,d,e]=k (.cA [.agg (.ar 32 L8) (bs (pF s p m)),.raw (it 0)]) rows:=by
 refine(fT (jC s rows) (.bs hd) (.bs hm) (by simp[gV,hp]) (by simp[he,bZ,fI,aW,Sh.pure,aS]) k).trans ?_
 simp[he,aW,shift,bh,ae,Sh.pure]
theorem F9(t:BitVec 32):cY (bC t)=t:=by
 apply BitVec.eq_of_toNat_eq
 have h:=TF ((t>>>24).setWidth 8) ((t>>>16).setWidth 8) ((t>>>8).setWidth 8) (t.setWidth 8)
 rw[show cY (bC t)=cY [(t>>>24).setWidth 8,(t>>>16).setWidth 8,(t>>>8).setWidth 8,t.setWidth 8]from rfl,←h]
 exact O3 t
theorem Ga{l:List (List (BitVec 8))}(h:∀x∈l,x.length=32):∀i (hi:i<l.length),(l.flatten.drop (32*i)).take 32=l[i]:=by
 induction l with
 |nil=>intro i hi;simp at hi
 | cons x l ih =>
  intro i hi
  have hx:=h x (by simp)
  cases i with
  |zero=>rw[Nat.mul_zero,List.drop_zero,List.flatten_cons,←hx,List.take_left];rfl
  |succ i=>
   rw[List.flatten_cons,show 32*(i+1)=x.length+32*i by omega,List.drop_length_add_append]
   exact ih (fun y hy=>h y (by simp[hy])) i (by simpa using hi)
section
variable (t:BitVec 32) (s:Site) (aL c m:List (BitVec 8))
theorem sig_T:dj (lq t s aL c m)=t:=by
 rw[dj,←oF _ 4 (by decide),lq,List.append_assoc]
 show cY (bC t)=t
 exact F9 t
variable (hc:c.length=32)
include hc
theorem sig_C:lB (lq t s aL c m)=c:=by
 rw[lB,lq,List.append_assoc]
 show(c++(js t.toNat s aL c m (pT t.toNat)).flatten).take 32=c
 have h:=List.take_left (l₁:=c) (l₂:=(js t.toNat s aL c m (pT t.toNat)).flatten)
 rw[hc]at h
 exact h
theorem TX(i:Nat)(hi:i<pT t.toNat):chunk (lq t s aL c m) i=Hn s.id s.q i ((BM t.toNat s c m).getD i 0) 0 (DH s.id s.q i aL):=by
 have h36:(bC t++c).length=36:=by rw[List.length_append,hc];rfl
 have sO:(js t.toNat s aL c m (pT t.toNat)).length=pT t.toNat:=by simp[js]
 rw[chunk,lq,show 36+32*i=(bC t++c).length+32*i by omega,List.drop_length_add_append,Ga (BN _ _ _ _ _ _) i (by omega)]
 simp[js]
theorem Pk(ht:sH t.toNat=true):pF s (lq t s aL c m) m=DI t.toNat s aL:=by
 have hT:=sig_T t s aL c m
 have hC:=sig_C t s aL c m hc
 rw[pF,hT,DI,vN]
 congr 1
 apply List.map_congr_left
 intro i hi
 have hi:=List.mem_range.1 hi
 have hle:(BM t.toNat s c m).getD i 0≤2^wT t.toNat-1:=J9 ht _ i
 rw[clE,hT,hC,TX t s aL c m hc i hi]
 generalize (BM t.toNat s c m).getD i 0=a at*
 have:=J0 s.id s.q i (2^wT t.toNat-1-a) a 0 (DH s.id s.q i aL)
 rw[Nat.zero_add]at this
 rw[←this]
 congr 1
 omega
end
abbrev Hq:Sh:= .cons dk (.cons dk (.cons (.ar 16 L8) (.cons (.ar 32 L8) .nil)))
noncomputable def Gb:Fn:=lE dN (fun a=>Nat.ble 4 a.length) fun a=>(.raw (u32 (cY a)),[])
theorem lnum_ok(C:be)(hC:aI C P):aO C.aZ P 146 (Fn.run Gb):=by
 refine aH (Tn C hC) fun ds rows r h=>?_
 obtain⟨d,a,rfl,rfl,hd,hp,rfl⟩:=a8 h
 have ha:=eU hd
 simp only[Nat.ble_eq]at hp
 refine⟨rfl,ag rfl ?_⟩
 unfold H8 H9
 have e0:∀(k:D→Rows→Prop) rows,nQ (.leaf (.int .u8)) 0 rows k d=k (.b5 (.raw (u8 (a.getD 0 0#8)))) rows:=fun k rows=>by have:=gh (k:=k) (rows:=rows) (n:=0) ha (by omega);simpa using this
 have e1:∀(k:D→Rows→Prop) rows,nQ (.leaf (.int .u8)) 1 rows k d=k (.b5 (.raw (u8 (a.getD 1 0#8)))) rows:=fun k rows=>by have:=gh (k:=k) (rows:=rows) (n:=1) ha (by omega);simpa using this
 have e2:∀(k:D→Rows→Prop) rows,nQ (.leaf (.int .u8)) 2 rows k d=k (.b5 (.raw (u8 (a.getD 2 0#8)))) rows:=fun k rows=>by have:=gh (k:=k) (rows:=rows) (n:=2) ha (by omega);simpa using this
 have e3:∀(k:D→Rows→Prop) rows,nQ (.leaf (.int .u8)) 3 rows k d=k (.b5 (.raw (u8 (a.getD 3 0#8)))) rows:=fun k rows=>by have:=gh (k:=k) (rows:=rows) (n:=3) ha (by omega);simpa using this
 simp only[↓aj,ak,simprocAttr,aa,e0,e1,e2,e3]
 exact .val _ rfl
theorem kLNum(rows:Rows)(k:D→Rows→Prop)(d:D)(p:List (BitVec 8))(h:bc rows d p)(hp:4≤p.length):aJ Gb rows k [d]=k (.raw (u32 (cY p))) rows:=by
 refine(cC (bT.bs h) (by simpa using hp) rfl k).trans ?_
 simp[shift,ae]
def hT(t:Nat):Nat:=if 5≤t∧t≤9 then 5*(t-4)else if 3758096384<t∧t≤3758096388 then t-3758096384 else 0
def G4(t:Nat):Bool:=decide (5≤t∧t≤9∨3758096384<t∧t≤3758096388)
theorem hT_le(t:Nat):hT t≤25:=by
 unfold hT;split
 ·omega
 ·split<;>omega
theorem TY{t:BitVec 32}(h:G4 t.toNat=true):t=5#32∨t=6#32∨t=7#32∨t=8#32∨t=9#32∨t=3758096385#32∨t=3758096386#32∨t=3758096387#32∨t=3758096388#32:=by
 simp only[G4,decide_eq_true_eq]at h
 have:t.toNat=5∨t.toNat=6∨t.toNat=7∨t.toNat=8∨t.toNat=9∨t.toNat=3758096385∨t.toNat=3758096386∨t.toNat=3758096387∨t.toNat=3758096388:=by omega
 have g:∀n,n<4294967296→t.toNat=n→t=BitVec.ofNat 32 n:=fun n hn e=>BitVec.eq_of_toNat_eq (by rw[e,BitVec.toNat_ofNat,Nat.mod_eq_of_lt hn])
 rcases this with h|h|h|h|h|h|h|h|h<;>have:=g _ (by decide) h<;>simp[this]
def wF:Fn:=lE qN (fun _=>true) fun t=>(.cA [.raw (it (hT t.toNat:Int)),.raw (.bool (G4 t.toNat))],[])
theorem TZ(C:be)(hC:aI C P):aO C.aZ P 36 (Fn.run wF):=by
 refine aH (Jv C hC) fun ds rows r h=>?_
 obtain⟨d,t,rfl,rfl,hd,hp,rfl⟩:=a8 h
 cases dL hd
 refine⟨rfl,ag rfl ?_⟩
 clear h hd
 unfold zu zv
 cases hk:G4 t.toNat
 ·have hz:hT t.toNat=0:=by
   simp only[G4,decide_eq_false_iff_not]at hk
   unfold hT;split
   ·omega
   ·split<;>omega
  rw[hz]
  simp only[G4,decide_eq_false_iff_not]at hk
  have a1:(5#32≤t)=(5≤t.toNat):=propext BitVec.le_def
  have a2:(t≤9#32)=(t.toNat≤9):=propext BitVec.le_def
  have a3:(3758096384#32<t)=(3758096384<t.toNat):=propext BitVec.lt_def
  have a4:(t≤3758096388#32)=(t.toNat≤3758096388):=propext BitVec.le_def
  by_cases c1:5≤t.toNat<;>by_cases c2:t.toNat≤9<;>by_cases c3:3758096384<t.toNat<;>by_cases c4:t.toNat≤3758096388<;>
   first
   |omega
   |(simp only[↓aj,ak,simprocAttr,aa,a1,a2,a3,a4,c1,c2,c3,c4,decide_true,decide_false];exact .val _ rfl)
 ·rcases TY hk with rfl|rfl|rfl|rfl|rfl|rfl|rfl|rfl|rfl<;>
  ·simp only[↓aj,ak,simprocAttr,aa,BitVec.reduceLT,BitVec.reduceLE,BitVec.reduceSub,BitVec.reduceToNat,decide_true,decide_false]
   exact .val _ rfl
theorem Eb(rows:Rows)(k:D→Rows→Prop)(t:BitVec 32):aJ wF rows k [.raw (u32 t)]=k (.cA [.raw (it (hT t.toNat:Int)),.raw (.bool (G4 t.toNat))]) rows:=by
 refine(cC (bT.raw (fK t)) rfl rfl k).trans ?_
 simp[shift,bh,ae]
structure Key where
 t:BitVec 32
 o:BitVec 32
 id:List (BitVec 8)
 root:List (BitVec 8)
def BO(k:Key):D:= .agg Hq [.raw (u32 k.t),.raw (u32 k.o),.agg (.ar 16 L8) (bs k.id),.agg (.ar 32 L8) (bs k.root)]
def T3:Key:=⟨0#32,0#32,List.replicate 16 0#8,List.replicate 32 0#8⟩
def keyOf(p:List (BitVec 8)):Key:=⟨cY p,cY (p.drop 4),(p.drop 8).take 16,p.drop 24⟩
def eu(p:List (BitVec 8)):Key×Int:=
 bif decide (p.length=56)then
  (bif G4 (cY p).toNat&&sH (cY (p.drop 4)).toNat then(keyOf p,0)else(T3,6))
 else(T3,2)
noncomputable def Gc:Fn:=lE dN (fun a=>Nat.ble a.length most) fun p=>(.cA [BO (eu p).1,.raw (it (eu p).2)],[])
theorem Gd(rows:Rows)(k:D→Rows→Prop)(x:List (BitVec 8))(e:Bool)(h:4≤x.length):aJ Gb rows k [.cF L8 (bs x) e]=k (.raw (u32 (cY x))) rows:=by
 refine(bi rfl (ei (zp x e) (by simpa using h))).trans ?_
 simp[shift,ae]
set_option maxHeartbeats 2000000 in
theorem XQ(C:be)(hC:aI C P)(h1:C.fn 146=some Gb)(h2:C.fn 36=some wF)(h3:C.fn 37=some l6):aO C.aZ P 143 (Fn.run Gc):=by
 refine cr (OM C hC) fun ds rows r h=>?_
 obtain⟨d,p,rfl,rfl,hd,hp,rfl⟩:=a8 h
 obtain⟨x,hx⟩:=cy hd
 refine⟨rfl,_,.cons hx .nil,ag rfl ?_⟩
 simp only[Nat.ble_eq]at hp
 unfold most at hp
 clear h hx hd
 unfold FF FG
 have hz:D.fits (.agg Hq [.raw (u32 0#32),.raw (u32 0#32),.agg (.ar 16 L8) (List.replicate 16 (.raw (u8 0#8))),.agg (.ar 32 L8) (List.replicate 32 (.raw (u8 0#8)))]) Hq=true:=rfl
 by_cases hl:p.length=56
 ·have d0:4≤p.length:=by omega
  have d4:4≤(p.drop 4).length:=by rw[List.length_drop];omega
  have tk4:(bs (p.drop 4)).take 52=bs (p.drop 4):=List.take_of_length_le (by rw[aC,List.length_drop];omega)
  have tk8:(bs (p.drop 8)).take 16=bs ((p.drop 8).take 16):=ey _ _
  have tkk:(bs ((p.drop 8).take 16)).take 16=bs ((p.drop 8).take 16):=List.take_of_length_le (by rw[aC,List.length_take];omega)
  have tk24:(bs (p.drop 24)).take 32=bs (p.drop 24):=List.take_of_length_le (by rw[aC,List.length_drop];omega)
  simp only[↓aj,ak,simprocAttr,aa,aC,hl,h1,Gd _ _ _ _ d0,Gd _ _ _ _ d4,fw,tk4,tk8,tkk,tk24,List.length_drop,hz]
  have l16:(List.take 16 (List.drop 8 p)).length=16:=by rw[List.length_take,List.length_drop];omega
  have l32:(List.drop 24 p).length=32:=by rw[List.length_drop];omega
  refine⟨by omega,?_⟩
  simp only[↓aj,ak,simprocAttr,aa,aX,l16,l32,h2,h3,Eb,mY,hz,iR,tkk,tk24]
  have hq:eu p=if G4 (cY p).toNat&&sH (cY (p.drop 4)).toNat then(keyOf p,0)else(T3,6):=by
   simp only[eu,hl,decide_true,cond_true]
   cases G4 (cY p).toNat&&sH (cY (p.drop 4)).toNat<;>rfl
  rw[hq]
  cases g1:G4 (cY p).toNat<;>cases g2:sH (cY (p.drop 4)).toNat<;>
  ·simp only[↓aj,ak,simprocAttr,aa,Bool.not_true,Bool.not_false,Bool.and_self,Bool.and_false,Bool.false_and,if_true,Bool.false_eq_true,if_false,D.fits]
   try exact .val _ rfl
 ·have wx:((p.length:Int)=56)=False:=eq_false (by omega)
  have hq:eu p=(T3,2):=by simp[eu,hl]
  rw[hq]
  simp only[↓aj,ak,simprocAttr,aa,aC,wx]
  exact .val _ rfl
theorem XR(C:be)(hC:aI C P):aO C.aZ P 50 (Fn.run xP):=by
 refine aH (OB C hC) fun ds rows r h=>?_
 obtain⟨d,n,rfl,rfl,hd,hp,rfl⟩:=a8 h
 cases dL hd
 refine⟨rfl,ag rfl ?_⟩
 clear h hd
 unfold Fi Fj
 simp only[↓aj,ak,simprocAttr,aa]
 exact .own _ 0 0 4 true false _ rfl rfl (fun h=>by cases h)
def IA(id:List (BitVec 8))(r:BitVec 32)(kd:Nat)(l:List (List (BitVec 8))):List (BitVec 8):=dU (id++bC r++uG kd++l.flatten)
def sn(id:List (BitVec 8))(r:BitVec 32)(a b:List (BitVec 8)):List (BitVec 8):=IA id r 33667 [a,b]
def nD(id:List (BitVec 8))(r:BitVec 32)(k:List (BitVec 8)):List (BitVec 8):=IA id r 33410 [k]
theorem IB(id:List (BitVec 8))(r:BitVec 32)(a b:List (BitVec 8)):(sn id r a b).length=32:=dh _
theorem BP(id:List (BitVec 8))(r:BitVec 32)(a:List (BitVec 8)):(nD id r a).length=32:=dh _
noncomputable def MG:Fn:=Xu (b8 xN) qN rC (oo (.ar 32 L8) aW) (fun id _ n l=>decide (id.length=16)&&TI n 65536&&It l&&decide (l.length≤1000000)) fun id r n l=>(aW (IA id r n.toNat l),[])
theorem hash_ok(C:be)(hC:aI C P)(h1:C.fn 157=some Mr)(h2:C.fn 50=some xP)(h3:C.fn 158=some qB)(h4:C.fn 159=some tw):aO C.aZ P 102 (Fn.run MG):=by
 refine cr (OF C hC) fun ds rows r h=>?_
 obtain⟨d0,d1,d2,d3,id,r,n,l,rfl,rfl,g0,g1,g2,g3,hp,rfl⟩:=sc h
 cases aF g0
 cases dL g1
 cases bX g2
 obtain⟨ex,hx⟩:=wB g3
 simp only[Bool.and_eq_true,decide_eq_true_eq,sa,J2]at hp
 obtain⟨⟨⟨gV,hn⟩,p8⟩,HE⟩:=hp
 refine⟨rfl,_,.cons (.refl _) (.cons (.refl _) (.cons (.refl _) (.cons hx .nil))),ag rfl ?_⟩
 clear h g0 g1 g2 g3 hx
 obtain⟨m,rfl⟩:=Int.eq_ofNat_of_zero_le hn.1
 have hm:m<65536:=by omega
 unfold Fu Fv
 have e8:∀k,bE .shr (it (m:Int)) (u64 8#64) k=k (.raw (it ((m/256:Nat):Int))):=fun k=>Xy m 8 .u64 (by decide) k
 have e1:BitVec.ofInt 8 ((m/256:Nat):Int)=BitVec.ofNat 8 (m/256):=BitVec.ofInt_natCast _ _
 have e2:BitVec.ofInt 8 (m:Int)=BitVec.ofNat 8 m:=BitVec.ofInt_natCast _ _
 have id_fits:(xN id).fits (.ar 16 L8)=true:=rfl
 simp only[dW,O6]
 simp only[↓aj,ak,simprocAttr,aa,aX,xN,l5,h1,O1,h3]
 refine Eq.mpr (jI _ _ _ _ id (bc.r9 (n:=16) rfl rfl gV) mO) ?_
 have o0:=eD id Iq mO
 simp only[↓aj,ak,simprocAttr,aa,aX,h2,Mw,h3]
 refine Eq.mpr (jI _ _ _ _ (bC r) (bc.own rfl _ rfl) o0) ?_
 have o1:=eD (bC r) _ o0
 simp only[↓aj,ak,simprocAttr,aa,aX,e8,e1,e2,h3]
 refine Eq.mpr (jI _ _ _ _ (uG m) (bc.own rfl _ rfl) o1) ?_
 have o2:=eD (uG m) _ o1
 simp only[↓aj,ak,simprocAttr,aa,aX,l5,List.length_map]
 have hok:∀i,(feed (feed (feed (feed Iq id) (bC r)) (uG m)) (l.take i).flatten).ok=true:=fun i=>eD _ _ o2
 have e:oq (feed (feed (feed (feed Iq id) (bC r)) (uG m)) (l.take l.length).flatten)=IA id r m l:=by
  rw[List.take_length,IA,dU,←eC,←eC,←eC]
  simp only[List.append_assoc]
 have hst:feed (feed (feed (feed Iq id) (bC r)) (uG m)) (l.take 0).flatten=feed (feed (feed Iq id) (bC r)) (uG m):=by rw[List.take_zero];rfl
 rw[←hst]
 have XC:∀i (h:i<l.length),feed (feed (feed (feed (feed Iq id) (bC r)) (uG m)) (l.take i).flatten) l[i]=feed (feed (feed (feed Iq id) (bC r)) (uG m)) (l.take (i+1)).flatten:=fun i h=>by
  rw[←eC,List.take_succ_eq_append_getElem h,List.flatten_append];simp
 generalize feed (feed (feed Iq id) (bC r)) (uG m)=B at*
 refine bB l.length (fun i env rows=>has env [(27,.raw (it (i:Int))),(26,.raw (it (l.length:Int))),(25,.cF (.ar 32 L8) (l.map aW) ex),(9,.ptr KM 4 [0]),(8,.ptr (.ar 32 L8) 1 [0])]∧
  live rows 4=some ⟨KM,[rY (feed B (l.take i).flatten)]⟩∧live rows 1=some ⟨.ar 32 L8,[.agg (.ar 32 L8) (bs ug)]⟩) ?_ ?_ ⟨?_,rfl,rfl⟩
 ·rintro i hi env rows ⟨hh,r3,r1⟩ R hR
  simp only[has]at hh
  have e0:((i:Int)<(l.length:Int))=True:=eq_true (by omega)
  have b0:∀n:Nat,((0:Int)≤(n:Int))=True:=fun n=>eq_true (by omega)
  have e1:=cE i (by omega)
  have hx:=p8 _ (List.getElem_mem hi)
  have g:(l.map aW)[i]?=some (.agg (.ar 32 L8) (bs l[i])):=by simp[aW,hi]
  have hs:=XC i hi
  generalize l[i]=xi at*
  have r3A:=fun L=>aA r3 L
  simp only[↓aj,ak,simprocAttr,aa,aX,hh,e0,e1,b0,List.length_map,g,r3A,h3]
  refine Eq.mpr (jI _ _ _ _ xi (bc.r9 (n:=32) (by rw[b6];rfl) rfl hx) (hok i)) ?_
  rw[hs]
  simp only[↓aj,ak,simprocAttr,aa,aX,hh,e1,r3A,l5]
  exact hR _ _ ⟨by simp only[has,↓aj,ak,simprocAttr,aa,hh],aG (r3A _),cK (aA r1 _) (by decide)⟩
 ·rintro env rows ⟨hh,r3,r1⟩ R
  simp only[has]at hh
  have e0:((l.length:Int)<(l.length:Int))=False:=eq_false (by omega)
  have w1:=fun x=>aG (y:=x) r1
  simp only[↓aj,ak,simprocAttr,aa,aX,hh,e0,r3,r1,h4,yF _ _ _ (hok _),e,w1]
  exact .val _ rfl
 ·simp only[has,↓aj,ak,simprocAttr,aa]
theorem kHash(rows:Rows)(k:D→Rows→Prop)(id:List (BitVec 8))(r:BitVec 32)(m:Nat)(d:D)(l:List (List (BitVec 8)))(hd:bT rows (oo (.ar 32 L8) aW) d l)(gV:id.length=16)(hm:m<65536)(p8:∀x∈l,x.length=32)(HE:l.length≤1000000):
  aJ MG rows k [.agg (.ar 16 L8) (bs id),.raw (u32 r),.raw (it (m:Int)),d]=k (.agg (.ar 32 L8) (bs (IA id r m l))) rows:=by
 refine(vO (D6 id) (bT.raw (fK r)) (bT.int _) hd (by simp[gV,sa.2 p8,HE,TI];omega) rfl k).trans ?_
 simp[aW,shift,ae,Sh.pure]
noncomputable def MH:Fn:=G2 (b8 xN) qN (b8 aW) (fun id _ x=>decide (id.length=16)&&decide (x.length=32)) fun id r x=>(aW (nD id r x),[])
theorem leaf_ok(C:be)(hC:aI C P)(h1:C.fn 102=some MG):aO C.aZ P 41 (Fn.run MH):=by
 refine aH (Oz C hC) fun ds rows r h=>?_
 obtain⟨d0,d1,d2,id,r,x,rfl,rfl,g0,g1,g2,hp,rfl⟩:=fq h
 cases aF g0
 cases dL g1
 cases aF g2
 simp only[Bool.and_eq_true,decide_eq_true_eq]at hp
 refine⟨rfl,ag rfl ?_⟩
 clear h g0 g1 g2
 unfold Fe Ff
 simp only[dW]
 have kH:=fun rows k d hd=>kHash rows k id r 33410 d [x] hd hp.1 (by decide) (by simp[hp.2]) (by simp)
 rw[show((33410:Nat):Int)=33410 from rfl]at kH
 simp only[↓aj,ak,simprocAttr,aa,aX,xN,aW,h1]
 refine Eq.mpr (kH _ _ _ (bT.dl (l:=[x]) rfl rfl)) ?_
 simp only[↓aj,ak,simprocAttr,aa,aX]
 exact .val _ rfl
theorem kLeaf(rows:Rows)(k:D→Rows→Prop)(id:List (BitVec 8))(r:BitVec 32)(x:List (BitVec 8))(gV:id.length=16)(hx:x.length=32):
  aJ MH rows k [.agg (.ar 16 L8) (bs id),.raw (u32 r),.agg (.ar 32 L8) (bs x)]=k (.agg (.ar 32 L8) (bs (nD id r x))) rows:=by
 refine(fT (D6 id) (bT.raw (fK r)) (iQ x) (by simp[gV,hx]) rfl k).trans ?_
 simp[aW,shift,ae,Sh.pure]
noncomputable def MI:Fn:=Xu (b8 xN) qN (b8 aW) (b8 aW) (fun id _ x y=>decide (id.length=16)&&decide (x.length=32)&&decide (y.length=32)) fun id r x y=>(aW (sn id r x y),[])
theorem node_ok(C:be)(hC:aI C P)(h1:C.fn 102=some MG):aO C.aZ P 42 (Fn.run MI):=by
 refine aH (OA C hC) fun ds rows r h=>?_
 obtain⟨d0,d1,d2,d3,id,r,x,y,rfl,rfl,g0,g1,g2,g3,hp,rfl⟩:=sc h
 cases aF g0
 cases dL g1
 cases aF g2
 cases aF g3
 simp only[Bool.and_eq_true,decide_eq_true_eq]at hp
 refine⟨rfl,ag rfl ?_⟩
 clear h g0 g1 g2 g3
 unfold Fg Fh
 simp only[dW]
 have kH:=fun rows k d hd=>kHash rows k id r 33667 d [x,y] hd hp.1.1 (by decide) (by simp[hp.1.2,hp.2]) (by simp)
 rw[show((33667:Nat):Int)=33667 from rfl]at kH
 simp only[↓aj,ak,simprocAttr,aa,aX,xN,aW,h1]
 refine Eq.mpr (kH _ _ _ (bT.dl (l:=[x,y]) rfl rfl)) ?_
 simp only[↓aj,ak,simprocAttr,aa,aX]
 exact .val _ rfl
theorem XS(rows:Rows)(k:D→Rows→Prop)(id:List (BitVec 8))(r:BitVec 32)(x y:List (BitVec 8))(gV:id.length=16)(hx:x.length=32)(hy:y.length=32):
  aJ MI rows k [.agg (.ar 16 L8) (bs id),.raw (u32 r),.agg (.ar 32 L8) (bs x),.agg (.ar 32 L8) (bs y)]=k (.agg (.ar 32 L8) (bs (sn id r x y))) rows:=by
 refine(vO (D6 id) (bT.raw (fK r)) (iQ x) (iQ y) (by simp[gV,hx,hy]) rfl k).trans ?_
 simp[aW,shift,ae,Sh.pure]
theorem XT(rows:Rows)(k:D→Rows→Prop)(d:D)(p:List (BitVec 8))(h:bc rows d p)(hp:p.length≤1099511627776):aJ Gc rows k [d]=k (.cA [BO (eu p).1,.raw (it (eu p).2)]) rows:=by
 refine(cC (bT.bs h) (by simpa[most]using hp) rfl k).trans ?_
 simp[shift,bh,ae,BO,Sh.pure]
def Kb:Fn:=lE rC (fun _=>true) fun e=>(.cA [.raw (u32 0#32),.raw (.slice none 0 0),.raw (u32 0#32),.raw (.slice none 0 0),.raw (it e)],[])
theorem XU(C:be)(hC:aI C P):aO C.aZ P 144 (Fn.run Kb):=by
 refine aH (Hi C hC) fun ds rows r h=>?_
 obtain⟨d,t,rfl,rfl,hd,hp,rfl⟩:=a8 h
 cases bX hd
 refine⟨rfl,ag rfl ?_⟩
 clear h hd
 unfold xF xG
 simp only[↓aj,ak,simprocAttr,aa]
 exact .val _ rfl
theorem qR(rows:Rows)(k:D→Rows→Prop)(e:Int):aJ Kb rows k [.raw (it e)]=k (.cA [.raw (u32 0#32),.raw (.slice none 0 0),.raw (u32 0#32),.raw (.slice none 0 0),.raw (it e)]) rows:=by
 refine(cC (bT.int e) rfl rfl k).trans ?_
 simp[shift,bh,ae]
theorem XV(p:List (BitVec 8)):(eu p).2=0∨(eu p).2=6∨(eu p).2=2:=by
 unfold eu
 cases decide (p.length=56)
 ·exact .inr (.inr rfl)
 ·cases G4 (cY p).toNat&&sH (cY (p.drop 4)).toNat
  ·exact .inr (.inl rfl)
  ·exact .inl rfl
def wG(p:List (BitVec 8)):BitVec 32:=cY p
def QY(p:List (BitVec 8)):BitVec 32:=cY (p.drop 4)
def nE(p:List (BitVec 8)):Nat:=pT (QY p).toNat
def Kc(p:List (BitVec 8)):BitVec 32:=cY (p.drop (40+32*nE p))
def m8(p:List (BitVec 8)):Nat:=hT (Kc p).toNat
def nF(p:List (BitVec 8)):List (BitVec 8):=(p.drop 4).take (36+32*nE p)
def XW(p:List (BitVec 8))(i:Nat):List (BitVec 8):=(p.drop (44+32*nE p+32*i)).take 32
def DJ(p:List (BitVec 8))(i:Nat):List (BitVec 8):=p.drop (44+32*nE p+32*i)
def iU(p:List (BitVec 8))(n:Nat):List (List (BitVec 8)):=(List.range n).map (XW p)
def dz(p:List (BitVec 8)):Int:=
 if p.length<8 then 2 else if sH (QY p).toNat=false then 6 else if p.length<44+32*nE p then 2 else if G4 (Kc p).toNat=false then 6
 else if p.length≠44+32*nE p+32*m8 p∨(wG p).toNat>>>m8 p≠0 then 2 else 0
theorem Ay{p:List (BitVec 8)}(h:dz p=0):sH (QY p).toNat=true∧G4 (Kc p).toNat=true∧p.length=44+32*nE p+32*m8 p∧(wG p).toNat>>>m8 p=0:=by
 unfold dz at h
 split at h
 ·cases h
 split at h
 ·cases h
 split at h
 ·cases h
 split at h
 ·cases h
 split at h
 ·cases h
 rename_i h1 h2 h3 h4 h5
 refine⟨by simpa using h2,by simpa using h4,?_,?_⟩<;>omega
theorem Ec{t:Nat}(h:G4 t=true):1≤hT t:=by
 unfold G4 at h
 unfold hT
 simp only[decide_eq_true_eq]at h
 split
 ·omega
 ·split<;>omega
noncomputable def Ge:Fn:=lE dN (fun p=>decide (p.length≤1099511627776)) fun p=>if dz p=0 then
  (.cA [.raw (u32 (wG p)),.sl L8 0 [] 0 (36+32*nE p) false,.raw (u32 (Kc p)),.sl (.ar 32 L8) 1 [] 0 (m8 p) false,.raw (it 0)],[some ⟨L8,bs (nF p)⟩,some ⟨.ar 32 L8,(iU p (m8 p)).map aW⟩])
 else(.cA [.raw (u32 0#32),.raw (.slice none 0 0),.raw (u32 0#32),.raw (.slice none 0 0),.raw (it (dz p))],[])
set_option maxHeartbeats 4000000 in
theorem XX(C CT:be)(hC:aI C P)(h1:C.fn 146=some Gb)(h2:C.fn 36=some wF)(h3:C.fn 37=some l6)(h4:C.fn 144=some Kb)(n5:C.fn 145=none)(r5:C.fU 145=some (aR CT 2 jq jn)):
  aO C.aZ P 89 (Fn.run Ge):=by
 refine cr (LZ C hC) fun ds rows r h=>?_
 obtain⟨d,p,rfl,rfl,hd,hp,rfl⟩:=a8 h
 obtain⟨x,hx⟩:=cy hd
 refine⟨rfl,_,.cons hx .nil,ag rfl ?_⟩
 simp only[decide_eq_true_eq]at hp
 clear h hx hd
 unfold Cq Cr
 have mb:IY 144 [144]=true:=rfl
 by_cases hl:p.length<4
 ·have hq:dz p=2:=by unfold dz;rw[if_pos (by omega)]
  have c1:((p.length:Int)<4)=True:=eq_true (by omega)
  rw[hq,if_neg (by decide)]
  simp only[↓aj,ak,simprocAttr,aa,aX,aC,lQ,n5,r5,jn,jq,c1,mb,h4,qR]
  exact .val _ rfl
 have c1:((p.length:Int)<4)=False:=eq_false (by omega)
 have g1:((4:Int)≤(p.length:Int))=True:=eq_true (by omega)
 have tk:(bs (p.drop 4)).take (p.length-4)=bs (p.drop 4):=List.take_of_length_le (by rw[aC,List.length_drop];exact Nat.le_refl _)
 by_cases h8:p.length<8
 ·have hq:dz p=2:=by unfold dz;rw[if_pos h8]
  have c2:(((p.length-4:Nat):Int)<4)=True:=eq_true (by omega)
  rw[hq,if_neg (by decide)]
  simp only[↓aj,ak,simprocAttr,aa,aX,aC,lQ,n5,r5,jn,jq,c1,c2,g1,fw,tk,List.length_drop,mb,h4,qR]
  exact .val _ rfl
 have c2:(((p.length-4:Nat):Int)<4)=False:=eq_false (by omega)
 have d4:4≤(p.drop 4).length:=by rw[List.length_drop];omega
 have kL:=fun rows k e=>Gd rows k (p.drop 4) e d4
 have eo:cY (p.drop 4)=QY p:=rfl
 have cQ:∀x:Z5,D.fits (.agg pD [.raw (it (x.w:Int)),.raw (it (x.p:Int)),.raw (it (x.l:Int))]) pD=true:=fun x=>rfl
 rw[eo]at kL
 cases ho:sH (QY p).toNat with
 |false=>
  have hq:dz p=6:=by unfold dz;rw[if_neg h8,if_pos ho]
  rw[hq,if_neg (by decide)]
  simp only[↓aj,ak,simprocAttr,aa,aX,aC,lQ,n5,r5,jn,jq,c1,c2,g1,fw,tk,List.length_drop,mb,h4,qR,h1,kL,h3,mY,iR,ho,cQ,Bool.not_false]
  exact .val _ rfl
 |true=>
 have hpt:nE p≤265:=(j8 ho).2.2.1
 have ep:((uB (QY p).toNat).p:Int)=((nE p:Nat):Int):=rfl
 have q1:wz ((nE p:Int)+1)=((nE p+1:Nat):Int):=cE _ (by omega)
 have q2:wz (32*((nE p+1:Nat):Int))=((32*(nE p+1):Nat):Int):=by rw[bf (by omega)];omega
 have q3:wz (4+((32*(nE p+1):Nat):Int))=((36+32*nE p:Nat):Int):=by rw[bf (by omega)];omega
 simp only[↓aj,ak,simprocAttr,aa,aX,aC,lQ,n5,r5,jn,jq,c1,c2,g1,fw,tk,List.length_drop,mb,h4,qR,h1,kL,h3,mY,iR,ho,cQ,Bool.not_true,ep,q1,q2,q3]
 have b0:∀n:Nat,((0:Int)≤(n:Int))=True:=fun n=>eq_true (by omega)
 by_cases c:p.length-4<36+32*nE p
 ·have hq:dz p=2:=by unfold dz;rw[if_neg h8,if_neg (by rw[ho];decide),if_pos (by omega)]
  have c3:(((p.length-4:Nat):Int)<((36+32*nE p:Nat):Int))=True:=eq_true (by omega)
  rw[hq,if_neg (by decide)]
  simp only[↓aj,ak,simprocAttr,aa,aX,c3,mb,h4,qR]
  exact .val _ rfl
 have c3:(((p.length-4:Nat):Int)<((36+32*nE p:Nat):Int))=False:=eq_false (by omega)
 have c4:(((36+32*nE p:Nat):Int)≤((p.length-4:Nat):Int))=True:=eq_true (by omega)
 have tk2:List.take (p.length-4-(36+32*nE p)) (List.drop (36+32*nE p) (List.drop 4 p))=p.drop (40+32*nE p):=by
  rw[List.drop_drop,List.take_of_length_le (by rw[List.length_drop];omega)]
  congr 1;omega
 have tk1:List.take (36+32*nE p) (List.drop 4 p)=nF p:=rfl
 by_cases h3':p.length<44+32*nE p
 ·have hq:dz p=2:=by unfold dz;rw[if_neg h8,if_neg (by rw[ho];decide),if_pos h3']
  have c5:(((p.length-(40+32*nE p):Nat):Int)<4)=True:=eq_true (by omega)
  rw[hq,if_neg (by decide)]
  simp only[↓aj,ak,simprocAttr,aa,aX,c3,c4,c5,b0,aC,List.length_drop,fw,ey,tk2,mb,h4,qR]
  exact .val _ rfl
 have c5:(((p.length-(40+32*nE p):Nat):Int)<4)=False:=eq_false (by omega)
 have d5:4≤(p.drop (40+32*nE p)).length:=by rw[List.length_drop];omega
 have kT:=fun rows k e=>Gd rows k (p.drop (40+32*nE p)) e d5
 rw[show cY (p.drop (40+32*nE p))=Kc p from rfl]at kT
 cases hh:G4 (Kc p).toNat with
 |false=>
  have hq:dz p=6:=by unfold dz;rw[if_neg h8,if_neg (by rw[ho];decide),if_neg h3',if_pos hh]
  rw[hq,if_neg (by decide)]
  simp only[↓aj,ak,simprocAttr,aa,aX,c3,c4,c5,b0,aC,List.length_drop,fw,ey,tk2,mb,h4,qR,h1,kT,h2,Eb,hh,Bool.not_false]
  exact .val _ rfl
 |true=>
 have DL:=Ec hh
 have T4:=hT_le (Kc p).toNat
 have ehh:hT (Kc p).toNat=m8 p:=rfl
 rw[ehh]at DL T4
 have d0:4≤(p.take 4).length:=by rw[List.length_take];omega
 have kQ:=fun rows k e=>Gd rows k (p.take 4) e d0
 rw[oF p 4 (Nat.le_refl _),show cY p=wG p from rfl]at kQ
 have c6:((4:Int)≤((p.length-(40+32*nE p):Nat):Int))=True:=eq_true (by omega)
 have c7:wz (32*((m8 p:Nat):Int))=((32*m8 p:Nat):Int):=by rw[bf (by omega)];omega
 have tk3:List.take (p.length-(40+32*nE p)-4) (List.drop 4 (List.drop (40+32*nE p) p))=p.drop (44+32*nE p):=by
  rw[List.drop_drop,List.take_of_length_le (by rw[List.length_drop];omega)]
  congr 1;omega
 simp only[↓aj,ak,simprocAttr,aa,aX,c3,c4,c5,c6,c7,b0,aC,List.length_drop,fw,ey,tk2,tk3,mb,h4,qR,h1,kT,kQ,h2,Eb,hh,ehh,Bool.not_true]
 have bq:∀m:Nat,(wG p>>>m=0#32)↔(wG p).toNat>>>m=0:=fun m=>by
  constructor
  ·intro h;have:=congrArg BitVec.toNat h;simpa using this
  ·intro h;apply BitVec.eq_of_toNat_eq;simpa using h
 by_cases cl:p.length=44+32*nE p+32*m8 p
 rotate_left
 ·have hq:dz p=2:=by unfold dz;rw[if_neg h8,if_neg (by rw[ho];decide),if_neg h3',if_neg (by rw[hh];decide),if_pos (.inl cl)]
  have c8:(((p.length-(44+32*nE p):Nat):Int)=((32*m8 p:Nat):Int))=False:=eq_false (by omega)
  rw[hq,if_neg (by decide)]
  simp only[↓aj,ak,simprocAttr,aa,aX,c8,mb,h4,qR]
  exact .val _ rfl
 have c8:(((p.length-(44+32*nE p):Nat):Int)=((32*m8 p:Nat):Int))=True:=eq_true (by omega)
 by_cases cq:(wG p).toNat>>>m8 p=0
 rotate_left
 ·have hq:dz p=2:=by unfold dz;rw[if_neg h8,if_neg (by rw[ho];decide),if_neg h3',if_neg (by rw[hh];decide),if_pos (.inr cq)]
  have c9:(wG p>>>m8 p=0#32)=False:=eq_false (fun h=>cq ((bq _).1 h))
  rw[hq,if_neg (by decide)]
  simp only[↓aj,ak,simprocAttr,aa,aX,c8,c9,b0,Int.toNat_natCast,mb,h4,qR]
  exact .val _ rfl
 have hq:dz p=0:=by unfold dz;rw[if_neg h8,if_neg (by rw[ho];decide),if_neg h3',if_neg (by rw[hh];decide),if_neg (by omega)]
 have c9:(wG p>>>m8 p=0#32)=True:=eq_true ((bq _).2 cq)
 rw[if_pos hq]
 simp only[↓aj,ak,simprocAttr,aa,aX,c8,c9,b0,Int.toNat_natCast]
 have ja:∀i,i<m8 p→(XW p i).length=32:=fun i hi=>by rw[XW,List.length_take,List.length_drop];omega
 have hds:∀i,(iU p i).map aW++[.agg (.ar 32 L8) (bs (XW p i))]=(iU p (i+1)).map aW:=fun i=>by simp[iU,List.range_succ,aW]
 have qY:∀i,(iU p i).length=i:=fun i=>by simp[iU]
 have tk1':List.take (36+32*nE p-0) (List.drop 4 p)=nF p:=rfl
 rw[tk1']
 generalize oM (some (((36+32*nE p:Nat):Int))) (36+32*nE p) (36+32*nE p) (p.length-4) (oM none p.length p.length p.length x)=e12
 generalize oM none (p.length-(40+32*nE p)) (p.length-(40+32*nE p)) (p.length-(40+32*nE p)) (oM none (p.length-4) (p.length-4) (p.length-4) (oM none p.length p.length p.length x))=e0
 have er:List.drop (44+32*nE p) p=DJ p 0:=rfl
 have Ax:∀i,i≤m8 p→(DJ p i).length=32*(m8 p-i):=fun i hi=>by rw[DJ,List.length_drop];omega
 have hrn:∀i,List.drop 32 (DJ p i)=DJ p (i+1):=fun i=>by rw[DJ,List.drop_drop];rfl
 have hrt:∀i,List.take 32 (DJ p i)=XW p i:=fun i=>rfl
 rw[er]
 refine bB (m8 p) (fun i env rows=>has env [(13,.raw (u32 (Kc p))),(15,.raw (u32 (wG p))),(8,.ptr .ref 0 [0]),(12,.cF L8 (bs (nF p)) e12)]∧
  (∃e,live rows 0=some ⟨.ref,[.cF L8 (bs (DJ p i)) e]⟩)∧∃d',look env 16=some d'∧iK (.ar 32 L8) d' rows ((iU p i).map aW)∧(∀r ex n,d'= .sl (.ar 32 L8) r [] 0 n ex→1≤r)) ?_ ?_ ⟨?_,⟨e0,rfl⟩,.raw (.slice none 0 0),?_,.inl ⟨rfl,rfl⟩,fun r ex n h=>?_⟩
 ·rintro i hi env rows ⟨hw,⟨e',r0⟩,d',h16,hO,hne⟩ R hR
  simp only[has]at hw
  have hl:=Ax i (by omega)
  have hn:=hrn i
  have ht:=hrt i
  have sO:=ja i hi
  have hln:(DJ p (i+1)).length=32*(m8 p-i)-32:=by rw[Ax _ (by omega)];omega
  have f0:((0:Int)<((32*(m8 p-i):Nat):Int))=True:=eq_true (by omega)
  have f1:(((32*(m8 p-i):Nat):Int)<32)=False:=eq_false (by omega)
  have f2:((32:Int)≤((32*(m8 p-i):Nat):Int))=True:=eq_true (by omega)
  have lt0:=bn r0
  have w0:=fun y=>aG (y:=y) r0
  generalize 32*(m8 p-i)=M at*
  have tkn:List.take (M-32) (DJ p (i+1))=DJ p (i+1):=List.take_of_length_le (by omega)
  have tkp:List.take 32 (XW p i)=XW p i:=List.take_of_length_le (by omega)
  generalize DJ p i=X at*
  simp only[↓aj,ak,simprocAttr,aa,aX,hw,h16,r0,w0,aC,hl,f0,f1,f2,fw,ey,lQ,n5,r5,jn,jq,b0,hn,ht,tkn,tkp,sO]
  have hL:∀A Y,live (rows.set 0 (some A)++[some Y]) rows.length=some Y:=fun A Y=>by
   have:=tG (rows.set 0 (some A)) Y
   simpa using this
  have hO1:∀A,iK (.ar 32 L8) d' (rows.set 0 (some A)) ((iU p i).map aW):=fun A=>by
   rcases hO with h|⟨r,ex,rfl,h⟩
   ·exact .inl h
   ·exact .inr ⟨r,ex,rfl,cK h (by have:=hne _ _ _ rfl;omega)⟩
  simp only[↓aj,ak,simprocAttr,aa,hL,List.take]
  refine Ao (hO1 _).push (by rw[List.length_map,qY];simp[most];omega) (by rw[List.length_map,qY];simp[most];omega) fun ab mh oD vS=>?_
  rw[hds]at mh
  have r0':=oD 0 _ (bJ (w0 _)) (fun ex n e=>by have:=hne _ _ _ e;omega)
  have hlg:∀A:Row,(rows.set 0 (some A)++[some (⟨.ar 32 L8,[.agg (.ar 32 L8) (bs (XW p i))]⟩:Row)]).length=rows.length+1:=fun A=>by simp
  rw[hlg]at mh
  simp only[↓aj,ak,simprocAttr,aa,aX,hw,hlg]
  refine hR _ _ ⟨by simp only[has,↓aj,ak,simprocAttr,aa,hw],⟨_,r0'⟩,.sl (.ar 32 L8) (rows.length+1) [] 0 ((iU p i).length+1) false,by simp only[↓aj,ak,simprocAttr,aa,List.length_map,hlg],.inr ⟨_,false,by rw[List.length_map,qY,qY],mh⟩,fun r ex n e=>by injection e with _ e;omega⟩
 ·rintro env rows ⟨hw,⟨e',r0⟩,d',h16,hO,hne⟩ R
  simp only[has]at hw
  have hl:=Ax (m8 p) (Nat.le_refl _)
  rw[Nat.sub_self,Nat.mul_zero]at hl
  have hol:(nF p).length=36+32*nE p:=by rw[nF,List.length_take,List.length_drop];omega
  simp only[↓aj,ak,simprocAttr,aa,aX,hw,h16,r0,aC,hl,hO.mI]
  refine⟨by rw[hol];omega,by rw[hol];omega,?_⟩
  rw[hol]
  have Mj:1≤(iU p (m8 p)).length:=by rw[qY];exact DL
  rcases hO with⟨h,_⟩|⟨r,Pj,rfl,hlv⟩
  ·have:=congrArg List.length h;rw[List.length_map,List.length_nil]at this;omega
  ·have hlt:=bn hlv
   rw[List.length_map,qY]
   have l1:live (rows++[none,some (⟨L8,bs (nF p)⟩:Row)]) (rows.length+1)=some ⟨L8,bs (nF p)⟩:=by rw[cD];rfl
   exact .own2 [.raw (u32 (wG p))] [.raw (u32 (Kc p))] [.raw (it 0)] L8 (.ar 32 L8) (rows.length+1) r 0 _ 0 _ false false Pj false _ _ l1 (bJ hlv) (by omega) rfl rfl rfl rfl rfl (fun h=>h) (fun h=>by cases h)
 ·simp only[has,↓aj,ak,simprocAttr,aa]
 ·simp only[↓aj,ak,simprocAttr,aa]
 ·cases h
theorem MJ{p:List (BitVec 8)}(h:dz p=0):(nF p).length=36+32*nE p:=by
 obtain⟨-,-,h,-⟩:=Ay h
 rw[nF,List.length_take,List.length_drop];omega
theorem IC(p:List (BitVec 8))(n:Nat):(iU p n).length=n:=by simp[iU]
theorem XY{p:List (BitVec 8)}(h:dz p=0):∀x∈iU p (m8 p),x.length=32:=by
 obtain⟨-,-,h,-⟩:=Ay h
 intro x hx
 obtain⟨i,hi,rfl⟩:=List.mem_map.1 hx
 have:=List.mem_range.1 hi
 rw[XW,List.length_take,List.length_drop];omega
theorem kParts(rows:Rows)(k:D→Rows→Prop)(d:D)(p:List (BitVec 8))(hd:bc rows d p)(hp:p.length≤1099511627776)(he:dz p=0):
  aJ Ge rows k [d]=k (.cA [.raw (u32 (wG p)),.sl L8 (0+rows.length) [] 0 (36+32*nE p) false,.raw (u32 (Kc p)),.sl (.ar 32 L8) (1+rows.length) [] 0 (m8 p) false,.raw (it 0)])
   (rows++[some ⟨L8,bs (nF p)⟩,some ⟨.ar 32 L8,(iU p (m8 p)).map aW⟩]):=by
 refine(cC (bT.bs hd) (by simpa using hp) (by simp only[if_pos he];rfl) k).trans ?_
 simp only[if_pos he]
 simp[shift,bh,ae,Sh.pure]
theorem kPartsE(rows:Rows)(k:D→Rows→Prop)(d:D)(p:List (BitVec 8))(hd:bc rows d p)(hp:p.length≤1099511627776)(he:¬dz p=0):
  aJ Ge rows k [d]=k (.cA [.raw (u32 0#32),.raw (.slice none 0 0),.raw (u32 0#32),.raw (.slice none 0 0),.raw (it (dz p))]) rows:=by
 refine(cC (bT.bs hd) (by simpa using hp) (by simp only[if_neg he];rfl) k).trans ?_
 simp only[if_neg he]
 simp[shift,bh,ae]
end iC
end Go.Am

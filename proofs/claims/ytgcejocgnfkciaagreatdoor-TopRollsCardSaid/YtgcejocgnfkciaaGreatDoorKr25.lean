import Derived.Test.YtgcejocgnfkciaaGreatDoorKr24
namespace Go.Am
set_option linter.unusedSimpArgs false
set_option linter.unusedVariables false
attribute [local congr] cd bt cg bu bw bO bg bx bz bP a7 bQ bA b9
namespace iC
open Go.Am.F
set_option maxRecDepth 10000
theorem Ng(p:List (BitVec 8))(h:(b7 p).2=true):bK (b7 p).1=true:=by
 unfold b7 at h⊢
 cases c:decide (p.length=32)&&(bK (Ro p)&&decide (cU (Ro p)=p))<;>rw[c]at h
 ·cases h
 ·simp only[Bool.and_eq_true]at c
  exact c.2.1
theorem GD(K:FV)(i:Nat)(s:JS×Int)(h:bK s.1=true):bK (AK K i s).1=true:=by
 unfold AK
 split
 ·cases c:(b7 (sub (nG K) (256*i) 32)).2&&(decide (s.2=-1)||decide (s.1.q<(b7 (sub (nG K) (256*i) 32)).1.q))
  ·exact h
  ·exact Ng _ (Bool.and_eq_true_iff.1 c).1
 ·exact h
theorem PO(K:FV):bK (dJ K).1=true:=GD _ _ _ (GD _ _ _ rfl)
theorem sel_i(l:Int)(s:JS)(e0 e1:Int):(pL l s e0 e1).i=-1∨(pL l s e0 e1).i=0∧e0=0∨(pL l s e0 e1).i=1∧e1=0:=by
 have hk:∀i,El e0 e1 i=true→i=0∧e0=0∨i=1∧e1=0:=fun i h=>by
  simpa only[El,Bool.or_eq_true,Bool.and_eq_true,decide_eq_true_eq]using h
 unfold pL
 split
 ·exact .inl rfl
 ·split
  ·exact .inl rfl
  ·cases c1:El e0 e1 s.t&&decide (s.n<3)
   ·cases c2:El e0 e1 s.a
    ·cases c3:El e0 e1 (1-s.a)
     ·exact .inl rfl
     ·exact .inr (hk _ c3)
    ·exact .inr (hk _ c2)
   ·exact .inr (hk _ (Bool.and_eq_true_iff.1 c1).1)
structure ChoC (C:be):Prop where
 rd:C.fn 58=some yN
 se:C.fn 70=some Us
 nx0:C.fn 13=none
 nx1:C.fU 13=none
 nx2:C.Vk 13=some De
 ha:HaC C
 to:ToC C
 cp0:C.fn 169=none
 cp1:∃C1,C.fU 169=some (aR C1 2 fQ fP)∧CpC C1
set_option maxHeartbeats 1000000 in
theorem PP(C:be)(H:ChoC C){rows:Rows}{L:Ly}{S:wM}{b:Nat}{B:Bt}{e0 e1:Int}{m0 m1:xQ}{d0 d1:D}(hM:fB rows L S)(hb:cz rows b B)(hv0:B.v0=yM e0 m0 d0)(Z2:B.v1=yM e1 m1 d1)(ho:B.ops= .raw (.slice none 0 0))
  (hz:(e0=0→∃z:Nat,m0.s=z∧z≤2048)∧(e1=0→∃z:Nat,m1.s=z∧z≤2048)){c:Cho}(hc:c=pL B.iI (dJ (some (S.x,false))).1 e0 e1){K:D→Rows→Prop}
  (h0:c.i=-1→∀ab,Fr [b] rows ab→cz ab b {B with ph:=9,left:=0,e:=c.e}→K (.raw (.bool true)) ab)
  (h1:∀(j:Nat) (z:Nat) (m:xQ) (o:D),j≤1→c.i=j→(if j=0 then e0 else e1)=0→m=(if j=0 then m0 else m1)→m.s=z→(c.c&&j4 (some (S.x,false)) c.s)=false→∀ab,Fr [b] rows ab→cz ab b {B with sl:=j,tr:=c.t,kf:=m,ops:=o,DQ:=(nZ S.x j:Int),at_:=0,ph:=5,left:=((z+63)/64:Nat)}→K (.raw (.bool false)) ab)
  (h2:∀(j:Nat) (m:xQ) (ro q:Nat),j≤1→c.i=j→(if j=0 then e0 else e1)=0→m=(if j=0 then m0 else m1)→(c.c&&j4 (some (S.x,false)) c.s)=true→∀ab,Fr [b] rows ab→rows.length≤ro→rows.length≤q→live ab ro=some ⟨AL,(jL (some (S.x,false)) c.s q).map JO.D⟩→live ab q=some ⟨L8,bs (cU (fg (some (S.x,false)) c.s))⟩→
   cz ab b {B with sl:=j,tr:=c.t,kf:=m,ops:= .sl AL ro [] 0 2 true,ph:=4,left:=2}→K (.raw (.bool false)) ab):
  aR C 2 dR dQ [.ptr jM b [0],.ptr jb L.M [0]] rows K:=by
 refine ag rfl ?_
 unfold dQ dR
 obtain⟨ph,sl,mn,tr,er,lf,iI,least,bH,v0,v1,ops,at_,DQ⟩:=B
 simp only at hv0 Z2 ho hc
 subst hv0 Z2 ho
 have IR:=hM
 have hb0:=hb
 obtain⟨⟨co,p,nY⟩,⟨pt,hsp⟩,Ax,lz,yR,CY⟩:=hM
 have Ow:=bn hb
 have kR:=fun k=>Y1 lz (by omega) (by omega) k
 have hrj:=PO (some (S.x,false))
 have kS:=fun rows k=>kSel rows k iI _ hrj e0 e1
 rw[←hc]at kS
 have hi:=sel_i iI (dJ (some (S.x,false))).1 e0 e1
 rw[←hc]at hi
 generalize dJ (some (S.x,false))=J at*
 obtain⟨J,jp⟩:=J
 simp only at hc kS hrj
 have hz0:D.agg SJ [.raw (u32 0#32),.raw (it 0),.raw (it 0),.raw (it 0)]=jD ⟨0#32,0,0,0⟩:=rfl
 have hzc:D.agg SCo [.raw (it 0),jD ⟨0#32,0,0,0⟩,.raw (.bool false),.raw (.bool false),.raw (it 0)]=KR ⟨0,⟨0#32,0,0,0⟩,false,false,0⟩:=rfl
 have cf:∀c,(KR c).fits SCo=true:=fun _=>rfl
 have cg0:∀c,(KR c).get [0]=some (.raw (it c.i)):=fun _=>rfl
 have cg1:∀c,(KR c).get [1]=some (jD c.s):=fun _=>rfl
 have cg2:∀c,(KR c).get [2]=some (.raw (.bool c.c)):=fun _=>rfl
 have cg3:∀c,(KR c).get [3]=some (.raw (.bool c.t)):=fun _=>rfl
 have cg4:∀c,(KR c).get [4]=some (.raw (it c.e)):=fun _=>rfl
 have vg0:∀e m d,(yM e m d).get [0]=some (.raw (it e)):=fun _ _ _=>rfl
 have vg1:∀e m d,(yM e m d).get [1]=some (cO m):=fun _ _ _=>rfl
 simp only[NE]at nY
 simp only[uH]at hsp
 have pR:=fun L'=>aA hb L'
 have hma1:=fun L'=>aA nY L'
 have Uy:=fun L'=>aA hsp L'
 simp only[cz,jF]at hb pR
 have kM:=Ry nY (fH nY hb (by intro h;cases h))
 have kP:=Ry hsp (fH hsp hb (by intro h;cases h))
 obtain⟨C2,rc,hC2⟩:=H.cp1
 obtain⟨C3,r3⟩:=H.to.r
 have hq:=wL hb
 have Hu:∀X l,live (rows.set b (some X)++l) b=some X:=hq.2.2.1
 have hF:∀X l,Fr [b] rows (rows.set b X++l):=fun X l=>((Fr.refl _ _).set (by simp) _).trans (Fr.app _ _ _)
 by_cases qj:c.i=-1
 ·obtain⟨C1,r1,hT⟩:=H.ha.r
  simp only[↓aj,ak,simprocAttr,aa,aX,hz0,hzc,nY,hsp,hb,pR,hma1,Uy,vg0,vg1,hq,cw,cf,cg0,cg1,cg2,cg3,cg4,H.rd,kR,H.se,kS,qj,H.ha.n,r1]
  refine BZ C1 hT (aA hb0 _) _ ?_
  simp only[↓aj,ak,simprocAttr,aa,aX,hq]
  exact h0 qj _ (hF _ _) (Hu _ _)
 have R9:∃(j z:Nat) (e:Int) (m:xQ) (d:D),j≤1∧c.i=j∧e=0∧m.s=z∧z≤2048∧(if j=0 then e0 else e1)=e∧m=(if j=0 then m0 else m1)∧∀i:Nat,i=j→(if i=0 then yM e0 m0 d0 else yM e1 m1 d1)=yM e m d:=by
  rcases hi with h|⟨h,h'⟩|⟨h,h'⟩
  ·exact absurd h qj
  ·obtain⟨z,Qr,U5⟩:=hz.1 h'
   exact⟨0,z,e0,m0,d0,by omega,h,h',Qr,U5,rfl,rfl,fun i hi=>by rw[hi,if_pos rfl]⟩
  ·obtain⟨z,Qr,U5⟩:=hz.2 h'
   exact⟨1,z,e1,m1,d1,by omega,h,h',Qr,U5,rfl,rfl,fun i hi=>by rw[hi,if_neg (by decide)]⟩
 obtain⟨j,z,e,m,d,hj,hcj,he,hmz,U5,hej,hmj,hvj⟩:=R9
 have hmf:=fA m
 have hm1':(c.i=-1)=False:=eq_false qj
 have hx:[yM e0 m0 d0,yM e1 m1 d1][c.i.toNat]?=some (yM e m d):=by
  have:=hvj j rfl
  rw[hcj]
  rcases(by omega:j=0∨j=1)with rfl|rfl
  ·exact congrArg some this
  ·exact congrArg some this
 have i0:(0≤c.i)=True:=eq_true (by omega)
 have i1:(c.i<2)=True:=eq_true (by omega)
 have hN:∀X l,De [.ptr SF L.f [0],jD c.s] (rows.set b X++l)=some (Dc (some (S.x,false)) c.s (rows.length+l.length),Db (some (S.x,false)) c.s (rows.length+l.length)):=fun X l=>by
  have:=(IR.fr hb0 (hF X l)).fl
  have hl:(rows.set b X++l).length=rows.length+l.length:=by rw[List.length_append,List.length_set]
  rw[←hl]
  exact Kw this (by omega) (by omega)
 have eok:(if j=0 then e0 else e1)=0:=hej.trans he
 cases U0:c.c with
 |false=>
  simp only[↓aj,ak,simprocAttr,aa,aX,hz0,hzc,nY,hsp,hb,pR,hma1,Uy,vg0,vg1,hq,cw,cf,cg0,cg1,cg2,cg3,cg4,H.rd,kR,H.se,kS,hm1',H.ha.n,hx,i0,i1,hmf,U0,H.cp0,rc]
  refine GC C2 hC2 (S:=S) (L:=L) (B:=⟨ph,c.i,m,c.t,er,lf,iI,least,bH,yM e0 m0 d0,yM e1 m1 d1,.raw (.slice none 0 0),at_,DQ⟩) j z hj U5 (IR.fr hb0 (hF _ _)) (Hu _ _) hcj hmz fun R=>?_
  simp only[↓aj,ak,simprocAttr,aa,aX,hq]
  rw[hcj]
  exact h1 j z m _ hj hcj eok hmj hmz (by rw[U0];rfl) _ (hF _ _) (Hu _ _)
 | true =>
  cases hnb:j4 (some (S.x,false)) c.s with
  |false=>
   simp only[↓aj,ak,simprocAttr,aa,aX,hz0,hzc,nY,hsp,hb,pR,hma1,Uy,vg0,vg1,hq,cw,cf,cg0,cg1,cg2,cg3,cg4,H.rd,kR,H.se,kS,hm1',H.ha.n,hx,i0,i1,hmf,U0,H.nx0,H.nx1,H.nx2,hN,kM,kP,Dc,Db,hnb,H.cp0,rc]
   refine GC C2 hC2 (S:=S) (L:=L) (B:=⟨ph,c.i,m,c.t,er,lf,iI,least,bH,yM e0 m0 d0,yM e1 m1 d1,.raw (.slice none 0 0),at_,DQ⟩) j z hj U5 (IR.fr hb0 (hF _ _)) (Hu _ _) hcj hmz fun R=>?_
   simp only[↓aj,ak,simprocAttr,aa,aX,hq]
   rw[hcj]
   exact h1 j z m _ hj hcj eok hmj hmz (by rw[U0,hnb];rfl) _ (hF _ _) (Hu _ _)
  |true=>
   simp only[↓aj,ak,simprocAttr,aa,aX,hz0,hzc,nY,hsp,hb,pR,hma1,Uy,vg0,vg1,hq,cw,cf,cg0,cg1,cg2,cg3,cg4,H.rd,kR,H.se,kS,hm1',H.ha.n,hx,i0,i1,hmf,U0,H.nx0,H.nx1,H.nx2,hN,kM,kP,Dc,Db,hnb,H.to.n,r3]
   refine qV C3 (B:=⟨ph,c.i,m,c.t,er,lf,iI,least,bH,yM e0 m0 d0,yM e1 m1 d1,.sl AL (rows.length+5) [] 0 2 true,at_,DQ⟩) (Hu _ _) 4 2 ?_
   simp only[↓aj,ak,simprocAttr,aa,aX,hq]
   rw[hcj]
   exact h2 j m (rows.length+5) (rows.length+4) hj hcj eok hmj (by rw[U0,hnb];rfl) _ (hF _ _) (by omega) (by omega) (by rw[hq.2.2.2.2.1];rfl) (by rw[hq.2.2.2.2.1];rfl) (Hu _ _)
structure TeC (C:be):Prop where
 af:C.fn 116=some BS
 t0:C.fn 117=none
 t1:C.fU 117=some (aR CF 4 cT cS)
structure DoC (C:be):Prop where
 al:C.fn 57=some IK
 t0:C.fn 56=none
 t1:∃C0,C.fU 56=some (aR C0 4 ig ie)∧TeC C0
structure WrC (C:be):Prop where
 d0:C.fn 12=none
 d1:∃C1,C.fU 12=some (aR C1 3 fM fL)∧DoC C1
 cp0:C.fn 169=none
 cp1:∃C1,C.fU 169=some (aR C1 2 fQ fP)∧CpC C1
theorem fB.wr{rows ab:Rows}{L:Ly}{S:wM}{x:List (BitVec 8)}(h:fB rows L S)(U:Rc rows ab L.f L.m x)(hx:x.length=10240):fB ab L {S with x:=x}:=by
 obtain⟨⟨co,p,h1⟩,⟨pt,h2⟩,h3,h4,h5,h6⟩:=h
 have hd:=h4.dat
 have k:∀{q row},live rows q=some row→row.sh≠L8→live ab q=some row:=fun{q row} hq hn=>U.frame q row hq fun e=>hn (by rw[e,hd]at hq;injection hq with hq;rw[←hq])
 have hc:=h6.ch
 have ha:=h6.ar
 have hw:=h6.dat
 exact⟨⟨co,p,k h1 (by intro h;cases h)⟩,⟨pt,k h2 (by intro h;cases h)⟩,h3,U.fl,hx,h6.keep fun p row hp hq=>k hp (by rcases hq with rfl|rfl|rfl<;>(intro h;simp_all))⟩
theorem Df(C:be)(H:WrC C){rows:Rows}{L:Ly}{S:wM}{b ro k n:Nat}{ex:Bool}{B:Bt}{o0 o1 o:JO}(j z:Nat)(hj:j≤1)(hz:z≤2048)(hM:fB rows L S)(hb:cz rows b B)(jO:B.sl=j)(pX:B.kf.s=z)(ho:B.ops= .sl AL ro [] k n ex)(hro:live rows ro=some ⟨AL,[o0.D,o1.D]⟩)
  (hkn:k=0∧n=2∧o=o0∨k=1∧n=1∧o=o1)(h1:KQ rows L.m o.k o.d o.p)(h2:256*o.i+256≤10240)(h3:qT (some (S.x,false)) (o.i:Int) 0 o.p=0){K:D→Rows→Prop}
  (Qh:k=0→∀ab oy,Fr [b,L.m] rows ab→fB ab L {S with x:=mo S.x o.i o.p eF}→cz ab b {B with ops:= .sl AL ro [] 1 1 oy}→K (.raw (.bool false)) ab)
  (hk1:k=1→∀ab d,Fr [b,L.m] rows ab→fB ab L {S with x:=mo S.x o.i o.p eF}→cz ab b {B with ops:=d,DQ:=(nZ (mo S.x o.i o.p eF) j:Int),at_:=0,ph:=5,left:=((z+63)/64:Nat)}→K (.raw (.bool false)) ab):
  aR C 2 dD dC [.ptr jM b [0],.ptr jb L.M [0]] rows K:=by
 refine ag rfl ?_
 unfold dC dD
 obtain⟨ph,sl,mn,tr,er,lf,iI,least,bH,v0,v1,ops,at_,DQ⟩:=B
 simp only at jO pX ho
 subst ho
 have IR:=hM
 have hb0:=hb
 obtain⟨⟨co,p,nY⟩,⟨pt,hsp⟩,Ax,lz,yR,CY⟩:=hM
 simp only[NE]at nY
 simp only[uH]at hsp
 simp only[cz,jF]at hb
 obtain⟨C1,r1,hD⟩:=H.d1
 obtain⟨C0,r0,hT⟩:=hD.t1
 obtain⟨C2,rc,hC2⟩:=H.cp1
 have of:o.D.fits AL=true:=h1.fits o.i
 have nro:ro≠L.m:=fH hro lz.dat (by intro h;cases h)
 have nb:b≠L.m:=fH hb lz.dat (by intro h;cases h)
 have hop:∀(R:Rows) (i:Nat) (o':JO),[o][i]?=some o'→KQ (rows++R) L.m o'.k o'.d o'.p∧256*o'.i+256≤S.x.length∧qT (some (IL S.x ([o].take i),false)) (o'.i:Int) 0 o'.p=0:=by
  intro R i o' h
  match i with
  |0=>cases h;exact⟨h1.keep fun q row hq _=>aA hq _,by omega,h3⟩
  |i+1=>cases h
 have NT:=b6 rows [some ⟨AL,[o.D]⟩]
 rcases hkn with⟨rfl,rfl,rfl⟩|⟨rfl,rfl,rfl⟩
 ·simp only[↓aj,ak,simprocAttr,aa,aX,nY,hsp,hb,hro,of,H.d0,r1]
  refine PF C1 C0 (dc:= .ptr Pf L.q [0]) (ops:=[o]) (lz.push _) (by omega) NT (by have:=lz.lt;omega) rfl (Nat.le_of_ble_eq_true rfl) (hop _) hT.af hT.t0 hT.t1 hD.al hD.t0 r0 fun R U=>?_
  have hM1:=(IR.fr hb0 (Fr.app [b] rows [some ⟨AL,[o.D]⟩])).wr U (by rw[me];exact yR)
  have pR:live R b=_:=U.frame b _ (aA hb _) nb
  have hbR:cz R b ⟨ph,sl,mn,tr,er,lf,iI,least,bH,v0,v1,.sl AL ro [] 0 2 ex,at_,DQ⟩:=pR
  have HY:∀X,Fr [b] R (R.set b X):=fun X=>(Fr.refl [b] R).set (List.mem_singleton_self b) X
  have IS:Fr [b,L.m] rows R:=fun q row hq hn=>U.frame q row (aA hq _) fun e=>hn (by simp[e])
  simp only[↓aj,ak,simprocAttr,aa,aX,pR,aG pR]
  exact Qh rfl _ _ (IS.set (List.mem_cons_self ..) _) (hM1.fr hbR (HY _)) (aG pR)
 ·simp only[↓aj,ak,simprocAttr,aa,aX,nY,hsp,hb,hro,of,H.d0,r1]
  refine PF C1 C0 (dc:= .ptr Pf L.q [0]) (ops:=[o]) (lz.push _) (by omega) NT (by have:=lz.lt;omega) rfl (Nat.le_of_ble_eq_true rfl) (hop _) hT.af hT.t0 hT.t1 hD.al hD.t0 r0 fun R U=>?_
  have hM1:=(IR.fr hb0 (Fr.app [b] rows [some ⟨AL,[o.D]⟩])).wr U (by rw[me];exact yR)
  have pR:live R b=_:=U.frame b _ (aA hb _) nb
  have hbR:cz R b ⟨ph,sl,mn,tr,er,lf,iI,least,bH,v0,v1,.sl AL ro [] 1 1 ex,at_,DQ⟩:=pR
  have HY:∀X,Fr [b] R (R.set b X):=fun X=>(Fr.refl [b] R).set (List.mem_singleton_self b) X
  have IS:Fr [b,L.m] rows R:=fun q row hq hn=>U.frame q row (aA hq _) fun e=>hn (by simp[e])
  simp only[↓aj,ak,simprocAttr,aa,aX,pR,aG pR,H.cp0,rc]
  refine GC C2 hC2 (S:={S with x:=mo S.x o.i o.p eF}) (L:=L) (B:=⟨ph,sl,mn,tr,er,lf,iI,least,bH,v0,v1,.sl AL ro [] 2 0 _,at_,DQ⟩) j z hj hz (hM1.fr hbR (HY _)) (aG pR) jO pX fun R2=>?_
  simp only[↓aj,ak,simprocAttr,aa,aX,List.set_set]
  exact hk1 rfl _ _ ((IS.set (List.mem_cons_self ..) _).trans (Fr.app _ _ _)) (hM1.fr hbR ((HY _).trans (Fr.app _ _ _))) (aA (aG pR) _)
def tD:aB→aB
 | .seq a _=>a
 |c=>c
def j5:aB→aB
 | .seq _ b=>b
 |c=>c
noncomputable def Kx:aB:=j5 (j5 ci)
theorem Uz:ci= .seq (tD ci) (.seq (tD (j5 ci)) Kx):=rfl
def Hv(gk:List (BitVec 8)):List (BitVec 8):=a9 gk 0 (List.replicate 4096 0#8)
def vZ(gk x:List (BitVec 8))(p a:Nat):List (BitVec 8):=a9 (Hv gk) 0 (sub x p a)
theorem Y8{gk:List (BitVec 8)}(h:gk.length=8192):(Hv gk).length=8192:=by
 rw[Hv,iH _ _ _ (by rw[List.length_replicate];omega),h]
theorem ramC_0(gk x:List (BitVec 8))(p:Nat):vZ gk x p 0=Hv gk:=by simp[vZ,sub,a9]
theorem UA(gk x:List (BitVec 8))(p a n:Nat)(hp:p+a≤x.length):a9 (vZ gk x p a) a (sub x (p+a) n)=vZ gk x p (a+n):=by
 have h1:(sub x p a).length=a:=j9 (by omega)
 have h2:sub x p (a+n)=sub x p a++sub x (p+a) n:=by
  simp only[sub]
  rw[List.take_add,List.drop_drop]
 unfold vZ
 rw[h2]
 generalize sub x p a=u at*
 generalize sub x (p+a) n=v at*
 subst h1
 simp only[a9,List.take_zero,List.nil_append,Nat.zero_add,List.take_left',List.length_append,List.append_assoc]
 simp[List.drop_append,List.drop_drop]
structure CdC (C:be):Prop where
 to:ToC C
 rd:C.fn 23=some vT
 ba:C.fn 170=some vU
 s0:C.fn 171=none
 s1:∃C1 C2,C.fU 171=some (aR C1 4 fp fo)∧StC C2 C1
theorem fB.gk{rows:Rows}{L:Ly}{S:wM}{pt:D}(h:fB rows L S){r2:List (BitVec 8)}(h2:r2.length=8192){X:Row}(hX:X=⟨lC,[uH S.st r2 pt L.f L.q]⟩):fB (rows.set L.s (some X)) L {S with gk:=r2}:=by
 subst hX
 obtain⟨⟨co,p,h1⟩,⟨pt0,UX⟩,h3,⟨⟨ex,h4⟩,h5⟩,h6,h7⟩:=h
 have h8:=h7.ch
 have h9:=h7.ar
 have h10:=h7.dat
 have k:∀{q row},live rows q=some row→row.sh≠lC→live (rows.set L.s (some ⟨lC,[uH S.st r2 pt L.f L.q]⟩)) q=some row:=fun{q row} hq hn=>by
  rw[aE fun e=>hn (by rw[←e,UX]at hq;injection hq with hq;rw[←hq])];exact hq
 exact⟨⟨co,p,k h1 (by intro h;cases h)⟩,⟨pt,aG UX⟩,h2,⟨⟨ex,k h4 (by intro h;cases h)⟩,k h5 (by intro h;cases h)⟩,h6,h7.keep fun p row hp hq=>k hp (by rcases hq with rfl|rfl|rfl<;>(intro h;simp_all))⟩
theorem spc_clr{rows:Rows}{s f c:Nat}{ex:Bool}{st:Int}{gk:List (BitVec 8)}{pt:D}(hs:live rows s=some ⟨lC,[uH st gk pt f c]⟩)(hr:gk.length=8192){k:D→Rows→Prop}
  (hk:k (.raw (it 4096)) (rows.set s (some ⟨lC,[uH st (Hv gk) pt f c]⟩))):nc rows L8 (.sl L8 s [0,1] 0 4096 ex) (List.replicate 4096 (.raw (u8 0#8))) k:=by
 have e:List.replicate 4096 (D.raw (u8 0#8))=bs (List.replicate 4096 0#8):=by rw[bs,List.map_replicate]
 rw[e]
 refine MZ hs hr (by omega) (by rw[List.length_replicate];omega) ?_
 rw[List.length_replicate]
 exact hk
theorem clr_go{C:be}{env:Env}{x:X}{rows:Rows}{s f c:Nat}{ex:Bool}{st:Int}{gk:List (BitVec 8)}{pt:D}(h:ev C env x=some (.sl L8 s [0,1] 0 4096 ex))(hs:live rows s=some ⟨lC,[uH st gk pt f c]⟩)(hr:gk.length=8192){k:D→Rows→Prop}
  (hk:k (.cA []) (rows.set s (some ⟨lC,[uH st (Hv gk) pt f c]⟩))):df C env rows (.clr L8 (.raw (u8 0#8)) x) k:=by
 rw[o_clr,h]
 exact BT (a:= .sl L8 s [0,1] 0 4096 ex) rfl (BT (a:=4096) rfl (spc_clr hs hr hk))
theorem PQ(C:be)(H:CdC C){rows:Rows}{L:Ly}{S:wM}{b:Nat}{B:Bt}(z p i l:Nat)(hz:z≤2048)(hp:p+z≤10240)(hi:64*i<z)(hst:S.st=0)(hM:fB rows L S)(hb:cz rows b B)(Hw:B.DQ=(p:Int))(pX:B.kf.s=z)(GZ:B.at_=((64*i:Nat):Int))(hl:B.left=((l+1:Nat):Int))(G1:l≤100){K:D→Rows→Prop}
  (hk:∀ab,Fr [b,L.s] rows ab→fB ab L {S with gk:=a9 (if i=0 then Hv S.gk else S.gk) (64*i) (sub S.x (p+64*i) (min 64 (z-64*i)))}→
   cz ab b {B with at_:=((64*i+min 64 (z-64*i):Nat):Int),left:=if l=0 then 1 else(l:Int),ph:=if l=0 then 6 else B.ph}→K (.raw (.bool false)) ab):
  aR C 2 dP ci [.ptr jM b [0],.ptr jb L.M [0]] rows K:=by
 have main:∀env R (S0:wM),has env [(0,.ptr jM b [0]),(1,.ptr jb L.M [0]),(4,.raw (.bool false))]→fB R L S0→S0.x=S.x→S0.st=0→cz R b B→Fr [b,L.s] rows R→(∀ab,Fr [b,L.s] R ab→fB ab L {S0 with gk:=a9 S0.gk (64*i) (sub S.x (p+64*i) (min 64 (z-64*i)))}→
   cz ab b {B with at_:=((64*i+min 64 (z-64*i):Nat):Int),left:=if l=0 then 1 else(l:Int),ph:=if l=0 then 6 else B.ph}→K (.raw (.bool false)) ab)→aw C Kx (Jo [.tmp 4] K) env R:=by
  intro env R S0 hh hM hx hst hb hF hk
  simp only[has]at hh
  obtain⟨Cb,DL,hh4,-⟩:=hh
  obtain⟨Iq,w9,x0,c0⟩:=S0
  simp only at hx hst hk
  subst hx hst
  have IR:=hM
  have hb0:=hb
  obtain⟨⟨co,pp,nY⟩,⟨pt,hsp⟩,Ax,lz,yR,CY⟩:=hM
  obtain⟨m,qj,LF,hm3,hm4⟩:∃m:Nat,min 64 (z-64*i)=m∧0<m∧m≤64∧64*i+m≤z:=⟨_,rfl,by omega,by omega,by omega⟩
  rw[qj]at hk
  replace Ax:w9.length=8192:=Ax
  replace yR:S.x.length=10240:=yR
  replace lz:fG R L.f L.m S.x:=lz
  have kR:=fun k=>MR lz (by omega) (p+64*i) m (by omega) k
  simp only[NE]at nY
  have Y9:=hsp
  simp only[uH]at hsp
  simp only[cz,jF]at hb
  have gm:(cO B.kf).get [1]=some (.raw (it (z:Int))):=by rw[←pX];rfl
  have w1:wz ((z:Int)-((64*i:Nat):Int))=((z-64*i:Nat):Int):=by rw[bf (by omega)];omega
  have w2:wz ((p:Int)+((64*i:Nat):Int))=((p+64*i:Nat):Int):=by rw[bf (by omega)];omega
  have mm:min (64:Int) ((z-64*i:Nat):Int)=(m:Int):=by omega
  have kB:=fun rows k=>kAt [.raw (it 1)] (.cA [.raw (u32 536870912#32),.raw (it 4096)]) rfl rfl rows k rfl
  obtain⟨C1,C2,r1,hS⟩:=H.s1
  have hbA:=fun L'=>aA hb L'
  have Za:=fun L'=>aA nY L'
  have hspA:=fun L'=>aA hsp L'
  unfold Kx
  simp only[ci,j5,↓aj,ak,simprocAttr,aa,aX,Cb,DL,hh4,nY,hsp,hb,hbA,Za,hspA,gm,GZ,Hw,w1,w2,mm,H.rd,kR,H.ba,vU,kB,H.s0,r1]
  have jO:(sub S.x (p+64*i) m).length=m:=j9 (by omega)
  have ne:b≠L.s:=fH hb hsp (by intro h;cases h)
  generalize sub S.x (p+64*i) m=u at*
  subst jO
  have Nh:=IR.keep (ab:=R++[some ⟨L8,bs u⟩]) fun q row hq _=>aA hq _
  have Uy:live (R++[some ⟨L8,bs u⟩]) L.s=some ⟨lC,[uH 0 w9 pt L.f L.q]⟩:=aA Y9 _
  have hbR:=hbA [some ⟨L8,bs u⟩]
  have hlv:=b6 R [some ⟨L8,bs u⟩]
  have IS:=hF.trans (Fr.app [b,L.s] R [some ⟨L8,bs u⟩])
  have hFR:=Fr.app [b,L.s] R [some ⟨L8,bs u⟩]
  generalize R++[some ⟨L8,bs u⟩]=R1 at*
  have hm8:(a9 w9 (64*i) u).length=8192:=by rw[iH _ _ _ (by omega),Ax]
  refine Uh C1 C2 hS (gk:=w9) (pt:=pt) (o:=64*i) (p:=u) Uy Ax (by omega) LF (by show elems R1 (.sl L8 R.length [] 0 u.length false)=some (bs u);simp only[elems,hlv];simp[live,lp,aC]) rfl ?_
  have Zb:=Nh.gk (pt:=pt) hm8 rfl
  have HI:live (R1.set L.s (some ⟨lC,[uH 0 (a9 w9 (64*i) u) pt L.f L.q]⟩)) b=_:=(aE (Ne.symm ne)).trans hbR
  have DR:Fr [b,L.s] R (R1.set L.s (some ⟨lC,[uH 0 (a9 w9 (64*i) u) pt L.f L.q]⟩)):=hFR.set (by simp) _
  generalize R1.set L.s (some ⟨lC,[uH 0 (a9 w9 (64*i) u) pt L.f L.q]⟩)=R2 at*
  have w3:wz (((64*i:Nat):Int)+(u.length:Int))=((64*i+u.length:Nat):Int):=by rw[bf (by omega)];omega
  have w4:wz (((l+1:Nat):Int)-1)=(l:Int):=by rw[bf (by omega)];omega
  have tJ:=fun x=>aG (y:=x) HI
  obtain⟨C3,r3⟩:=H.to.r
  by_cases c:l=0
  ·subst c
   simp only[Cb,DL,hh4,↓aj,ak,simprocAttr,aa,aX,HI,tJ,hl,GZ,w3,w4,List.set_set,H.to.n,r3]
   refine qV C3 (B:={B with at_:=((64*i+u.length:Nat):Int),left:=0}) (aG HI) 6 1 ?_
   simp only[↓aj,ak,simprocAttr,aa,aX,List.set_set]
   exact hk _ (DR.set (by simp) _) (Zb.fr (B:=B) HI ((Fr.refl _ _).set (by simp) _)) (aG HI)
  ·have c1:((l:Int)=0)=False:=eq_false (by omega)
   simp only[Cb,DL,hh4,↓aj,ak,simprocAttr,aa,aX,HI,tJ,hl,GZ,w3,w4,List.set_set,c1]
   rw[if_neg c,if_neg c]at hk
   exact hk _ (DR.set (by simp) _) (Zb.fr (B:=B) HI ((Fr.refl _ _).set (by simp) _)) (aG HI)
 refine ag rfl ?_
 rw[Uz]
 simp only[ci,tD,j5,dP]
 have IR:=hM
 have hb0:=hb
 obtain⟨⟨co,pp,nY⟩,⟨pt,hsp⟩,Ax,lz,yR,CY⟩:=hM
 simp only[NE]at nY
 have Y9:=hsp
 simp only[uH]at hsp
 simp only[cz,jF]at hb
 by_cases c:i=0
 ·subst c
  have GZ:B.at_=0:=GZ
  generalize ja:mi.clr L8 (.raw (u8 0#8)) (.tmp 21)=CL
  simp only[-List.reduceReplicate,↓aj,ak,simprocAttr,aa,aX,nY,hsp,hb,GZ]
  subst ja
  refine clr_go rfl Y9 Ax ?_
  simp only[↓aj,ak,simprocAttr,aa]
  have h8:=Y8 Ax
  have ne:b≠L.s:=fH hb hsp (by intro h;cases h)
  have hFr:Fr [b,L.s] rows (rows.set L.s (some ⟨lC,[uH S.st (Hv S.gk) pt L.f L.q]⟩)):=(Fr.refl _ _).set (by simp) _
  exact main _ _ {S with gk:=Hv S.gk} (by simp only[has,↓aj,ak,simprocAttr,aa]) (IR.gk h8 rfl) rfl hst (by rw[cz,aE (Ne.symm ne)];exact hb0) hFr fun ab h1 h2 h3=>hk ab (hFr.trans h1) h2 h3
 ·have c1:(((64*i:Nat):Int)=0)=False:=eq_false (by omega)
  simp only[-List.reduceReplicate,↓aj,ak,simprocAttr,aa,aX,nY,hsp,hb,GZ,c1]
  rw[if_neg c]at hk
  exact main _ _ S (by simp only[has,↓aj,ak,simprocAttr,aa]) IR rfl hst hb0 (Fr.refl _ _) hk
structure CkC (C:be):Prop where
 to:ToC C
 ha:HaC C
 su:C.fn 95=some BI
theorem Ni(C:be)(H:CkC C){rows:Rows}{L:Ly}{S:wM}{b:Nat}{B:Bt}(z:Nat)(hz:z≤2048)(hM:fB rows L S)(hb:cz rows b B)(pX:B.kf.s=z)(yT:B.kf.dg.length=32){K:D→Rows→Prop}
  (h0:dU (S.gk.take z)≠B.kf.dg→∀ab,Fr [b] rows ab→cz ab b {B with ph:=9,left:=0,e:=16}→K (.raw (.bool true)) ab)
  (h1:dU (S.gk.take z)=B.kf.dg→∀ab,Fr [b] rows ab→cz ab b {B with ph:=7,left:=1}→K (.raw (.bool false)) ab):
  aR C 2 dF dE [.ptr jM b [0],.ptr jb L.M [0]] rows K:=by
 refine ag rfl ?_
 unfold dE dF
 have hb0:=hb
 obtain⟨⟨co,pp,nY⟩,⟨pt,hsp⟩,Ax,lz,yR,CY⟩:=hM
 simp only[NE]at nY
 have Y9:=hsp
 simp only[uH]at hsp
 simp only[cz,jF]at hb
 have hq:=wL hb
 have hbA:=fun L'=>aA hb L'
 have Hu:∀X l,live (rows.set b (some X)++l) b=some X:=hq.2.2.1
 have hF:∀X l,Fr [b] rows (rows.set b X++l):=fun X l=>((Fr.refl _ _).set (by simp) _).trans (Fr.app _ _ _)
 have gm:(cO B.kf).get [1]=some (.raw (it (z:Int))):=by rw[←pX];rfl
 have g3:(cO B.kf).get [3]=some (.agg (.ar 32 L8) (bs B.kf.dg)):=rfl
 have hBs:∀R e,bc (rows++R) (.sl L8 L.s [0,1] 0 z e) (S.gk.take z):=fun R e=>by
  have:=bc.at (off:=0) (len:=z) (e:=e) (aA Y9 R) (n:=8192) (i:=0) (q:=[1]) (l:=S.gk) rfl (by omega)
  rwa [List.drop_zero]at this
 have kS:∀e k,aJ BI (rows++[some ⟨.ref,[.sl L8 L.s [0,1] 0 z e]⟩]) k [.sl .ref rows.length [] 0 1 true]=k (.agg (.ar 32 L8) (bs (dU (S.gk.take z)))) (rows++[some ⟨.ref,[.sl L8 L.s [0,1] 0 z e]⟩]):=fun e k=>by
  have:=O2 (rows++[some ⟨.ref,[.sl L8 L.s [0,1] 0 z e]⟩]) k rows.length 1 true [.sl L8 L.s [0,1] 0 z e] [S.gk.take z] (b6 rows _) rfl (.cons (hBs _ e) .nil) (by simp) (by simp;omega)
  simpa using this
 have z0:(0:Int)≤(z:Int):=by omega
 have z1:(z:Int)≤8192:=by omega
 have eq:=JZ (dU (S.gk.take z)) B.kf.dg (dh _) yT
 by_cases c:dU (S.gk.take z)=B.kf.dg
 ·rw[decide_eq_true c]at eq
  obtain⟨C1,r1⟩:=H.to.r
  simp only[↓aj,ak,simprocAttr,aa,aX,nY,hsp,hb,hbA,hq,gm,g3,H.su,kS,z0,z1,Nat.sub_zero,eq,H.to.n,r1]
  refine qV C1 (B:=B) (aA hb0 _) 7 1 ?_
  simp only[↓aj,ak,simprocAttr,aa,aX,hq]
  exact h1 c _ (hF _ _) (Hu _ _)
 ·rw[decide_eq_false c]at eq
  obtain⟨C1,r1,hT⟩:=H.ha.r
  simp only[↓aj,ak,simprocAttr,aa,aX,nY,hsp,hb,hbA,hq,gm,g3,H.su,kS,z0,z1,Nat.sub_zero,eq,H.ha.n,r1]
  refine BZ C1 hT (B:=B) (aA hb0 _) 16 ?_
  simp only[↓aj,ak,simprocAttr,aa,aX,hq]
  exact h0 c _ (hF _ _) (Hu _ _)
def qI(rows:Rows)(d:D)(ls:List (List (BitVec 8))):Prop:=(∃d',view rows 9 d=some d'∧yL d'=some ls)∧(aQ d=false→yL d=some ls)
theorem qI.nil(rows:Rows):qI rows (.raw (.slice none 0 0)) []:=⟨⟨_,rfl,rfl⟩,fun _=>rfl⟩
theorem qI.sl{rows:Rows}{r n:Nat}{ex:Bool}{l:List D}{ls:List (List (BitVec 8))}(hl:live rows r=some ⟨.ref,l⟩)(hn:l.length=n)(hv:aY (fun x y=>bc rows x y) l ls):qI rows (.sl .ref r [] 0 n ex) ls:=by
 obtain⟨l',h1,h2⟩:=pC hv
 have he:elems rows (.sl .ref r [] 0 n ex)=some l:=by simp[elems,hl,←hn]
 have hvw:view rows 9 (.sl .ref r [] 0 n ex)=some (.cF .ref l' ex):=by
  simp only[view,he,hn,beq_self_eq_true,Bool.not_true,cond_false,Sh.pure,h1]
 exact⟨⟨_,hvw,by simpa[yL]using h2⟩,fun h=>by simp[aQ]at h⟩
theorem kDer(rows:Rows)(k:D→Rows→Prop)(d e:D)(key:List (BitVec 8))(lab:ByteArray)(ls:List (List (BitVec 8)))(h:bc rows d key)(h':qI rows e ls)(hp:Gt key lab ls=true):aJ Uj rows k [d,.raw (.string lab),e]=k (.agg (.ar 32 L8) (bs (Ui key lab ls))) rows:=by
 obtain⟨⟨d',je,hb⟩,hn⟩:=h
 obtain⟨⟨e',he',hq⟩,hm⟩:=h'
 have e1:∀a b,dN a=some key→yL b=some ls→Uj [a,.raw (.string lab),b] []=some (aW (Ui key lab ls),[]):=fun a b ha hb=>by
  rw[Uj,yD,ha,hb];simp[rdStr,hp]
 have hsh:shift rows.length (aW (Ui key lab ls))=aW (Ui key lab ls):=by simp[aW,shift,Sh.pure]
 have hno:bZ (aW (Ui key lab ls))=true:=by simp[aW,bZ,Sh.pure]
 unfold aJ
 cases hh:aN [d,.raw (.string lab),e]with
 |true=>
  have hvs:view rows 9 (.raw (.string lab))=some (.raw (.string lab)):=rfl
  simp only[forall_const,cW,je,he',hvs,bd,e1 _ _ hb.rd hq,hno,aS,Bool.and_self,true_and,hsh,ae,List.append_nil]
  simp[aW]
 |false=>
  simp only[aN,Bool.or_eq_false_iff,Bool.or_false]at hh
  simp only[forall_const,bd,e1 _ _ (hn hh.1).rd (hm hh.2.2),hsh,ae,List.append_nil]
  simp[aW]
abbrev KS:=List (Int×List (BitVec 8))
theorem Zc(C C1:be)(hC:SlC C1 C){rows:Rows}{r h:Nat}{key:List (BitVec 8)}{l:KS}(hr:live rows r=some ⟨uI,[fO l]⟩)(hl:l.length=8)(hh:h<8)(hz:(l.getD h (0,[])).1=0){K:D→Rows→Prop}
  (hk:∀ab,(∀q row,live rows q=some row→q≠r→live ab q=some row)→live ab r=some ⟨uI,[fO (l.set h (1,key))]⟩→K (.raw (it 0)) ab):
  aR C 4 iw iv [.ptr uI r [0],.raw (it (h:Int)),.raw (it 1),.agg (.ar 32 L8) (bs key)] rows K:=by
 obtain⟨nm,rm,nw,C0,Rx⟩:=hC
 refine ag rfl ?_
 unfold iv iw
 have e0:((0:Int)≤(h:Int))=True:=eq_true (by omega)
 have e1:((h:Int)<8)=True:=eq_true (by omega)
 have sF:=fun L=>aA hr L
 have Dm:=sB (l:=l) (h:=h) (by omega)
 have hg:l.getD h (0,[])=l[h]'(by omega):=by simp[List.getD,(by omega:h<l.length)]
 rw[hg]at hz
 rw[hz]at Dm
 have EC:=Uv l
 have hst:=GA (l:=l) (h:=h) (by omega) (1,key)
 have hlt:=bn hr
 simp only[↓aj,ak,simprocAttr,aa,aX,nm,rm]
 refine Kv (q:=rows.length+1) C1 C0 (sF _) (by rw[cD];rfl) hl hh nw Rx ?_
 have k0:live (rows++[some ⟨.ar 32 L8,[.agg (.ar 32 L8) (bs key)]⟩,some ⟨LI,[.raw (it (h:Int))]⟩]) rows.length=some ⟨.ar 32 L8,[.agg (.ar 32 L8) (bs key)]⟩:=by rw[b6];rfl
 have cM:kg [fO l] [0,0,h] (.agg SPl [.raw (it 1),.agg (.ar 32 L8) (bs key)])=some [fO (l.set h (1,key))]:=hst
 simp only[↓aj,ak,simprocAttr,aa,aX,sF,Dm,e0,e1,EC,k0,cM]
 refine hk _ ?_ ?_
 ·intro q row hq hne
  rw[aE (Ne.symm hne)]
  exact aA hq _
 ·exact aG (sF _)
theorem Zd(C C1:be){rows:Rows}{r q:Nat}{ex:Bool}{l:KS}(hr:live rows r=some ⟨uI,[fO l]⟩)(hq:live rows q=some ⟨LI,[.raw (it 0),.raw (it 1)]⟩)(hl:l.length=8)
  (nw:C.fn 205=none)(Rx:C.fU 205=some (aR C1 2 cJ cI)){K:D→Rows→Prop}(hk:K (.raw (it 0)) rows):
  aR C 2 eW eV [.ptr uI r [0],.sl LI q [] 0 2 ex] rows K:=by
 refine ag rfl ?_
 unfold eV eW
 have hd:=IQ l
 simp only[↓aj,ak,simprocAttr,aa,aX,hr,hd]
 refine fX 3 ?_
 simp only[↓aj,ak,simprocAttr,aa,aX,hr,hq,hd,lQ,nw,Rx,cI,cJ]
 exact hk
theorem Ze(C C1:be)(hC:SlC C1 C){rows:Rows}{r:Nat}{l:KS}(hr:live rows r=some ⟨uI,[fO l]⟩)(hl:l.length=8){K:D→Rows→Prop}(hk:K (.raw (it (l[0]'(by omega)).1)) (rows++[some ⟨LI,[.raw (it 0)]⟩])):
  aR C 2 gQ gP [.ptr uI r [0],.raw (it 0)] rows K:=by
 obtain⟨nm,rm,nw,C0,Rx⟩:=hC
 refine ag rfl ?_
 unfold gP gQ
 have sF:=fun L=>aA hr L
 have Dm:=sB (l:=l) (h:=0) (by omega)
 simp only[↓aj,ak,simprocAttr,aa,aX,nm,rm]
 refine Kv (q:=rows.length) C1 C0 (h:=0) (sF [some ⟨LI,[.raw (it 0)]⟩]) (b6 rows [some ⟨LI,[.raw (it 0)]⟩]) hl (by omega) nw Rx ?_
 simp only[↓aj,ak,simprocAttr,aa,aX,sF,Dm]
 exact hk
structure WpC (C C1 C2:be):Prop where
 n0:C.fn 199=none
 r0:C.fU 199=some (aR C1 2 gQ gP)
 sl:SlC C2 C1
theorem Zf(C C1 C2:be)(H:WpC C C1 C2){rows:Rows}{r q:Nat}{ex:Bool}{l:KS}(hr:live rows r=some ⟨uI,[fO l]⟩)(hq:live rows q=some ⟨LI,[.raw (it 0)]⟩)(hl:l.length=8)(hn:(l.getD 0 (0,[])).1≠0){K:D→Rows→Prop}
  (hk:∀ab,(∀q row,live rows q=some row→q≠r→live ab q=some row)→live ab r=some ⟨uI,[fO (l.set 0 (0,ug))]⟩→K (.raw (it 1)) ab):
  aR C 2 gM gL [.ptr uI r [0],.sl LI q [] 0 1 ex] rows K:=by
 obtain⟨n0,r0,nm,rm,nw,C0,Rx⟩:=H
 refine ag rfl ?_
 unfold gL gM
 simp only[dW]
 have sF:=fun L=>aA hr L
 have hq':=fun L=>aA hq L
 have Dm:=sB (l:=l) (h:=0) (by omega)
 have hg:l.getD 0 (0,[])=l[0]'(by omega):=by simp[List.getD,(by omega:0<l.length)]
 rw[hg]at hn
 have NZ:((l[0]'(by omega)).1=0)=False:=eq_false hn
 have hst:kg [fO l] [0,0,0] (.agg SPl [.raw (it 0),.agg (.ar 32 L8) (bs ug)])=some [fO (l.set 0 (0,ug))]:=GA (l:=l) (h:=0) (by omega) (0,ug)
 simp only[↓aj,ak,simprocAttr,aa,aX,hr]
 refine fX 2 ?_
 simp only[↓aj,ak,simprocAttr,aa,aX,hr,hq,n0,r0]
 refine Ze C1 C2 ⟨nm,rm,nw,C0,Rx⟩ hr hl ?_
 simp only[↓aj,ak,simprocAttr,aa,aX,sF,hq',Dm,NZ,hst]
 refine hk _ ?_ (aG (sF _))
 intro q row hq hne
 rw[aE (Ne.symm hne)]
 exact aA hq _
structure DeC (C C1 C2:be):Prop where
 sl:SlC C2 C
 k0:C.fn 197=none
 k1:C.fU 197=some (aR C1 2 iy ix)
 sk:∃C3,SlC C3 C1
 de:C.fn 198=some Uj
theorem PR(C C1 C2:be)(H:DeC C C1 C2){rows:Rows}{r:Nat}{l:KS}{lab:ByteArray}{d:D}{ls:List (List (BitVec 8))}(hr:live rows r=some ⟨uI,[fO l]⟩)(hl:l.length=8)(hn:(l.getD 0 (0,[])).1≠0)(hk32:(l.getD 0 (0,[])).2.length=32)(hz:(l.getD 1 (0,[])).1=0)
  (hd:∀ab,Kept rows ab→qI ab d ls)(hpre:Gt (l.getD 0 (0,[])).2 lab ls=true){K:D→Rows→Prop}
  (hk:∀ab p,(∀q row,live rows q=some row→q≠r→live ab q=some row)→live ab r=some ⟨uI,[fO (l.set 1 p)]⟩→K (.raw (it 0)) ab):
  aR C 5 fF fE [.ptr uI r [0],.raw (it 0),.raw (it 1),.raw (.string lab),d] rows K:=by
 obtain⟨⟨nm,rm,nw,C0,Rx⟩,k0,k1,⟨C3,sk⟩,de⟩:=H
 refine ag rfl ?_
 unfold fE fF
 simp only[dW]
 have hr1:=aA hr [some ⟨LI,[.raw (it 0),.raw (it 1)]⟩]
 have IS:Kept rows (rows++[some ⟨LI,[.raw (it 0),.raw (it 1)]⟩]):=Kept.app _ _
 have Dm:=sB (l:=l) (h:=1) (by omega)
 have hg:l.getD 1 (0,[])=l[1]'(by omega):=by simp[List.getD,(by omega:1<l.length)]
 rw[hg]at hz
 rw[hz]at Dm
 simp only[↓aj,ak,simprocAttr,aa,aX,nm,rm]
 refine Zd (q:=rows.length) C2 C0 hr1 (b6 rows [some ⟨LI,[.raw (it 0),.raw (it 1)]⟩]) hl nw Rx ?_
 simp only[↓aj,ak,simprocAttr,aa,aX,k0,k1]
 refine key_run C1 C3 sk (h:=0) hr1 hl (by omega) fun ab hK=>?_
 rw[decide_eq_false hn]
 have YN:=hK _ _ hr1
 have DR:=IS.trans hK
 have hB:bc ab (.sl L8 r [0,0,0,1] 0 32 true) (l.getD 0 (0,[])).2:=by
  have NS:l.getD 0 (0,[])=l[0]'(by omega):=by simp[List.getD,(by omega:0<l.length)]
  refine bc.r9 YN (n:=32) (i:=0) (q:=[0,0,1]) ?_ hk32
  have:=YY (l:=l) (h:=0) (by omega)
  rw[NS]
  exact this
 have kD:=fun k=>kDer ab k _ d _ lab ls hB (hd _ DR) hpre
 have hst:∀p,kg [fO l] [0,0,1] (.agg SPl [.raw (it 2),.agg (.ar 32 L8) (bs p)])=some [fO (l.set 1 (2,p))]:=fun p=>GA (l:=l) (h:=1) (by omega) (2,p)
 simp only[↓aj,ak,simprocAttr,aa,aX,YN,Dm,de,kD,hst]
 refine hk _ _ ?_ (aG YN)
 intro q row hq hne
 rw[aE (Ne.symm hne)]
 exact DR q row hq
noncomputable def RF:Fn:=lE (b8 gY) Rv fun r=>(aW (dU r.flatten),[])
theorem mdig_ok(C:be)(hC:aI C P)(h1:C.fn 195=some Kt)(h2:C.fn 95=some BI):aO C.aZ P 176 (Fn.run RF):=by
 refine aH (yA C hC) fun ds rows r h=>?_
 obtain⟨d,R,rfl,rfl,hd,hp,rfl⟩:=a8 h
 cases aF hd
 refine⟨rfl,ag rfl ?_⟩
 clear h hd
 unfold pj po
 simp only[dW]
 have hf:(gY R).fits SMea=true:=by simp[gY,D.fits]
 have kT:=fun rows k=>kMText rows k R hp
 simp only[↓aj,ak,simprocAttr,aa,aX,hf,h1,kT,h2,gY]
 refine Eq.mpr (O2 _ _ 3 1 true [.sl L8 2 [] 0 128 false] [R.flatten] rfl rfl (.cons (bc.own (l:=R.flatten) rfl _ (Gy hp).symm) .nil) (by simp) (by simp[Gy hp])) ?_
 have hS:[R.flatten].flatten=R.flatten:=by simp
 simp only[↓aj,ak,simprocAttr,aa,aX,hS]
 exact .val _ rfl
theorem kMDig(rows:Rows)(k:D→Rows→Prop)(r:List (List (BitVec 8)))(h:Rv r=true):aJ RF rows k [gY r]=k (.agg (.ar 32 L8) (bs (dU r.flatten))) rows:=by
 refine(cC (IP r rows) h (by simp[aW,bZ,aS,Sh.pure]) k).trans ?_
 simp[shift,ae,aW,Sh.pure]
noncomputable def PS:Fn:=Yt [.raw (it 0)] (.cA [.raw (it 27),.raw (it 0)])
theorem ato_ok(C:be)(hC:aI C P):aO C.aZ P 194 (Fn.run PS):=by
 refine pG (W9 C hC) (ag rfl ?_)
 unfold Mb Mc
 simp only[↓aj,ak,simprocAttr,aa,aX]
 exact .val _ rfl
def Ky(c:pU):List (BitVec 8)×Int:=
 bif c.s then(ug,12)else bif TS (c.w.getD 35 0#32) 1 then(ug,17)else bif TS (c.w.getD 35 0#32) 0 then(jQ ((c.w.drop 27).take 8),0)else(ug,3)
theorem Zg(c:pU)(h:c.ws.length=64):(Ky c).1.length=32:=by
 have h1:c.w.length=64:=by rw[List.length_map,h]
 unfold Ky
 cases c.s<;>cases TS (c.w.getD 35 0#32) 1<;>cases TS (c.w.getD 35 0#32) 0<;>simp only[cond_true,cond_false]<;>first|rfl|(rw[nC,List.length_take,List.length_drop,h1];rfl)
noncomputable def RK:Fn:=wS (b8 qZ) rC (fun c i=>decide (c.ws.length=64)&&decide (i=0)) fun c _=>(.cA [aW (Ky c).1,.raw (it (Ky c).2)],[])
theorem rowc_ok(C:be)(hC:aI C P)(h1:C.fn 76=some Aw)(h2:C.fn 194=some PS)(h3:C.fn 135=some fOn)(h4:C.fn 185=some An):aO C.aZ P 175 (Fn.run RK):=by
 refine aH (FO C hC) fun ds rows r h=>?_
 obtain⟨d,e,c,i,rfl,rfl,hd,he,hp,rfl⟩:=dq h
 cases aF hd
 cases bX he
 simp only[Bool.and_eq_true,decide_eq_true_eq]at hp
 obtain⟨hp,rfl⟩:=hp
 refine⟨rfl,ag rfl ?_⟩
 clear h hd he
 unfold vG vH
 have hm:c.w.length=64:=by rw[List.length_map,hp]
 have kA:=fun rows k=>Ix rows k c hp
 have kT:=fun rows k=>kAt [.raw (it 0)] (.cA [.raw (it 27),.raw (it 0)]) rfl rfl rows k rfl
 have kO0:∀rows k,aJ fOn rows k [.raw (u32 (c.w.getD 35 0#32)),.raw (it 0)]=k (.raw (.bool (TS (c.w.getD 35 0#32) 0))) rows:=fun rows k=>kOn rows k (c.w.getD 35 0#32) 0 (by omega)
 have kO1:∀rows k,aJ fOn rows k [.raw (u32 (c.w.getD 35 0#32)),.raw (it 1)]=k (.raw (.bool (TS (c.w.getD 35 0#32) 1))) rows:=fun rows k=>kOn rows k (c.w.getD 35 0#32) 1 (by omega)
 have nb:Jm (qZ c) (.raw (.pointer none))=some false:=rfl
 have g35:=ku (l:=c.w) (i:=35) (by omega)
 have hdt:((us c.w).drop 27).take 8=us ((c.w.drop 27).take 8):=by rw[QT,QU]
 have kD:=fun rows k=>QI rows k ((c.w.drop 27).take 8) (by rw[List.length_take,List.length_drop,hm];rfl)
 simp only[dW]
 unfold Ky
 simp only[qZ]at kA nb⊢
 cases hs:c.s
 ·rw[hs]at kA nb
  cases ho1:TS (c.w.getD 35 0#32) 1
  ·rw[ho1]at kO1
   cases ho0:TS (c.w.getD 35 0#32) 0
   ·rw[ho0]at kO0
    simp only[↓aj,ak,simprocAttr,aa,aX,h1,h2,h3,h4,kA,PS,kT,nb,kO0,kO1,g35]
    exact .val _ rfl
   ·rw[ho0]at kO0
    simp only[↓aj,ak,simprocAttr,aa,aX,h1,h2,h3,h4,kA,PS,kT,nb,kO0,kO1,g35,hdt,kD]
    exact⟨by simp[us];omega,.val _ rfl⟩
  ·rw[ho1]at kO1
   simp only[↓aj,ak,simprocAttr,aa,aX,h1,h2,h3,h4,kA,PS,kT,nb,kO1,g35]
   exact .val _ rfl
 ·rw[hs]at kA nb
  simp only[↓aj,ak,simprocAttr,aa,aX,h1,h2,h3,h4,kA,PS,kT,nb]
  exact .val _ rfl
theorem kRowC{rows:Rows}{d:D}{c:pU}(h:bT rows (b8 qZ) d c)(hc:c.ws.length=64)(k:D→Rows→Prop):aJ RK rows k [d,.raw (it 0)]=k (.cA [.agg (.ar 32 L8) (bs (Ky c).1),.raw (it (Ky c).2)]) rows:=by
 refine(jB h (bT.int 0) (by simp[hc]) (by simp[aW,bZ,fI,aS,Sh.pure]) k).trans ?_
 simp[shift,bh,ae,aW,Sh.pure]
def GG(a:BitVec 32):D:= .agg Rz [.agg (.ar 32 dk) (us (List.replicate 32 0#32)),.raw (u32 a),.agg (.cons dk (.cons dk (.cons dk (.cons dk (.cons dk (.cons dk (.cons dk (.cons dk .nil)))))))) (us (List.replicate 8 0#32)),.raw (.bool false)]
noncomputable def GH:Fn:=lE qN (fun _=>true) fun a=>(GG a,[])
theorem Zh(C:be)(hC:aI C P):aO C.aZ P 66 (Fn.run GH):=by
 refine aH (OC C hC) fun ds rows r h=>?_
 obtain⟨d,a,rfl,rfl,hd,hp,rfl⟩:=a8 h
 cases dL hd
 refine⟨rfl,ag rfl ?_⟩
 clear h hd
 unfold Fm Fo
 simp only[↓aj,ak,simprocAttr,aa,aX]
 exact .val _ rfl
theorem Zi(rows:Rows)(k:D→Rows→Prop)(a:BitVec 32):aJ GH rows k [.raw (u32 a)]=k (GG a) rows:=by
 refine(bi rfl (ei (fK a) rfl)).trans ?_
 simp[GG,shift,ae,Sh.pure]
def Ly.all(L:Ly)(b:Nat):List Nat:=[b,L.M,L.s,L.m,L.e,L.sl,L.q,L.w]
noncomputable def RL:aB:=j5 (j5 (j5 (j5 bk)))
noncomputable def locB:aB:=tD RL
noncomputable def locC:aB:=j5 RL
theorem UB:bk= .seq (tD bk) (.seq (tD (j5 bk)) (.seq (tD (j5 (j5 bk))) (.seq (tD (j5 (j5 (j5 bk)))) (.seq locB locC)))):=rfl
def enD(L:Ly)(m k n:D):D:= .agg ND [.ptr uI L.sl [0],m,k,n]
structure DS (rows:Rows) (L:Ly) (R:List (List (BitVec 8))) (l:KS):Prop where
 e:∃k n,live rows L.e=some ⟨ND,[enD L (gY R) k n]⟩
 s:live rows L.sl=some ⟨uI,[fO l]⟩
 hr:Rv R=true
 hl:l.length=8
theorem DS.keep{rows ab:Rows}{L:Ly}{R:List (List (BitVec 8))}{l:KS}(h:DS rows L R l)(f:∀q row,live rows q=some row→q=L.e∨q=L.sl→live ab q=some row):DS ab L R l:=by
 obtain⟨⟨k,n,h1⟩,h2,h3,h4⟩:=h
 exact⟨⟨k,n,f _ _ h1 (.inl rfl)⟩,f _ _ h2 (.inr rfl),h3,h4⟩
theorem fB.off{rows ab:Rows}{L:Ly}{S:wM}{r:Nat}{y:Row}(h:fB rows L S)(hy:live rows r=some y)(hs:y.sh=uI∨y.sh=ND)(f:∀q row,live rows q=some row→q≠r→live ab q=some row):fB ab L S:=by
 refine h.keep fun q row hq hm=>f q row hq fun hn=>?_
 subst hn
 obtain⟨⟨co,p,h1⟩,⟨pt,h2⟩,h3,⟨⟨ex,h4⟩,h5⟩,h6,h7⟩:=h
 have h8:=h7.ch
 have h9:=h7.ar
 have h10:=h7.dat
 simp only[Ly.ids,List.mem_cons,List.not_mem_nil,or_false]at hm
 rcases hs with hs|hs<;>rcases hm with rfl|rfl|rfl|rfl|rfl|rfl|rfl<;>simp_all
theorem fB.sealA{rows ab:Rows}{L:Ly}{S:wM}{c':pU}(h:fB rows L S)(hc:sv ab L.q L.a L.w c')(f:∀p row,live rows p=some row→p≠L.q→p≠L.w→live ab p=some row):fB ab L {S with c:=c'}:=by
 obtain⟨⟨co,p,h1⟩,⟨pt,h2⟩,h3,⟨⟨ex,h4⟩,h5⟩,h6,h7⟩:=h
 have h8:=h7.ch
 have h9:=h7.ar
 have h10:=h7.dat
 have k:∀{q row},live rows q=some row→row.sh≠Pf→row.sh≠AX→live ab q=some row:=fun{q row} hq hn NZ=>f q row hq (fun e=>hn (by rw[e,h8]at hq;injection hq with hq;rw[←hq])) (fun e=>NZ (by rw[e,h10]at hq;injection hq with hq;rw[←hq]))
 exact⟨⟨co,p,k h1 (by intro h;cases h) (by intro h;cases h)⟩,⟨pt,k h2 (by intro h;cases h) (by intro h;cases h)⟩,h3,⟨⟨ex,k h4 (by intro h;cases h) (by intro h;cases h)⟩,k h5 (by intro h;cases h) (by intro h;cases h)⟩,h6,hc⟩
theorem fB.stg{rows:Rows}{L:Ly}{S:wM}{pt:D}(h:fB rows L S)(st:Int):fB (rows.set L.s (some ⟨lC,[uH st S.gk pt L.f L.q]⟩)) L {S with st:=st}:=by
 obtain⟨⟨co,p,h1⟩,⟨pt0,UX⟩,h3,⟨⟨ex,h4⟩,h5⟩,h6,h7⟩:=h
 have h8:=h7.ch
 have h9:=h7.ar
 have h10:=h7.dat
 have k:∀{q row},live rows q=some row→row.sh≠lC→live (rows.set L.s (some ⟨lC,[uH st S.gk pt L.f L.q]⟩)) q=some row:=fun{q row} hq hn=>by
  rw[aE fun e=>hn (by rw[←e,UX]at hq;injection hq with hq;rw[←hq])];exact hq
 exact⟨⟨co,p,k h1 (by intro h;cases h)⟩,⟨pt,aG UX⟩,h3,⟨⟨ex,k h4 (by intro h;cases h)⟩,k h5 (by intro h;cases h)⟩,h6,h7.keep fun p row hp hq=>k hp (by rcases hq with rfl|rfl|rfl<;>(intro h;simp_all))⟩
theorem fB.cor{rows:Rows}{L:Ly}{S:wM}{c p:D}(h:fB rows L S):fB (rows.set L.M (some ⟨jb,[NE L c p]⟩)) L S:=by
 obtain⟨⟨co,p0,h1⟩,⟨pt0,UX⟩,h3,⟨⟨ex,h4⟩,h5⟩,h6,h7⟩:=h
 have h8:=h7.ch
 have h9:=h7.ar
 have h10:=h7.dat
 have k:∀{q row},live rows q=some row→row.sh≠jb→live (rows.set L.M (some ⟨jb,[NE L c p]⟩)) q=some row:=fun{q row} hq hn=>by
  rw[aE fun e=>hn (by rw[←e,h1]at hq;injection hq with hq;rw[←hq])];exact hq
 exact⟨⟨c,p,aG h1⟩,⟨pt0,k UX (by intro h;cases h)⟩,h3,⟨⟨ex,k h4 (by intro h;cases h)⟩,k h5 (by intro h;cases h)⟩,h6,h7.keep fun p row hp hq=>k hp (by rcases hq with rfl|rfl|rfl<;>(intro h;simp_all))⟩
structure LocC (C:be):Prop where
 to:ToC C
 l0:C.fn 180=none
 l1:∃C1,C.fU 180=some (aR C1 1 gO gN)
 s0:C.fn 181=none
 s1:∃C1 C2,C.fU 181=some (aR C1 1 iN iM)∧C2.fn 189=some qF∧C1.fn 200=none∧C1.fU 200=some (aR C2 2 fy fx)
 ba:C.fn 170=some vU
 co:C.fn 66=some GH
def Zj(l:KS):D:= .agg uI [.agg (.ar 8 SPl) (l.map plD),.raw (.bool true),.raw (.bool false)]
theorem slk_run(C:be){rows:Rows}{r:Nat}{l:KS}(hr:live rows r=some ⟨uI,[fO l]⟩){K:D→Rows→Prop}(hk:K (.cA []) (rows.set r (some ⟨uI,[Zj l]⟩))):aR C 1 gO gN [.ptr uI r [0]] rows K:=by
 refine ag rfl ?_
 unfold gN gO
 have EC:kg [fO l] [0,1] (.raw (.bool true))=some [Zj l]:=rfl
 simp only[↓aj,ak,simprocAttr,aa,aX,hr,EC]
 exact hk
theorem lockC(C:be)(H:LocC C){env:Env}{rows:Rows}{L:Ly}{S:wM}{b:Nat}{B:Bt}(hh:has env [(0,.ptr jM b [0]),(1,.ptr jb L.M [0]),(6,.ptr ND L.e [0])])(hM:fB rows L S)(hb:cz rows b B)(hE:∃m k n l,live rows L.e=some ⟨ND,[enD L m k n]⟩∧live rows L.sl=some ⟨uI,[fO l]⟩){K:D→Rows→Prop}
  (hk:∀ab c',c'.w=S.c.w→Fr (L.all b) rows ab→fB ab L {S with st:=1,c:=c'}→cz ab b {B with ph:=8,left:=0}→K (.cA []) ab):aw C locC (Jo [] K) env rows:=by
 simp only[has]at hh
 obtain⟨Cb,DL,UC,-⟩:=hh
 obtain⟨m,k,n,l,he,hs⟩:=hE
 obtain⟨C1,r1⟩:=H.l1
 obtain⟨C2,C3,r2,hTh,Vx,hL1⟩:=H.s1
 obtain⟨C4,r4⟩:=H.to.r
 have IR:=hM
 have hb0:=hb
 obtain⟨⟨co,pp,nY⟩,⟨pt,hsp⟩,Ax,lz,yR,CY⟩:=hM
 simp only[NE]at nY
 simp only[uH]at hsp
 simp only[enD]at he
 simp only[cz,jF]at hb
 have mH:∀X q row,live rows q=some row→q≠L.sl→live (rows.set L.sl X) q=some row:=fun X q row hq hn=>by rw[aE (Ne.symm hn)];exact hq
 have bS:=fun X=>mH X b _ hb (fH hb hs (by intro h;cases h))
 have mS:=fun X=>mH X L.M _ nY (fH nY hs (by intro h;cases h))
 have sS:=fun X=>mH X L.s _ hsp (fH hsp hs (by intro h;cases h))
 have hM1:=fun X=>IR.off hs (.inl rfl) (mH X)
 unfold locC RL
 simp only[bk,j5,↓aj,ak,simprocAttr,aa,aX,Cb,DL,UC,he,nY,hsp,H.l0,r1]
 refine slk_run C1 hs ?_
 simp only[Cb,DL,UC,↓aj,ak,simprocAttr,aa,aX,mS,sS,H.s0,r2]
 refine Ya C2 C3 hTh Vx hL1 (hM1 _).ch fun R c' hC' hw hF=>?_
 have Zb:=(hM1 _).sealA hC' hF
 have hch1:=(hM1 (some ⟨uI,[Zj l]⟩)).ch
 have h8:=hch1.ch
 have h10:=hch1.dat
 have bR:=hF _ _ (bS _) (fH (bS _) h8 (by intro h;cases h)) (fH (bS _) h10 (by intro h;cases h))
 have mR:=hF _ _ (mS _) (fH (mS _) h8 (by intro h;cases h)) (fH (mS _) h10 (by intro h;cases h))
 have sR:=hF _ _ (sS _) (fH (sS _) h8 (by intro h;cases h)) (fH (sS _) h10 (by intro h;cases h))
 have kB:=fun rows k=>kAt [.raw (it 1)] (.cA [.raw (u32 536870912#32),.raw (it 4096)]) rfl rfl rows k rfl
 have gm:(cO B.kf).get [2]=some (.raw (it B.kf.e)):=rfl
 have nMs:L.M≠L.s:=fH mR sR (by intro h;cases h)
 have nbs:b≠L.s:=fH bR sR (by intro h;cases h)
 have nbM:b≠L.M:=fH bR mR (by intro h;cases h)
 have mR':∀X,live (R.set L.s X) L.M=_:=fun X=>(aE (Ne.symm nMs)).trans mR
 have bR':∀X,live (R.set L.s X) b=_:=fun X=>(aE (Ne.symm nbs)).trans bR
 have cf:∀a,(GG a).fits Rz=true:=fun _=>rfl
 simp only[Cb,DL,UC,↓aj,ak,simprocAttr,aa,aX,H.ba,vU,kB,bR,mR,sR,bR',mR',gm,H.co,Zi,cf,H.to.n,r4]
 have hbb:=(aE (x:=some ⟨jb,[NE L (GG (536870912#32+BitVec.ofInt 32 B.kf.e)) pp]⟩) (Ne.symm nbM)).trans (bR' (some ⟨lC,[uH 1 S.gk pt L.f L.q]⟩))
 have hM4:=((Zb.stg (pt:=pt) 1).cor (c:=GG (536870912#32+BitVec.ofInt 32 B.kf.e)) (p:=pp))
 refine qV C4 (B:=B) hbb 8 0 ?_
 simp only[↓aj,ak,simprocAttr,aa]
 refine hk _ c' hw (fun q row hq hn=>?_) (hM4.fr (B:=B) hbb ((Fr.refl _ _).set (by simp) _)) (aG hbb)
 simp only[Ly.all,List.mem_cons,List.not_mem_nil,or_false,not_or]at hn
 obtain⟨n1,n2,n3,n4,n5,n6,n7,n8⟩:=hn
 rw[aE (Ne.symm n1),aE (Ne.symm n2),aE (Ne.symm n3)]
 exact hF _ _ (mH _ q row hq n6) n7 n8
structure LobC (C:be):Prop where
 ro:C.fn 175=some RK
 di:C.fn 176=some RF
 l0:C.fn 177=none
 l1:∃C1 C2,C.fU 177=some (aR C1 4 iw iv)∧SlC C2 C1
 d0:C.fn 178=none
 d1:∃C1 C2 C3,C.fU 178=some (aR C1 5 fF fE)∧DeC C1 C2 C3
 w0:C.fn 179=none
 w1:∃C1 C2 C3,C.fU 179=some (aR C1 2 gM gL)∧WpC C1 C2 C3
theorem lockB(C:be)(H:LobC C){env:Env}{rows:Rows}{L:Ly}{S:wM}{b ql:Nat}{ex:Bool}{B:Bt}{R:List (List (BitVec 8))}{l:KS}{x:BitVec 8}(hh:has env [(0,.ptr jM b [0]),(1,.ptr jb L.M [0]),(6,.ptr ND L.e [0]),(7,.sl L8 ql [] 0 1 ex)])(hM:fB rows L S)(hb:cz rows b B)(hE:DS rows L R l)
  (hql:live rows ql=some ⟨L8,bs [x]⟩)(Dq:(l.getD 0 (0,[])).1=0)(wx:(l.getD 1 (0,[])).1=0){Q:fa→Env→Rows→Prop}
  (hk:∀env' ab,has env' [(0,.ptr jM b [0]),(1,.ptr jb L.M [0]),(6,.ptr ND L.e [0])]→Fr [L.sl] rows ab→(∃l',live ab L.sl=some ⟨uI,[fO l']⟩)→Q .normal env' ab):aw C locB Q env rows:=by
 simp only[has]at hh
 obtain⟨Cb,DL,UC,hh7,-⟩:=hh
 obtain⟨⟨k,n,he⟩,hs,hR,hl⟩:=hE
 obtain⟨C1,C2,r1,hSl⟩:=H.l1
 obtain⟨C3,C4,C5,r2,hDe⟩:=H.d1
 obtain⟨C6,C7,C8,r3,hWp⟩:=H.w1
 have IR:=hM
 have hb0:=hb
 obtain⟨⟨co,pp,nY⟩,⟨pt,hsp⟩,Ax,lz,yR,CY⟩:=hM
 simp only[NE]at nY
 simp only[uH]at hsp
 simp only[enD]at he
 simp only[cz,jF]at hb
 have heA:=fun L'=>aA he L'
 have Za:=fun L'=>aA nY L'
 have hspA:=fun L'=>aA hsp L'
 unfold locB RL
 by_cases c3:B.iI=3
 ·have PC:(B.iI=3)=True:=eq_true c3
  simp only[bk,j5,tD,↓aj,ak,simprocAttr,aa,aX,Cb,DL,UC,hb,PC]
  exact hk _ _ (by simp only[has,↓aj,ak,simprocAttr,aa,Cb,DL,UC]) (Fr.refl _ _) ⟨l,hs⟩
 ·have PC:(B.iI=3)=False:=eq_false c3
  have kRo:=fun k=>kRowC (CY.rd) CY.len k
  have kDi:=fun rows k=>kMDig rows k R hR
  have Nz:=Zg S.c CY.len
  have jO:=bn hs
  have nes:L.e≠L.sl:=fH he hs (by intro h;cases h)
  have nqs:ql≠L.sl:=fH hql hs (by intro h;cases h)
  simp only[dW,bk,j5,tD,↓aj,ak,simprocAttr,aa,aX,Cb,DL,UC,he,heA,Za,hspA,hb,nY,hsp,PC,H.ro,kRo,H.di,kDi,H.l0,r1]
  have w12:=cD rows [some ⟨.ar 32 L8,[.agg (.ar 32 L8) (bs (Ky S.c).1)]⟩,some ⟨.ar 32 L8,[.agg (.ar 32 L8) (bs (dU R.flatten))]⟩] 1
  generalize hkey:(Ky S.c).1=key at*
  refine Zc C1 C2 hSl (h:=0) (aA hs _) hl (by omega) Dq fun R2 DR tJ=>?_
  have e2:=DR _ _ (heA _) nes
  have q2:=DR _ _ (aA hql _) nqs
  have a2:=DR _ _ w12 (by omega)
  simp only[Cb,DL,UC,hh7,↓aj,ak,simprocAttr,aa,aX,e2,a2,H.d0,r2]
  have g0:(l.set 0 (1,key)).getD 0 (0,[])=(1,key):=by rw[List.getD_eq_getElem?_getD,List.getElem?_set_self (by omega)];rfl
  have g1:(l.set 0 (1,key)).getD 1 (0,[])=l.getD 1 (0,[]):=by rw[List.getD_eq_getElem?_getD,List.getElem?_set_ne (by decide),←List.getD_eq_getElem?_getD]
  have hK2:∀ab,Kept (R2++[some ⟨.ref,[.sl L8 (rows.length+1) [0] 0 32 true,.sl L8 ql [] 0 1 ex]⟩]) ab→qI ab (.sl .ref R2.length [] 0 2 true) [dU R.flatten,[x]]:=fun ab hK=>
   qI.sl (hK _ _ (b6 R2 _)) rfl (.cons (bc.r9 (n:=32) (i:=0) (q:=[]) (hK _ _ (aA a2 _)) rfl (dh _)) (.cons (bc.own (hK _ _ (aA q2 _)) _ rfl) .nil))
  refine PR C3 C4 C5 hDe (l:=l.set 0 (1,key)) (ls:=[dU R.flatten,[x]]) (aA tJ _) (by rw[List.length_set];exact hl) (by rw[g0];exact Int.one_ne_zero) (by rw[g0];exact Nz) (by rw[g1];exact wx) hK2 (by rw[g0];simp[Gt,Nz,dh];decide) fun R3 p Zk Z0=>?_
  have e3:=Zk _ _ (aA e2 _) nes
  have hs4:=aA Z0 [some ⟨LI,[.raw (it 0)]⟩]
  have g2:((l.set 0 (1,key)).set 1 p).getD 0 (0,[])=(1,key):=by rw[List.getD_eq_getElem?_getD,List.getElem?_set_ne (by decide),←List.getD_eq_getElem?_getD,g0]
  simp only[Cb,DL,UC,hh7,↓aj,ak,simprocAttr,aa,aX,e3,H.w0,r3]
  refine Zf C6 C7 C8 hWp hs4 (b6 R3 [some ⟨LI,[.raw (it 0)]⟩]) (by rw[List.length_set,List.length_set];exact hl) (by rw[g2];exact Int.one_ne_zero) fun R4 hF4 hs5=>?_
  simp only[Cb,DL,UC,hh7,↓aj,ak,simprocAttr,aa,aX]
  refine hk _ _ (by simp only[has,↓aj,ak,simprocAttr,aa,Cb,DL,UC]) (fun q row hq hn=>?_) ⟨_,hs5⟩
  have hn:q≠L.sl:=fun e=>hn (by simp[e])
  exact hF4 _ _ (aA (Zk _ _ (aA (DR _ _ (aA hq _) hn) _) hn) _) hn
structure LoaC (C:be):Prop where
 bo:C.fn 31=some tB
 ex:C.fn 174=some AO
 b:LobC C
 c:LocC C
set_option maxHeartbeats 1000000 in
theorem PT(C:be)(H:LoaC C){rows:Rows}{L:Ly}{S:wM}{b:Nat}{B:Bt}{R:List (List (BitVec 8))}{l:KS}(hM:fB rows L S)(hb:cz rows b B)(hE:DS rows L R l)(Dq:(l.getD 0 (0,[])).1=0)(wx:(l.getD 1 (0,[])).1=0)(hr:cL B.kf=true)(yT:B.kf.dg.length=32){K:D→Rows→Prop}
  (hk:∀ab c',c'.w=S.c.w→Fr (L.all b) rows ab→fB ab L {S with st:=1,c:=c'}→cz ab b {B with ph:=8,left:=0}→K (.cA []) ab):
  aR C 2 dS bk [.ptr jM b [0],.ptr jb L.M [0]] rows K:=by
 refine ag rfl ?_
 rw[UB]
 have IR:=hM
 have hb0:=hb
 have hE0:=hE
 obtain⟨⟨k,n,he⟩,hs,hR,hl⟩:=hE
 obtain⟨⟨co,pp,nY⟩,⟨pt,hsp⟩,Ax,lz,yR,CY⟩:=hM
 simp only[NE]at nY
 simp only[enD]at he
 simp only[cz,jF]at hb
 have heA:=fun L'=>aA he L'
 have Za:=fun L'=>aA nY L'
 have hbA:=fun L'=>aA hb L'
 have kB:=fun rows k=>Py rows k B.kf yT hr
 have gm:(cO B.kf).get [3]=some (.agg (.ar 32 L8) (bs B.kf.dg)):=rfl
 have mf:=fA B.kf
 simp only[bk,j5,tD,dS,↓aj,ak,simprocAttr,aa,aX,he,heA,Za,hb,hbA,nY,mf,gm,H.bo,kB]
 have hlf:[D.raw (u8 (BitVec.ofInt 8 B.iI))]=bs [BitVec.ofInt 8 B.iI]:=rfl
 have hF0:=Fr.app [L.e] rows [some ⟨L8,bs (cB B.kf)⟩,some ⟨L8,[D.raw (u8 (BitVec.ofInt 8 B.iI))]⟩,some ⟨.ref,[.sl L8 rows.length [] 0 48 false,.sl L8 b [0,2,3] 0 32 true,.sl L8 (rows.length+1) [] 0 1 true]⟩]
 have r0:=b6 rows [some ⟨L8,bs (cB B.kf)⟩,some ⟨L8,[D.raw (u8 (BitVec.ofInt 8 B.iI))]⟩,some ⟨.ref,[.sl L8 rows.length [] 0 48 false,.sl L8 b [0,2,3] 0 32 true,.sl L8 (rows.length+1) [] 0 1 true]⟩]
 have r1:=cD rows [some ⟨L8,bs (cB B.kf)⟩,some ⟨L8,[D.raw (u8 (BitVec.ofInt 8 B.iI))]⟩,some ⟨.ref,[.sl L8 rows.length [] 0 48 false,.sl L8 b [0,2,3] 0 32 true,.sl L8 (rows.length+1) [] 0 1 true]⟩] 1
 have r2:=cD rows [some ⟨L8,bs (cB B.kf)⟩,some ⟨L8,[D.raw (u8 (BitVec.ofInt 8 B.iI))]⟩,some ⟨.ref,[.sl L8 rows.length [] 0 48 false,.sl L8 b [0,2,3] 0 32 true,.sl L8 (rows.length+1) [] 0 1 true]⟩] 2
 have he0:=heA [some ⟨L8,bs (cB B.kf)⟩,some ⟨L8,[D.raw (u8 (BitVec.ofInt 8 B.iI))]⟩,some ⟨.ref,[.sl L8 rows.length [] 0 48 false,.sl L8 b [0,2,3] 0 32 true,.sl L8 (rows.length+1) [] 0 1 true]⟩]
 have pR:=hbA [some ⟨L8,bs (cB B.kf)⟩,some ⟨L8,[D.raw (u8 (BitVec.ofInt 8 B.iI))]⟩,some ⟨.ref,[.sl L8 rows.length [] 0 48 false,.sl L8 b [0,2,3] 0 32 true,.sl L8 (rows.length+1) [] 0 1 true]⟩]
 have hel:=bn he
 have nbe:b≠L.e:=fH hb he (by intro h;cases h)
 have Ow:(cB B.kf).length=48:=pH _ yT
 generalize rows++[some ⟨L8,bs (cB B.kf)⟩,some ⟨L8,[D.raw (u8 (BitVec.ofInt 8 B.iI))]⟩,some ⟨.ref,[.sl L8 rows.length [] 0 48 false,.sl L8 b [0,2,3] 0 32 true,.sl L8 (rows.length+1) [] 0 1 true]⟩]=R0 at*
 have hp:∀i:Nat,i<3→∃d p,[D.sl L8 rows.length [] 0 48 false,.sl L8 b [0,2,3] 0 32 true,.sl L8 (rows.length+1) [] 0 1 true][i]?=some d∧d.fits .ref=true∧p.length≤1000∧∀rs,Fr [L.e] R0 rs→∀more,bc (rs++more) d p:=by
  intro i hi
  have k:∀{q row rs},live R0 q=some row→q≠L.e→Fr [L.e] R0 rs→live rs q=some row:=fun hq hn hf=>hf _ _ hq (by simpa using hn)
  match i,hi with
  |0,_=>exact⟨_,cB B.kf,rfl,rfl,by omega,fun rs hf more=>bc.own (aA (k r0 (by omega) hf) more) _ Ow.symm⟩
  |1,_=>exact⟨_,B.kf.dg,rfl,rfl,by omega,fun rs hf more=>bc.r9 (n:=32) (i:=0) (q:=[2,3]) (aA (k pR nbe hf) more) rfl yT⟩
  |2,_=>exact⟨_,[BitVec.ofInt 8 B.iI],rfl,rfl,by simp,fun rs hf more=>bc.own (aA (k r1 (by omega) hf) more) _ rfl⟩
 refine bB 3 (fun j env rs=>has env [(42,.raw (it (j:Int))),(41,.raw (it 3)),(40,.sl .ref (rows.length+2) [] 0 3 true),(0,.ptr jM b [0]),(1,.ptr jb L.M [0]),(6,.ptr ND L.e [0]),(7,.sl L8 (rows.length+1) [] 0 1 true)]∧Fr [L.e] R0 rs∧∃R' k' n',Rv R'=true∧live rs L.e=some ⟨ND,[.agg ND [.ptr uI L.sl [0],gY R',k',n']]⟩) ?_ ?_ ⟨?_,Fr.refl _ _,R,k,n,hR,he0⟩
 ·rintro j hj env rs ⟨hh,hF,R',k',n',Qg,he'⟩ Q hQ
  simp only[has]at hh
  obtain⟨d,p,hd,hdf,sO,hpb⟩:=hp j hj
  have e0:((j:Int)<3)=True:=eq_true (by omega)
  have e1:=cE j (by omega)
  have q2:=hF _ _ r2 (by simp;omega)
  have kX:∀k,aJ AO (rs++[some ⟨.ref,[d]⟩]) k [gY R',.raw (it (j:Int)),.sl .ref rs.length [] 0 1 true]=_:=fun k=>kExtend (rs++[some ⟨.ref,[d]⟩]) k R' j rs.length 1 true [d] [p] Qg (b6 rs _) rfl (.cons (hpb _ hF _) .nil) (by simp) (by simp;omega)
  have hq:=wL he'
  have heA':=fun L'=>aA he' L'
  have mfit:(gY (Ku R' j [p].flatten)).fits SMea=true:=rfl
  simp only[↓aj,ak,simprocAttr,aa,aX,hh,e0,q2,hd,hdf,he',heA',hq,H.ex,kX,e1,mfit]
  exact⟨Int.natCast_nonneg j,hQ _ _ ⟨by simp only[has,↓aj,ak,simprocAttr,aa,hh],hF.trans (((Fr.refl _ _).set (List.mem_singleton_self _) _).trans (Fr.app _ _ _)),_,k',n',extR_ok Qg _ _,hq.2.2.1 _ _⟩⟩
 ·rintro env rs ⟨hh,hF,R',k',n',Qg,he'⟩ Q
  simp only[has]at hh
  have fe:∀q row,live rows q=some row→q≠L.e→live rs q=some row:=fun q row hq hn=>hF _ _ (hF0 _ _ hq (by simpa using hn)) (by simpa using hn)
  have nse:L.sl≠L.e:=fH hs he (by intro h;cases h)
  have Zb:=IR.off he (.inr rfl) fe
  have HI:cz rs b B:=fe _ _ hb0 nbe
  have tJ:=fe _ _ hs nse
  have hlf2:=hF _ _ r1 (by simp;omega)
  simp only[↓aj,ak,simprocAttr,aa,aX,hh]
  refine lockB C H.b (ex:=true) (ql:=rows.length+1) (by simp only[has,↓aj,ak,simprocAttr,aa,hh]) Zb HI ⟨⟨k',n',he'⟩,tJ,Qg,hl⟩ hlf2 Dq wx fun env' ab UD Ve ⟨l',fD⟩=>?_
  have fs:∀q row,live rs q=some row→q≠L.sl→live ab q=some row:=fun q row hq hn=>Ve _ _ hq (by simpa using hn)
  have nbs:b≠L.sl:=fH hb hs (by intro h;cases h)
  refine lockC C H.c UD (Zb.off tJ (.inl rfl) fs) (fs _ _ HI nbs) ⟨_,k',n',l',fs _ _ he' (Ne.symm nse),fD⟩ fun lg c' hw Zk hM3 hB3=>hk lg c' hw (fun q row hq hn=>?_) hM3 hB3
  have NZ:=hn
  simp only[Ly.all,List.mem_cons,List.not_mem_nil,or_false,not_or]at NZ
  obtain⟨n1,n2,n3,n4,n5,n6,n7,n8⟩:=NZ
  exact Zk _ _ (fs _ _ (fe _ _ hq n5) n6) hn
 ·simp only[has,↓aj,ak,simprocAttr,aa]
end iC
end Go.Am

import Derived.Test.YtgcejocgnfkciaaGreatDoorKc26
namespace Go.Am
set_option linter.unusedSimpArgs false
set_option linter.unusedVariables false
attribute [local congr] cd bt cg bu bw bO bg bx bz bP a7 bQ bA b9
namespace iC
open Go.Am.F
set_option maxRecDepth 10000
def Ly.all(L:Ly)(b:Nat):List Nat:=[b,L.M,L.s,L.m,L.e,L.sl,L.q,L.w]
noncomputable def RL:aB:=j5 (j5 (j5 (j5 bk)))
noncomputable def locB:aB:=tD RL
noncomputable def locC:aB:=j5 RL
theorem UB:bk= .seq (tD bk) (.seq (tD (j5 bk)) (.seq (tD (j5 (j5 bk))) (.seq (tD (j5 (j5 (j5 bk)))) (.seq locB locC)))):=rfl
def enD(L:Ly)(m k n:D):D:= .agg ND [.ptr uI L.sl [0],m,k,n]
structure DS (rows:Rows) (L:Ly) (R:List (List (BitVec 8))) (l:KS):Prop where
 e:∃k n,live rows L.e=some ⟨ND,[enD L (gY R) k n]⟩
 s:live rows L.sl=some ⟨uI,[fO l]⟩
 hr:Rv R=true
 hl:l.length=8
theorem DS.keep{rows ab:Rows}{L:Ly}{R:List (List (BitVec 8))}{l:KS}(h:DS rows L R l)(f:∀q row,live rows q=some row→q=L.e∨q=L.sl→live ab q=some row):DS ab L R l:=by
 obtain⟨⟨k,n,h1⟩,h2,h3,h4⟩:=h
 exact⟨⟨k,n,f _ _ h1 (.inl rfl)⟩,f _ _ h2 (.inr rfl),h3,h4⟩
theorem fB.off{rows ab:Rows}{L:Ly}{S:wM}{r:Nat}{y:Row}(h:fB rows L S)(hy:live rows r=some y)(hs:y.sh=uI∨y.sh=ND)(f:∀q row,live rows q=some row→q≠r→live ab q=some row):fB ab L S:=by
 refine h.keep fun q row hq hm=>f q row hq fun hn=>?_
 subst hn
 obtain⟨⟨co,p,h1⟩,⟨pt,h2⟩,h3,⟨⟨ex,h4⟩,h5⟩,h6,h7⟩:=h
 have h8:=h7.ch
 have h9:=h7.ar
 have h10:=h7.dat
 simp only[Ly.ids,List.mem_cons,List.not_mem_nil,or_false]at hm
 rcases hs with hs|hs<;>rcases hm with rfl|rfl|rfl|rfl|rfl|rfl|rfl<;>simp_all
theorem fB.sealA{rows ab:Rows}{L:Ly}{S:wM}{c':pU}(h:fB rows L S)(hc:sv ab L.q L.a L.w c')(f:∀p row,live rows p=some row→p≠L.q→p≠L.w→live ab p=some row):fB ab L {S with c:=c'}:=by
 obtain⟨⟨co,p,h1⟩,⟨pt,h2⟩,h3,⟨⟨ex,h4⟩,h5⟩,h6,h7⟩:=h
 have h8:=h7.ch
 have h9:=h7.ar
 have h10:=h7.dat
 have k:∀{q row},live rows q=some row→row.sh≠Pf→row.sh≠AX→live ab q=some row:=fun{q row} hq hn NZ=>f q row hq (fun e=>hn (by rw[e,h8]at hq;injection hq with hq;rw[←hq])) (fun e=>NZ (by rw[e,h10]at hq;injection hq with hq;rw[←hq]))
 exact⟨⟨co,p,k h1 (by intro h;cases h) (by intro h;cases h)⟩,⟨pt,k h2 (by intro h;cases h) (by intro h;cases h)⟩,h3,⟨⟨ex,k h4 (by intro h;cases h) (by intro h;cases h)⟩,k h5 (by intro h;cases h) (by intro h;cases h)⟩,h6,hc⟩
theorem fB.stg{rows:Rows}{L:Ly}{S:wM}{pt:D}(h:fB rows L S)(st:Int):fB (rows.set L.s (some ⟨lC,[uH st S.gk pt L.f L.q]⟩)) L {S with st:=st}:=by
 obtain⟨⟨co,p,h1⟩,⟨pt0,UX⟩,h3,⟨⟨ex,h4⟩,h5⟩,h6,h7⟩:=h
 have h8:=h7.ch
 have h9:=h7.ar
 have h10:=h7.dat
 have k:∀{q row},live rows q=some row→row.sh≠lC→live (rows.set L.s (some ⟨lC,[uH st S.gk pt L.f L.q]⟩)) q=some row:=fun{q row} hq hn=>by
  rw[aE fun e=>hn (by rw[←e,UX]at hq;injection hq with hq;rw[←hq])];exact hq
 exact⟨⟨co,p,k h1 (by intro h;cases h)⟩,⟨pt,aG UX⟩,h3,⟨⟨ex,k h4 (by intro h;cases h)⟩,k h5 (by intro h;cases h)⟩,h6,h7.keep fun p row hp hq=>k hp (by rcases hq with rfl|rfl|rfl<;>(intro h;simp_all))⟩
theorem fB.cor{rows:Rows}{L:Ly}{S:wM}{c p:D}(h:fB rows L S):fB (rows.set L.M (some ⟨jb,[NE L c p]⟩)) L S:=by
 obtain⟨⟨co,p0,h1⟩,⟨pt0,UX⟩,h3,⟨⟨ex,h4⟩,h5⟩,h6,h7⟩:=h
 have h8:=h7.ch
 have h9:=h7.ar
 have h10:=h7.dat
 have k:∀{q row},live rows q=some row→row.sh≠jb→live (rows.set L.M (some ⟨jb,[NE L c p]⟩)) q=some row:=fun{q row} hq hn=>by
  rw[aE fun e=>hn (by rw[←e,h1]at hq;injection hq with hq;rw[←hq])];exact hq
 exact⟨⟨c,p,aG h1⟩,⟨pt0,k UX (by intro h;cases h)⟩,h3,⟨⟨ex,k h4 (by intro h;cases h)⟩,k h5 (by intro h;cases h)⟩,h6,h7.keep fun p row hp hq=>k hp (by rcases hq with rfl|rfl|rfl<;>(intro h;simp_all))⟩
structure LocC (C:be):Prop where
 to:ToC C
 l0:C.fn 180=none
 l1:∃C1,C.fU 180=some (aR C1 1 gO gN)
 s0:C.fn 181=none
 s1:∃C1 C2,C.fU 181=some (aR C1 1 iN iM)∧C2.fn 189=some qF∧C1.fn 200=none∧C1.fU 200=some (aR C2 2 fy fx)
 ba:C.fn 170=some vU
 co:C.fn 66=some GH
def Zj(l:KS):D:= .agg uI [.agg (.ar 8 SPl) (l.map plD),.raw (.bool true),.raw (.bool false)]
theorem slk_run(C:be){rows:Rows}{r:Nat}{l:KS}(hr:live rows r=some ⟨uI,[fO l]⟩){K:D→Rows→Prop}(hk:K (.cA []) (rows.set r (some ⟨uI,[Zj l]⟩))):aR C 1 gO gN [.ptr uI r [0]] rows K:=by
 refine ag rfl ?_
 unfold gN gO
 have EC:kg [fO l] [0,1] (.raw (.bool true))=some [Zj l]:=rfl
 simp only[↓aj,ak,simprocAttr,aa,aX,hr,EC]
 exact hk
theorem lockC(C:be)(H:LocC C){env:Env}{rows:Rows}{L:Ly}{S:wM}{b:Nat}{B:Bt}(hh:has env [(0,.ptr jM b [0]),(1,.ptr jb L.M [0]),(6,.ptr ND L.e [0])])(hM:fB rows L S)(hb:cz rows b B)(hE:∃m k n l,live rows L.e=some ⟨ND,[enD L m k n]⟩∧live rows L.sl=some ⟨uI,[fO l]⟩){K:D→Rows→Prop}
  (hk:∀ab c',c'.w=S.c.w→Fr (L.all b) rows ab→fB ab L {S with st:=1,c:=c'}→cz ab b {B with ph:=8,left:=0}→K (.cA []) ab):aw C locC (Jo [] K) env rows:=by
 simp only[has]at hh
 obtain⟨Cb,DL,UC,-⟩:=hh
 obtain⟨m,k,n,l,he,hs⟩:=hE
 obtain⟨C1,r1⟩:=H.l1
 obtain⟨C2,C3,r2,hTh,Vx,hL1⟩:=H.s1
 obtain⟨C4,r4⟩:=H.to.r
 have IR:=hM
 have hb0:=hb
 obtain⟨⟨co,pp,nY⟩,⟨pt,hsp⟩,Ax,lz,yR,CY⟩:=hM
 simp only[NE]at nY
 simp only[uH]at hsp
 simp only[enD]at he
 simp only[cz,jF]at hb
 have mH:∀X q row,live rows q=some row→q≠L.sl→live (rows.set L.sl X) q=some row:=fun X q row hq hn=>by rw[aE (Ne.symm hn)];exact hq
 have bS:=fun X=>mH X b _ hb (fH hb hs (by intro h;cases h))
 have mS:=fun X=>mH X L.M _ nY (fH nY hs (by intro h;cases h))
 have sS:=fun X=>mH X L.s _ hsp (fH hsp hs (by intro h;cases h))
 have hM1:=fun X=>IR.off hs (.inl rfl) (mH X)
 unfold locC RL
 simp only[bk,j5,↓aj,ak,simprocAttr,aa,aX,Cb,DL,UC,he,nY,hsp,H.l0,r1]
 refine slk_run C1 hs ?_
 simp only[Cb,DL,UC,↓aj,ak,simprocAttr,aa,aX,mS,sS,H.s0,r2]
 refine Ya C2 C3 hTh Vx hL1 (hM1 _).ch fun R c' hC' hw hF=>?_
 have Zb:=(hM1 _).sealA hC' hF
 have hch1:=(hM1 (some ⟨uI,[Zj l]⟩)).ch
 have h8:=hch1.ch
 have h10:=hch1.dat
 have bR:=hF _ _ (bS _) (fH (bS _) h8 (by intro h;cases h)) (fH (bS _) h10 (by intro h;cases h))
 have mR:=hF _ _ (mS _) (fH (mS _) h8 (by intro h;cases h)) (fH (mS _) h10 (by intro h;cases h))
 have sR:=hF _ _ (sS _) (fH (sS _) h8 (by intro h;cases h)) (fH (sS _) h10 (by intro h;cases h))
 have kB:=fun rows k=>kAt [.raw (it 1)] (.cA [.raw (u32 536870912#32),.raw (it 4096)]) rfl rfl rows k rfl
 have gm:(cO B.kf).get [2]=some (.raw (it B.kf.e)):=rfl
 have nMs:L.M≠L.s:=fH mR sR (by intro h;cases h)
 have nbs:b≠L.s:=fH bR sR (by intro h;cases h)
 have nbM:b≠L.M:=fH bR mR (by intro h;cases h)
 have mR':∀X,live (R.set L.s X) L.M=_:=fun X=>(aE (Ne.symm nMs)).trans mR
 have bR':∀X,live (R.set L.s X) b=_:=fun X=>(aE (Ne.symm nbs)).trans bR
 have cf:∀a,(GG a).fits Rz=true:=fun _=>rfl
 simp only[Cb,DL,UC,↓aj,ak,simprocAttr,aa,aX,H.ba,vU,kB,bR,mR,sR,bR',mR',gm,H.co,Zi,cf,H.to.n,r4]
 have hbb:=(aE (x:=some ⟨jb,[NE L (GG (536870912#32+BitVec.ofInt 32 B.kf.e)) pp]⟩) (Ne.symm nbM)).trans (bR' (some ⟨lC,[uH 1 S.gk pt L.f L.q]⟩))
 have hM4:=((Zb.stg (pt:=pt) 1).cor (c:=GG (536870912#32+BitVec.ofInt 32 B.kf.e)) (p:=pp))
 refine qV C4 (B:=B) hbb 8 0 ?_
 simp only[↓aj,ak,simprocAttr,aa]
 refine hk _ c' hw (fun q row hq hn=>?_) (hM4.fr (B:=B) hbb ((Fr.refl _ _).set (by simp) _)) (aG hbb)
 simp only[Ly.all,List.mem_cons,List.not_mem_nil,or_false,not_or]at hn
 obtain⟨n1,n2,n3,n4,n5,n6,n7,n8⟩:=hn
 rw[aE (Ne.symm n1),aE (Ne.symm n2),aE (Ne.symm n3)]
 exact hF _ _ (mH _ q row hq n6) n7 n8
structure LobC (C:be):Prop where
 ro:C.fn 175=some RK
 di:C.fn 176=some RF
 l0:C.fn 177=none
 l1:∃C1 C2,C.fU 177=some (aR C1 4 iw iv)∧SlC C2 C1
 d0:C.fn 178=none
 d1:∃C1 C2 C3,C.fU 178=some (aR C1 5 fF fE)∧DeC C1 C2 C3
 w0:C.fn 179=none
 w1:∃C1 C2 C3,C.fU 179=some (aR C1 2 gM gL)∧WpC C1 C2 C3
theorem lockB(C:be)(H:LobC C){env:Env}{rows:Rows}{L:Ly}{S:wM}{b ql:Nat}{ex:Bool}{B:Bt}{R:List (List (BitVec 8))}{l:KS}{x:BitVec 8}(hh:has env [(0,.ptr jM b [0]),(1,.ptr jb L.M [0]),(6,.ptr ND L.e [0]),(7,.sl L8 ql [] 0 1 ex)])(hM:fB rows L S)(hb:cz rows b B)(hE:DS rows L R l)
  (hql:live rows ql=some ⟨L8,bs [x]⟩)(Dq:(l.getD 0 (0,[])).1=0)(wx:(l.getD 1 (0,[])).1=0){Q:fa→Env→Rows→Prop}
  (hk:∀env' ab,has env' [(0,.ptr jM b [0]),(1,.ptr jb L.M [0]),(6,.ptr ND L.e [0])]→Fr [L.sl] rows ab→(∃l',live ab L.sl=some ⟨uI,[fO l']⟩)→Q .normal env' ab):aw C locB Q env rows:=by
 simp only[has]at hh
 obtain⟨Cb,DL,UC,hh7,-⟩:=hh
 obtain⟨⟨k,n,he⟩,hs,hR,hl⟩:=hE
 obtain⟨C1,C2,r1,hSl⟩:=H.l1
 obtain⟨C3,C4,C5,r2,hDe⟩:=H.d1
 obtain⟨C6,C7,C8,r3,hWp⟩:=H.w1
 have IR:=hM
 have hb0:=hb
 obtain⟨⟨co,pp,nY⟩,⟨pt,hsp⟩,Ax,lz,yR,CY⟩:=hM
 simp only[NE]at nY
 simp only[uH]at hsp
 simp only[enD]at he
 simp only[cz,jF]at hb
 have heA:=fun L'=>aA he L'
 have Za:=fun L'=>aA nY L'
 have hspA:=fun L'=>aA hsp L'
 unfold locB RL
 by_cases c3:B.iI=3
 ·have PC:(B.iI=3)=True:=eq_true c3
  simp only[bk,j5,tD,↓aj,ak,simprocAttr,aa,aX,Cb,DL,UC,hb,PC]
  exact hk _ _ (by simp only[has,↓aj,ak,simprocAttr,aa,Cb,DL,UC]) (Fr.refl _ _) ⟨l,hs⟩
 ·have PC:(B.iI=3)=False:=eq_false c3
  have kRo:=fun k=>kRowC (CY.rd) CY.len k
  have kDi:=fun rows k=>kMDig rows k R hR
  have Nz:=Zg S.c CY.len
  have jO:=bn hs
  have nes:L.e≠L.sl:=fH he hs (by intro h;cases h)
  have nqs:ql≠L.sl:=fH hql hs (by intro h;cases h)
  simp only[dW,bk,j5,tD,↓aj,ak,simprocAttr,aa,aX,Cb,DL,UC,he,heA,Za,hspA,hb,nY,hsp,PC,H.ro,kRo,H.di,kDi,H.l0,r1]
  have w12:=cD rows [some ⟨.ar 32 L8,[.agg (.ar 32 L8) (bs (Ky S.c).1)]⟩,some ⟨.ar 32 L8,[.agg (.ar 32 L8) (bs (dU R.flatten))]⟩] 1
  generalize hkey:(Ky S.c).1=key at*
  refine Zc C1 C2 hSl (h:=0) (aA hs _) hl (by omega) Dq fun R2 DR tJ=>?_
  have e2:=DR _ _ (heA _) nes
  have q2:=DR _ _ (aA hql _) nqs
  have a2:=DR _ _ w12 (by omega)
  simp only[Cb,DL,UC,hh7,↓aj,ak,simprocAttr,aa,aX,e2,a2,H.d0,r2]
  have g0:(l.set 0 (1,key)).getD 0 (0,[])=(1,key):=by rw[List.getD_eq_getElem?_getD,List.getElem?_set_self (by omega)];rfl
  have g1:(l.set 0 (1,key)).getD 1 (0,[])=l.getD 1 (0,[]):=by rw[List.getD_eq_getElem?_getD,List.getElem?_set_ne (by decide),←List.getD_eq_getElem?_getD]
  have hK2:∀ab,Kept (R2++[some ⟨.ref,[.sl L8 (rows.length+1) [0] 0 32 true,.sl L8 ql [] 0 1 ex]⟩]) ab→qI ab (.sl .ref R2.length [] 0 2 true) [dU R.flatten,[x]]:=fun ab hK=>
   qI.sl (hK _ _ (b6 R2 _)) rfl (.cons (bc.r9 (n:=32) (i:=0) (q:=[]) (hK _ _ (aA a2 _)) rfl (dh _)) (.cons (bc.own (hK _ _ (aA q2 _)) _ rfl) .nil))
  refine PR C3 C4 C5 hDe (l:=l.set 0 (1,key)) (ls:=[dU R.flatten,[x]]) (aA tJ _) (by rw[List.length_set];exact hl) (by rw[g0];exact Int.one_ne_zero) (by rw[g0];exact Nz) (by rw[g1];exact wx) hK2 (by rw[g0];simp[Gt,Nz,dh];decide) fun R3 p Zk Z0=>?_
  have e3:=Zk _ _ (aA e2 _) nes
  have hs4:=aA Z0 [some ⟨LI,[.raw (it 0)]⟩]
  have g2:((l.set 0 (1,key)).set 1 p).getD 0 (0,[])=(1,key):=by rw[List.getD_eq_getElem?_getD,List.getElem?_set_ne (by decide),←List.getD_eq_getElem?_getD,g0]
  simp only[Cb,DL,UC,hh7,↓aj,ak,simprocAttr,aa,aX,e3,H.w0,r3]
  refine Zf C6 C7 C8 hWp hs4 (b6 R3 [some ⟨LI,[.raw (it 0)]⟩]) (by rw[List.length_set,List.length_set];exact hl) (by rw[g2];exact Int.one_ne_zero) fun R4 hF4 hs5=>?_
  simp only[Cb,DL,UC,hh7,↓aj,ak,simprocAttr,aa,aX]
  refine hk _ _ (by simp only[has,↓aj,ak,simprocAttr,aa,Cb,DL,UC]) (fun q row hq hn=>?_) ⟨_,hs5⟩
  have hn:q≠L.sl:=fun e=>hn (by simp[e])
  exact hF4 _ _ (aA (Zk _ _ (aA (DR _ _ (aA hq _) hn) _) hn) _) hn
structure LoaC (C:be):Prop where
 bo:C.fn 31=some tB
 ex:C.fn 174=some AO
 b:LobC C
 c:LocC C
set_option maxHeartbeats 1000000 in
theorem PT(C:be)(H:LoaC C){rows:Rows}{L:Ly}{S:wM}{b:Nat}{B:Bt}{R:List (List (BitVec 8))}{l:KS}(hM:fB rows L S)(hb:cz rows b B)(hE:DS rows L R l)(Dq:(l.getD 0 (0,[])).1=0)(wx:(l.getD 1 (0,[])).1=0)(hr:cL B.kf=true)(yT:B.kf.dg.length=32){K:D→Rows→Prop}
  (hk:∀ab c',c'.w=S.c.w→Fr (L.all b) rows ab→fB ab L {S with st:=1,c:=c'}→cz ab b {B with ph:=8,left:=0}→K (.cA []) ab):
  aR C 2 dS bk [.ptr jM b [0],.ptr jb L.M [0]] rows K:=by
 refine ag rfl ?_
 rw[UB]
 have IR:=hM
 have hb0:=hb
 have hE0:=hE
 obtain⟨⟨k,n,he⟩,hs,hR,hl⟩:=hE
 obtain⟨⟨co,pp,nY⟩,⟨pt,hsp⟩,Ax,lz,yR,CY⟩:=hM
 simp only[NE]at nY
 simp only[enD]at he
 simp only[cz,jF]at hb
 have heA:=fun L'=>aA he L'
 have Za:=fun L'=>aA nY L'
 have hbA:=fun L'=>aA hb L'
 have kB:=fun rows k=>Py rows k B.kf yT hr
 have gm:(cO B.kf).get [3]=some (.agg (.ar 32 L8) (bs B.kf.dg)):=rfl
 have mf:=fA B.kf
 simp only[bk,j5,tD,dS,↓aj,ak,simprocAttr,aa,aX,he,heA,Za,hb,hbA,nY,mf,gm,H.bo,kB]
 have hlf:[D.raw (u8 (BitVec.ofInt 8 B.iI))]=bs [BitVec.ofInt 8 B.iI]:=rfl
 have hF0:=Fr.app [L.e] rows [some ⟨L8,bs (cB B.kf)⟩,some ⟨L8,[D.raw (u8 (BitVec.ofInt 8 B.iI))]⟩,some ⟨.ref,[.sl L8 rows.length [] 0 48 false,.sl L8 b [0,2,3] 0 32 true,.sl L8 (rows.length+1) [] 0 1 true]⟩]
 have r0:=b6 rows [some ⟨L8,bs (cB B.kf)⟩,some ⟨L8,[D.raw (u8 (BitVec.ofInt 8 B.iI))]⟩,some ⟨.ref,[.sl L8 rows.length [] 0 48 false,.sl L8 b [0,2,3] 0 32 true,.sl L8 (rows.length+1) [] 0 1 true]⟩]
 have r1:=cD rows [some ⟨L8,bs (cB B.kf)⟩,some ⟨L8,[D.raw (u8 (BitVec.ofInt 8 B.iI))]⟩,some ⟨.ref,[.sl L8 rows.length [] 0 48 false,.sl L8 b [0,2,3] 0 32 true,.sl L8 (rows.length+1) [] 0 1 true]⟩] 1
 have r2:=cD rows [some ⟨L8,bs (cB B.kf)⟩,some ⟨L8,[D.raw (u8 (BitVec.ofInt 8 B.iI))]⟩,some ⟨.ref,[.sl L8 rows.length [] 0 48 false,.sl L8 b [0,2,3] 0 32 true,.sl L8 (rows.length+1) [] 0 1 true]⟩] 2
 have he0:=heA [some ⟨L8,bs (cB B.kf)⟩,some ⟨L8,[D.raw (u8 (BitVec.ofInt 8 B.iI))]⟩,some ⟨.ref,[.sl L8 rows.length [] 0 48 false,.sl L8 b [0,2,3] 0 32 true,.sl L8 (rows.length+1) [] 0 1 true]⟩]
 have pR:=hbA [some ⟨L8,bs (cB B.kf)⟩,some ⟨L8,[D.raw (u8 (BitVec.ofInt 8 B.iI))]⟩,some ⟨.ref,[.sl L8 rows.length [] 0 48 false,.sl L8 b [0,2,3] 0 32 true,.sl L8 (rows.length+1) [] 0 1 true]⟩]
 have hel:=bn he
 have nbe:b≠L.e:=fH hb he (by intro h;cases h)
 have Ow:(cB B.kf).length=48:=pH _ yT
 generalize rows++[some ⟨L8,bs (cB B.kf)⟩,some ⟨L8,[D.raw (u8 (BitVec.ofInt 8 B.iI))]⟩,some ⟨.ref,[.sl L8 rows.length [] 0 48 false,.sl L8 b [0,2,3] 0 32 true,.sl L8 (rows.length+1) [] 0 1 true]⟩]=R0 at*
 have hp:∀i:Nat,i<3→∃d p,[D.sl L8 rows.length [] 0 48 false,.sl L8 b [0,2,3] 0 32 true,.sl L8 (rows.length+1) [] 0 1 true][i]?=some d∧d.fits .ref=true∧p.length≤1000∧∀rs,Fr [L.e] R0 rs→∀more,bc (rs++more) d p:=by
  intro i hi
  have k:∀{q row rs},live R0 q=some row→q≠L.e→Fr [L.e] R0 rs→live rs q=some row:=fun hq hn hf=>hf _ _ hq (by simpa using hn)
  match i,hi with
  |0,_=>exact⟨_,cB B.kf,rfl,rfl,by omega,fun rs hf more=>bc.own (aA (k r0 (by omega) hf) more) _ Ow.symm⟩
  |1,_=>exact⟨_,B.kf.dg,rfl,rfl,by omega,fun rs hf more=>bc.r9 (n:=32) (i:=0) (q:=[2,3]) (aA (k pR nbe hf) more) rfl yT⟩
  |2,_=>exact⟨_,[BitVec.ofInt 8 B.iI],rfl,rfl,by simp,fun rs hf more=>bc.own (aA (k r1 (by omega) hf) more) _ rfl⟩
 refine bB 3 (fun j env rs=>has env [(42,.raw (it (j:Int))),(41,.raw (it 3)),(40,.sl .ref (rows.length+2) [] 0 3 true),(0,.ptr jM b [0]),(1,.ptr jb L.M [0]),(6,.ptr ND L.e [0]),(7,.sl L8 (rows.length+1) [] 0 1 true)]∧Fr [L.e] R0 rs∧∃R' k' n',Rv R'=true∧live rs L.e=some ⟨ND,[.agg ND [.ptr uI L.sl [0],gY R',k',n']]⟩) ?_ ?_ ⟨?_,Fr.refl _ _,R,k,n,hR,he0⟩
 ·rintro j hj env rs ⟨hh,hF,R',k',n',Qg,he'⟩ Q hQ
  simp only[has]at hh
  obtain⟨d,p,hd,hdf,sO,hpb⟩:=hp j hj
  have e0:((j:Int)<3)=True:=eq_true (by omega)
  have e1:=cE j (by omega)
  have q2:=hF _ _ r2 (by simp;omega)
  have kX:∀k,aJ AO (rs++[some ⟨.ref,[d]⟩]) k [gY R',.raw (it (j:Int)),.sl .ref rs.length [] 0 1 true]=_:=fun k=>kExtend (rs++[some ⟨.ref,[d]⟩]) k R' j rs.length 1 true [d] [p] Qg (b6 rs _) rfl (.cons (hpb _ hF _) .nil) (by simp) (by simp;omega)
  have hq:=wL he'
  have heA':=fun L'=>aA he' L'
  have mfit:(gY (Ku R' j [p].flatten)).fits SMea=true:=rfl
  simp only[↓aj,ak,simprocAttr,aa,aX,hh,e0,q2,hd,hdf,he',heA',hq,H.ex,kX,e1,mfit]
  exact⟨Int.natCast_nonneg j,hQ _ _ ⟨by simp only[has,↓aj,ak,simprocAttr,aa,hh],hF.trans (((Fr.refl _ _).set (List.mem_singleton_self _) _).trans (Fr.app _ _ _)),_,k',n',extR_ok Qg _ _,hq.2.2.1 _ _⟩⟩
 ·rintro env rs ⟨hh,hF,R',k',n',Qg,he'⟩ Q
  simp only[has]at hh
  have fe:∀q row,live rows q=some row→q≠L.e→live rs q=some row:=fun q row hq hn=>hF _ _ (hF0 _ _ hq (by simpa using hn)) (by simpa using hn)
  have nse:L.sl≠L.e:=fH hs he (by intro h;cases h)
  have Zb:=IR.off he (.inr rfl) fe
  have HI:cz rs b B:=fe _ _ hb0 nbe
  have tJ:=fe _ _ hs nse
  have hlf2:=hF _ _ r1 (by simp;omega)
  simp only[↓aj,ak,simprocAttr,aa,aX,hh]
  refine lockB C H.b (ex:=true) (ql:=rows.length+1) (by simp only[has,↓aj,ak,simprocAttr,aa,hh]) Zb HI ⟨⟨k',n',he'⟩,tJ,Qg,hl⟩ hlf2 Dq wx fun env' ab UD Ve ⟨l',fD⟩=>?_
  have fs:∀q row,live rs q=some row→q≠L.sl→live ab q=some row:=fun q row hq hn=>Ve _ _ hq (by simpa using hn)
  have nbs:b≠L.sl:=fH hb hs (by intro h;cases h)
  refine lockC C H.c UD (Zb.off tJ (.inl rfl) fs) (fs _ _ HI nbs) ⟨_,k',n',l',fs _ _ he' (Ne.symm nse),fD⟩ fun lg c' hw Zk hM3 hB3=>hk lg c' hw (fun q row hq hn=>?_) hM3 hB3
  have NZ:=hn
  simp only[Ly.all,List.mem_cons,List.not_mem_nil,or_false,not_or]at NZ
  obtain⟨n1,n2,n3,n4,n5,n6,n7,n8⟩:=NZ
  exact Zk _ _ (fs _ _ (fe _ _ hq n5) n6) hn
 ·simp only[has,↓aj,ak,simprocAttr,aa]
structure Zl (C:be):Prop where
 w0:C.fn 121=none
 w1:∃C1,C.fU 121=some (aR C1 2 dD dC)∧WrC C1
 c0:C.fn 122=none
 c1:∃C1,C.fU 122=some (aR C1 2 dP ci)∧CdC C1
 s0:C.fn 123=none
 s1:∃C1,C.fU 123=some (aR C1 2 eB eA)∧StaC C1
 l0:C.fn 124=none
 l1:∃C1,C.fU 124=some (aR C1 2 cH cG)∧LkC C1
 h0:C.fn 125=none
 h1:∃C1,C.fU 125=some (aR C1 2 dR dQ)∧ChoC C1
 k0:C.fn 126=none
 k1:∃C1,C.fU 126=some (aR C1 2 dF dE)∧CkC C1
 o0:C.fn 127=none
 o1:∃C1,C.fU 127=some (aR C1 2 dS bk)∧LoaC C1
def qW(f:jx)(ds:List D)(rows:Rows)(P:D→Rows→Prop):Prop:=∀K:D→Rows→Prop,(∀d ab,P d ab→K d ab)→f ds rows K
def PB(Z:Rows→Prop)(d:D)(rows:Rows):Prop:=∃v,d= .raw (.bool v)∧Z rows
def PU(Z:Rows→Prop)(d:D)(rows:Rows):Prop:=d= .cA []∧Z rows
section
variable {C:be} {rows:Rows} {L:Ly} {b:Nat} {B:Bt} {Z:Rows→Prop}
def Tk(C:be)(L:Ly)(b:Nat)(rows:Rows)(Z:Rows→Prop):Prop:=qW (aR C 2 cn cm) [.ptr jM b [0],.ptr jb L.M [0]] rows (PB Z)
theorem Zm(H:Zl C)(n:Nat)(hn:n≤100)(hb:cz rows b B)(hp:B.ph=1∨B.ph=2)(hl:B.left=((n+2:Nat):Int))(hz:Z (rows.set b (some ⟨jM,[jF {B with left:=((n+1:Nat):Int)}]⟩))):Tk C L b rows Z:=by
 intro K hK
 have hk:=hK _ _ ⟨false,rfl,hz⟩
 refine ag rfl ?_
 unfold cm cn
 simp only[cz,jF]at hb
 have hs:=fun x=>aG (y:=x) hb
 have w:wz (((n+2:Nat):Int)-1)=((n+1:Nat):Int):=by rw[bf (by omega)];omega
 have e:(0<((n+1:Nat):Int))=True:=eq_true (by omega)
 rcases hp with hp|hp<;>simp only[↓aj,ak,simprocAttr,aa,aX,hb,hs,hp,hl,w,e]<;>(rw[jF,hp]at hk;exact hk)
theorem tick4{C1:be}(H:Zl C)(hb:cz rows b B)(hp:B.ph=4)(h:C.fU 121=some (aR C1 2 dD dC))(hk:qW (aR C1 2 dD dC) [.ptr jM b [0],.ptr jb L.M [0]] rows (PB Z)):Tk C L b rows Z:=by
 intro K hK
 refine ag rfl ?_
 unfold cm cn
 simp only[cz,jF]at hb
 simp only[↓aj,ak,simprocAttr,aa,aX,hb,hp,H.w0,h]
 refine hk _ fun d ab hd=>?_
 obtain⟨v,rfl,hz⟩:=hd
 simp only[↓aj,ak,simprocAttr,aa]
 exact hK _ _ ⟨v,rfl,hz⟩
theorem tick5{C1:be}(H:Zl C)(hb:cz rows b B)(hp:B.ph=5)(h:C.fU 122=some (aR C1 2 dP ci))(hk:qW (aR C1 2 dP ci) [.ptr jM b [0],.ptr jb L.M [0]] rows (PB Z)):Tk C L b rows Z:=by
 intro K hK
 refine ag rfl ?_
 unfold cm cn
 simp only[cz,jF]at hb
 simp only[↓aj,ak,simprocAttr,aa,aX,hb,hp,H.c0,h]
 refine hk _ fun d ab hd=>?_
 obtain⟨v,rfl,hz⟩:=hd
 simp only[↓aj,ak,simprocAttr,aa]
 exact hK _ _ ⟨v,rfl,hz⟩
theorem tick0{C1:be}(H:Zl C)(hb:cz rows b B)(hp:B.ph=0)(hl:B.left=1)(h:C.fU 123=some (aR C1 2 eB eA))(hk:qW (aR C1 2 eB eA) [.ptr jM b [0],.ptr jb L.M [0]] (rows.set b (some ⟨jM,[jF {B with left:=0}]⟩)) (PB Z)):Tk C L b rows Z:=by
 intro K hK
 refine ag rfl ?_
 unfold cm cn
 simp only[cz,jF]at hb
 have hs:=fun x=>aG (y:=x) hb
 rw[jF]at hk
 simp only[hp]at hk
 simp only[↓aj,ak,simprocAttr,aa,aX,hb,hs,hp,hl,H.s0,h]
 refine hk _ fun d ab hd=>?_
 obtain⟨v,rfl,hz⟩:=hd
 simp only[↓aj,ak,simprocAttr,aa]
 exact hK _ _ ⟨_,rfl,hz⟩
theorem tick3{C1:be}(H:Zl C)(hb:cz rows b B)(hp:B.ph=3)(hl:B.left=1)(h:C.fU 125=some (aR C1 2 dR dQ))(hk:qW (aR C1 2 dR dQ) [.ptr jM b [0],.ptr jb L.M [0]] (rows.set b (some ⟨jM,[jF {B with left:=0}]⟩)) (PB Z)):Tk C L b rows Z:=by
 intro K hK
 refine ag rfl ?_
 unfold cm cn
 simp only[cz,jF]at hb
 have hs:=fun x=>aG (y:=x) hb
 rw[jF]at hk
 simp only[hp]at hk
 simp only[↓aj,ak,simprocAttr,aa,aX,hb,hs,hp,hl,H.h0,h]
 refine hk _ fun d ab hd=>?_
 obtain⟨v,rfl,hz⟩:=hd
 simp only[↓aj,ak,simprocAttr,aa]
 exact hK _ _ ⟨_,rfl,hz⟩
theorem tick6{C1:be}(H:Zl C)(hb:cz rows b B)(hp:B.ph=6)(hl:B.left=1)(h:C.fU 126=some (aR C1 2 dF dE))(hk:qW (aR C1 2 dF dE) [.ptr jM b [0],.ptr jb L.M [0]] (rows.set b (some ⟨jM,[jF {B with left:=0}]⟩)) (PB Z)):Tk C L b rows Z:=by
 intro K hK
 refine ag rfl ?_
 unfold cm cn
 simp only[cz,jF]at hb
 have hs:=fun x=>aG (y:=x) hb
 rw[jF]at hk
 simp only[hp]at hk
 simp only[↓aj,ak,simprocAttr,aa,aX,hb,hs,hp,hl,H.k0,h]
 refine hk _ fun d ab hd=>?_
 obtain⟨v,rfl,hz⟩:=hd
 simp only[↓aj,ak,simprocAttr,aa]
 exact hK _ _ ⟨_,rfl,hz⟩
theorem tick7{C1:be}(H:Zl C)(hb:cz rows b B)(hp:B.ph=7)(hl:B.left=1)(h:C.fU 127=some (aR C1 2 dS bk))(hk:qW (aR C1 2 dS bk) [.ptr jM b [0],.ptr jb L.M [0]] (rows.set b (some ⟨jM,[jF {B with left:=0}]⟩)) (PU Z)):Tk C L b rows Z:=by
 intro K hK
 refine ag rfl ?_
 unfold cm cn
 simp only[cz,jF]at hb
 have hs:=fun x=>aG (y:=x) hb
 rw[jF]at hk
 simp only[hp]at hk
 simp only[↓aj,ak,simprocAttr,aa,aX,hb,hs,hp,hl,H.o0,h]
 refine hk _ fun d ab hd=>?_
 obtain⟨rfl,hz⟩:=hd
 simp only[↓aj,ak,simprocAttr,aa]
 exact hK _ _ ⟨_,rfl,hz⟩
theorem tick1{C1:be}(H:Zl C)(hb:cz rows b B)(hp:B.ph=1)(hl:B.left=1)(h:C.fU 124=some (aR C1 2 cH cG))(hk:qW (aR C1 2 cH cG) [.ptr jM b [0],.ptr jb L.M [0]] (rows.set b (some ⟨jM,[jF {B with left:=0}]⟩)) (PU Z)):Tk C L b rows Z:=by
 intro K hK
 refine ag rfl ?_
 unfold cm cn
 simp only[cz,jF]at hb
 have hs:=fun x=>aG (y:=x) hb
 rw[jF]at hk
 simp only[hp]at hk
 simp only[↓aj,ak,simprocAttr,aa,aX,hb,hs,hp,hl,H.l0,h]
 refine hk _ fun d ab hd=>?_
 obtain⟨rfl,hz⟩:=hd
 simp only[↓aj,ak,simprocAttr,aa]
 exact hK _ _ ⟨_,rfl,hz⟩
theorem tick2{C1:be}(H:Zl C)(hb:cz rows b B)(hp:B.ph=2)(hl:B.left=1)(h:C.fU 124=some (aR C1 2 cH cG))(hk:qW (aR C1 2 cH cG) [.ptr jM b [0],.ptr jb L.M [0]] (rows.set b (some ⟨jM,[jF {B with left:=0}]⟩)) (PU Z)):Tk C L b rows Z:=by
 intro K hK
 refine ag rfl ?_
 unfold cm cn
 simp only[cz,jF]at hb
 have hs:=fun x=>aG (y:=x) hb
 rw[jF]at hk
 simp only[hp]at hk
 simp only[↓aj,ak,simprocAttr,aa,aX,hb,hs,hp,hl,H.l0,h]
 refine hk _ fun d ab hd=>?_
 obtain⟨rfl,hz⟩:=hd
 simp only[↓aj,ak,simprocAttr,aa]
 exact hK _ _ ⟨_,rfl,hz⟩
end
def GI:aB→aB
 | .block _ (.loop a)=>a
 |c=>c
noncomputable def gU:aB:=GI (tD (j5 (j5 cv)))
theorem UE:cv= .seq (tD cv) (.seq (tD (j5 cv)) (.seq (.block 0 (.loop gU)) (j5 (j5 (j5 cv))))):=rfl
def Ev(L:Ly)(b most i:Nat)(env:Env):Prop:=has env [(7,.raw (it (i:Int))),(2,.raw (it (most:Int))),(0,.ptr jM b [0]),(1,.ptr jb L.M [0])]
structure RnC (C C1:be):Prop where
 t0:C.fn 61=none
 t1:C.fU 61=some (aR C1 2 cn cm)
 tk:Zl C1
section
variable {C C1:be} {rows:Rows} {env:Env} {L:Ly} {b most i n:Nat} {B:Bt} {Z:Rows→Prop} {Q:fa→Env→Rows→Prop}
theorem j6(H:RnC C C1)(hh:Ev L b most i env)(hi:i<most)(hm:most≤100000)(hb:cz rows b B)(hp:B.ph<8)(ht:Tk C1 L b rows Z)(hn:∀env' ab,Ev L b most (i+1) env'→Z ab→jd (aw C gU) Q n env' ab):jd (aw C gU) Q (n+1) env rows:=by
 simp only[Ev,has]at hh
 have e0:((i:Int)<(most:Int))=True:=eq_true (by omega)
 have e1:(B.ph<8)=True:=eq_true hp
 have w:=cE i (by omega)
 simp only[cz,jF]at hb
 rw[lp_s]
 unfold gU at*
 generalize hX:kLp C (GI (tD (j5 (j5 cv)))) Q n=X
 simp only[cv,tD,j5,GI,↓aj,ak,simprocAttr,aa,aX,hh,e0,e1,hb,H.t0,H.t1]
 refine ht _ fun d ab hd=>?_
 obtain⟨v,rfl,hz⟩:=hd
 simp only[↓aj,ak,simprocAttr,aa,aX,hh,w]
 subst hX
 exact hn _ _ (by simp only[Ev,has,↓aj,ak,simprocAttr,aa,hh]) hz
theorem GJ(hh:Ev L b most i env)(hb:cz rows b B)(hp:¬B.ph<8)(hq:∀env',Ev L b most i env'→Q (.exit 0) env' rows):jd (aw C gU) Q (n+1) env rows:=by
 simp only[Ev,has]at hh
 have e1:(B.ph<8)=False:=eq_false hp
 simp only[cz,jF]at hb
 rw[lp_s]
 unfold gU at*
 by_cases c:i<most
 ·have e0:((i:Int)<(most:Int))=True:=eq_true (by omega)
  simp only[cv,tD,j5,GI,↓aj,ak,simprocAttr,aa,aX,hh,e0,e1,hb]
  exact hq _ (by simp only[Ev,has,↓aj,ak,simprocAttr,aa,hh])
 ·have e0:((i:Int)<(most:Int))=False:=eq_false (by omega)
  simp only[cv,tD,j5,GI,↓aj,ak,simprocAttr,aa,aX,hh,e0,e1,hb]
  exact hq _ (by simp only[Ev,has,↓aj,ak,simprocAttr,aa,hh])
end
end iC
end Go.Am
namespace Go.Am
set_option linter.unusedSimpArgs false
set_option linter.unusedVariables false
namespace iC
open Go.Am.F
set_option maxRecDepth 10000
theorem DS.fr{X:List Nat}{rows ab:Rows}{L:Ly}{R:List (List (BitVec 8))}{l:KS}(h:DS rows L R l)(f:Fr X rows ab)(h1:L.e∉X)(h2:L.sl∉X):DS ab L R l:=
 h.keep fun q row hq hn=>f q row hq (by rcases hn with rfl|rfl<;>assumption)
theorem PV{rows:Rows}{b:Nat}{B:Bt}(h:cz rows b B){q:Nat}{s:Sh}{l:List D}(hq:live rows q=some ⟨s,l⟩)(hs:s≠jM):q≠b:=fH hq h hs
structure GK (rows:Rows) (L:Ly) (S:wM) (b:Nat) (B:Bt) (R:List (List (BitVec 8))) (l:KS):Prop where
 m:fB rows L S
 e:DS rows L R l
 b:cz rows b B
theorem GK.fr{rows ab:Rows}{L:Ly}{S:wM}{b:Nat}{B B':Bt}{R:List (List (BitVec 8))}{l:KS}(h:GK rows L S b B R l)(f:Fr [b] rows ab)(hb:cz ab b B'):GK ab L S b B' R l:=by
 obtain⟨h1,h2,h3⟩:=h
 refine⟨h1.fr h3 f,h2.fr f ?_ ?_,hb⟩
 ·obtain⟨k,n,he⟩:=h2.e
  simpa using PV h3 he (by intro h;cases h)
 ·simpa using PV h3 h2.s (by intro h;cases h)
def IT(rows:Rows)(B:Bt)(bH:List (BitVec 8)):Prop:=∃p,B.bH= .sl L8 p [] 0 bH.length false∧live rows p=some ⟨L8,bs bH⟩
theorem IT.fr{rows ab:Rows}{b:Nat}{B B':Bt}{bH:List (BitVec 8)}(h:IT rows B bH)(hb:cz rows b B)(f:Fr [b] rows ab)(e:B'.bH=B.bH):IT ab B' bH:=by
 obtain⟨p,h1,h2⟩:=h
 exact⟨p,e.trans h1,f _ _ h2 (by simpa using PV hb h2 (by intro h;cases h))⟩
section
variable {C C1:be} {L:Ly} {S:wM} {R:List (List (BitVec 8))} {l:KS} {b most:Nat} {Q:fa→Env→Rows→Prop} {bH:List (BitVec 8)}
theorem RM(H:RnC C C1)(hm:most≤100000)(sG:bH.length≤1000)(j:Nat)(hj:j≤1)(n:Nat):∀(m:Nat),m≤16→∀(rows:Rows) (env:Env) (i:Nat) (B:Bt),GK rows L S b B R l→IT rows B bH→B.ph=j+1→B.left=((m+1:Nat):Int)→i+m<most→Ev L b most i env→
  (∀env' ab q,Ev L b most (i+m+1) env'→Fr [b] rows ab→cz ab b {B.GB j (Vf S.x bH B.least j q)with ph:=j+2,left:=if j=0 then 17 else 1}→jd (aw C gU) Q n env' ab)→jd (aw C gU) Q (n+m+1) env rows:=by
 intro m
 induction m with
 | zero =>
  intro _ rows env i B hR hP tC hl hi hh hn
  obtain⟨C2,r2,HL⟩:=H.tk.l1
  obtain⟨p,hp,hlp⟩:=hP
  have wx:B.left=1:=hl
  have hF:Fr [b] rows (rows.set b (some ⟨jM,[jF {B with left:=0}]⟩)):=(Fr.refl _ _).set (by simp) _
  have pR:cz (rows.set b (some ⟨jM,[jF {B with left:=0}]⟩)) b {B with left:=0}:=aG hR.b
  have hP2:=IT.fr (B':={B with left:=0}) ⟨p,hp,hlp⟩ hR.b hF rfl
  obtain⟨p',hp',hlp'⟩:=hP2
  have hrun:qW (aR C2 2 cH cG) [.ptr jM b [0],.ptr jb L.M [0]] (rows.set b (some ⟨jM,[jF {B with left:=0}]⟩)) (PU fun ab=>Fr [b] rows ab∧∃q,cz ab b {B.GB j (Vf S.x bH B.least j q)with ph:=j+2,left:=if j=0 then 17 else 1}):=by
   intro K hK
   refine PN C2 HL (S:=S) j hj (hR.m.fr hR.b hF) pR tC (Eq.subst (motive:=fun d=>bc (rows.set b (some ⟨jM,[jF {B with left:=0}]⟩)) d bH) hp'.symm (bc.own hlp' _ rfl)) sG (hK _ _ ⟨rfl,(hF.trans ((Fr.refl _ _).set (by simp) _)).trans (Fr.app _ _ _),(rows.set b (some ⟨jM,[jF {B with left:=0}]⟩)).length,?_⟩)
   have e:∀v,{({B with left:=0}:Bt).GB j v with ph:=(j:Int)+2,left:=if j=0 then 17 else 1}=({B.GB j v with ph:=(j:Int)+2,left:=if j=0 then 17 else 1}:Bt):=fun v=>by
    unfold Bt.GB;split<;>rfl
   rw[e]
   exact aA (aG pR) _
  have fin:Tk C1 L b rows (fun ab=>Fr [b] rows ab∧∃q,cz ab b {B.GB j (Vf S.x bH B.least j q)with ph:=j+2,left:=if j=0 then 17 else 1}):=by
   rcases(by omega:j=0∨j=1)with rfl|rfl
   ·exact tick1 H.tk hR.b tC wx r2 hrun
   ·exact tick2 H.tk hR.b tC wx r2 hrun
  exact j6 H hh (by omega) hm hR.b (by rw[tC];omega) fin fun env' ab UD hz=>hn env' ab hz.2.choose UD hz.1 hz.2.choose_spec
 | succ m ih =>
  intro hm16 rows env i B hR hP tC hl hi hh hn
  have hF:Fr [b] rows (rows.set b (some ⟨jM,[jF {B with left:=((m+1:Nat):Int)}]⟩)):=(Fr.refl _ _).set (by simp) _
  have pR:cz (rows.set b (some ⟨jM,[jF {B with left:=((m+1:Nat):Int)}]⟩)) b {B with left:=((m+1:Nat):Int)}:=aG hR.b
  refine j6 H hh (by omega) hm hR.b (by rw[tC];omega) (Z:=fun ab=>ab=rows.set b (some ⟨jM,[jF {B with left:=((m+1:Nat):Int)}]⟩)) (Zm H.tk m (by omega) hR.b (by rw[tC];omega) hl rfl) fun env' ab UD hz=>?_
  subst hz
  refine ih (by omega) _ _ _ {B with left:=((m+1:Nat):Int)} (hR.fr hF pR) (hP.fr hR.b hF rfl) tC rfl (by omega) UD fun lM lN q T4 DR HI=>?_
  refine hn lM lN q (by rw[show i+(m+1)+1=i+1+m+1 by omega];exact T4) (hF.trans DR) ?_
  have e:∀v,{({B with left:=((m+1:Nat):Int)}:Bt).GB j v with ph:=(j:Int)+2,left:=if j=0 then 17 else 1}=({B.GB j v with ph:=(j:Int)+2,left:=if j=0 then 17 else 1}:Bt):=fun v=>by
   unfold Bt.GB;split<;>rfl
  rw[e]at HI
  exact HI
end
section
variable {C C1:be} {L:Ly} {S:wM} {R:List (List (BitVec 8))} {l:KS} {b most:Nat} {Q:fa→Env→Rows→Prop}
theorem GK.ne{rows:Rows}{B:Bt}(h:GK rows L S b B R l):L.e∉[b,L.m]∧L.sl∉[b,L.m]∧L.e∉[b,L.s]∧L.sl∉[b,L.s]∧b≠L.m∧b≠L.s:=by
 obtain⟨h1,h2,h3⟩:=h
 obtain⟨k,n,he⟩:=h2.e
 obtain⟨pt,hs⟩:=h1.sp
 have hm:=h1.fl.dat
 have a1:=PV h3 he (by intro h;cases h)
 have a2:=PV h3 h2.s (by intro h;cases h)
 have a3:=fH he hm (by intro h;cases h)
 have a4:=fH h2.s hm (by intro h;cases h)
 have a5:=fH he hs (by intro h;cases h)
 have a6:=fH h2.s hs (by intro h;cases h)
 exact⟨by simp[a1,a3],by simp[a2,a4],by simp[a1,a5],by simp[a2,a6],fH h3 hm (by intro h;cases h),fH h3 hs (by intro h;cases h)⟩
theorem Zn(H:RnC C C1)(hm:most≤100000)(n j z ro q:Nat)(s:JS)(hj:j≤1)(hz:z≤2048){rows:Rows}{env:Env}{i:Nat}{B:Bt}(hR:GK rows L S b B R l)(tC:B.ph=4)(jO:B.sl=j)(pX:B.kf.s=z)
  (ho:B.ops= .sl AL ro [] 0 2 true)(hro:live rows ro=some ⟨AL,(jL (some (S.x,false)) s q).map JO.D⟩)(hq:live rows q=some ⟨L8,bs (cU (fg (some (S.x,false)) s))⟩)(hqm:q≠L.m)(hi:i+1<most)(hh:Ev L b most i env)
  (hn:∀env' ab d,Ev L b most (i+2) env'→Fr [b,L.m] rows ab→GK ab L {S with x:=IL S.x (jL (some (S.x,false)) s q)} b {B with ops:=d,DQ:=(nZ (IL S.x (jL (some (S.x,false)) s q)) j:Int),at_:=0,ph:=5,left:=((z+63)/64:Nat)} R l→jd (aw C gU) Q n env' ab):jd (aw C gU) Q (n+2) env rows:=by
 obtain⟨C2,r2,HW⟩:=H.tk.w1
 obtain⟨ne1,ne2,-,-,nbm,-⟩:=hR.ne
 have hx:=hR.m.xl
 have hok:=Rr (K:=some (S.x,false)) (s:=s) (q:=q) (x:=S.x) (by omega)
 generalize hK:(some (S.x,false):FV)=K at*
 have h0:=hok 0 _ rfl
 have h1:=hok 1 _ rfl
 rw[←hK]at hok
 have hb32:(cU (fg K s)).length=32:=eY _
 have qb:q≠b:=PV hR.b hq (by intro h;cases h)
 have rb:ro≠b:=PV hR.b hro (by intro h;cases h)
 have rm:ro≠L.m:=fH hro hR.m.fl.dat (by intro h;cases h)
 have dX:IL S.x (jL K s q)=mo (mo S.x (eG K) [] eF) (eG K) (cU (fg K s)) eF:=rfl
 rw[dX]at hn
 have t1:Tk C1 L b rows (fun ab=>Fr [b,L.m] rows ab∧∃oy,GK ab L {S with x:=mo S.x (eG K) [] eF} b {B with ops:= .sl AL ro [] 1 1 oy} R l):=by
  refine tick4 H.tk hR.b tC r2 fun K' NF=>?_
  refine Df C2 HW (o:=⟨1#8,eG K,.raw (.slice none 0 0),[]⟩) j z hj hz hR.m hR.b jO pX ho hro (.inl ⟨rfl,rfl,rfl⟩) .er (by have:=h0.2.1;rw[hx]at this;exact this) h0.2.2 (fun _ ab oy hF hM hB=>NF _ _ ⟨_,rfl,hF,oy,hM,hR.e.fr hF ne1 ne2,hB⟩) fun h=>by cases h
 refine j6 (n:=n+1) H hh (by omega) hm hR.b (by rw[tC];decide) t1 fun env1 pK DL Qr=>?_
 obtain⟨IS,oy,Nh⟩:=Qr
 have Sw:=IS _ _ hq (by simp[qb,hqm])
 have hro1:=IS _ _ hro (by simp[rb,rm])
 have pS:(mo S.x (eG K) [] eF).length=S.x.length:=pJ _ _ _ _
 have hO:KQ pK L.m 2#8 (.sl L8 q [] 0 32 false) (cU (fg K s)):=by
  have:=KQ.wr (rows:=pK) (m:=L.m) q (cU (fg K s)) false Sw (by omega) (by omega) hqm
  rw[hb32]at this
  exact this
 have t2:Tk C1 L b pK (fun ab=>Fr [b,L.m] pK ab∧∃d,GK ab L {S with x:=mo (mo S.x (eG K) [] eF) (eG K) (cU (fg K s)) eF} b {B with ops:=d,DQ:=(nZ (mo (mo S.x (eG K) [] eF) (eG K) (cU (fg K s)) eF) j:Int),at_:=0,ph:=5,left:=((z+63)/64:Nat)} R l):=by
  refine tick4 H.tk Nh.b tC r2 fun K' NF=>?_
  refine Df C2 HW (o:=⟨2#8,eG K,.sl L8 q [] 0 32 false,cU (fg K s)⟩) j z hj hz Nh.m Nh.b jO pX rfl hro1 (.inr ⟨rfl,rfl,rfl⟩) hO (by have:=h1.2.1;rw[hx]at this;exact this) h1.2.2 (fun h=>by cases h) fun _ ab d hF hM hB=>NF _ _ ⟨_,rfl,hF,d,hM,Nh.e.fr hF ne1 ne2,hB⟩
 exact j6 H DL (by omega) hm Nh.b (by rw[show({B with ops:= .sl AL ro [] 1 1 oy}:Bt).ph=B.ph from rfl,tC];decide) t2 fun lM lN T4 ⟨DR,d,U5⟩=>hn lM lN d T4 (IS.trans DR) U5
theorem go_copy(H:RnC C C1)(hm:most≤100000)(n z p:Nat)(hz:z≤2048)(hp:p+z≤10240)(hst:S.st=0):∀(m i0:Nat),i0+m+1=(z+63)/64→∀(rows:Rows) (env:Env) (i:Nat) (B:Bt),GK rows L {S with gk:=if i0=0 then S.gk else vZ S.gk S.x p (64*i0)} b B R l→B.ph=5→B.DQ=(p:Int)→B.kf.s=z→B.at_=((64*i0:Nat):Int)→B.left=((m+1:Nat):Int)→i+m<most→Ev L b most i env→
  (∀env' ab,Ev L b most (i+m+1) env'→Fr [b,L.s] rows ab→GK ab L {S with gk:=vZ S.gk S.x p z} b {B with at_:=(z:Int),left:=1,ph:=6} R l→jd (aw C gU) Q n env' ab)→jd (aw C gU) Q (n+m+1) env rows:=by
 obtain⟨C2,r2,HC⟩:=H.tk.c1
 have step:∀(m i0:Nat) (rows:Rows) (B:Bt),64*i0<z→m≤100→GK rows L {S with gk:=if i0=0 then S.gk else vZ S.gk S.x p (64*i0)} b B R l→B.ph=5→B.DQ=(p:Int)→B.kf.s=z→B.at_=((64*i0:Nat):Int)→B.left=((m+1:Nat):Int)→
   Tk C1 L b rows (fun ab=>Fr [b,L.s] rows ab∧GK ab L {S with gk:=vZ S.gk S.x p (64*i0+min 64 (z-64*i0))} b {B with at_:=((64*i0+min 64 (z-64*i0):Nat):Int),left:=if m=0 then 1 else(m:Int),ph:=if m=0 then 6 else B.ph} R l):=by
  intro m i0 rows B hi hm100 hR tC Hw pX GZ hl
  obtain⟨-,-,ne3,ne4,-,-⟩:=hR.ne
  refine tick5 H.tk hR.b tC r2 fun K' NF=>?_
  refine PQ C2 HC (S:={S with gk:=if i0=0 then S.gk else vZ S.gk S.x p (64*i0)}) z p i0 m hz hp hi hst hR.m hR.b Hw pX GZ hl hm100 fun ab hF hM hB=>NF _ _ ⟨_,rfl,hF,?_,hR.e.fr hF ne3 ne4,hB⟩
  have hx:=hR.m.xl
  have e:a9 (if i0=0 then Hv (if i0=0 then S.gk else vZ S.gk S.x p (64*i0))else(if i0=0 then S.gk else vZ S.gk S.x p (64*i0))) (64*i0) (sub S.x (p+64*i0) (min 64 (z-64*i0)))=vZ S.gk S.x p (64*i0+min 64 (z-64*i0)):=by
   rw[←UA S.gk S.x p (64*i0) (min 64 (z-64*i0)) (by have:S.x.length=10240:=hx;omega)]
   by_cases c:i0=0
   ·subst c
    rw[if_pos rfl,if_pos rfl,ramC_0]
   ·rw[if_neg c,if_neg c]
  rw[←e]
  exact hM
 intro m
 induction m with
 |zero=>
  intro i0 hi0 rows env i B hR tC Hw pX GZ hl hi hh hn
  refine j6 H hh (by omega) hm hR.b (by rw[tC];decide) (step 0 i0 rows B (by omega) (by omega) hR tC Hw pX GZ hl) fun env' ab UD ⟨Ve,I5⟩=>?_
  rw[if_pos rfl,if_pos rfl,show 64*i0+min 64 (z-64*i0)=z by omega]at I5
  exact hn env' ab UD Ve I5
 |succ m ih=>
  intro i0 hi0 rows env i B hR tC Hw pX GZ hl hi hh hn
  refine j6 H hh (by omega) hm hR.b (by rw[tC];decide) (step (m+1) i0 rows B (by omega) (by omega) hR tC Hw pX GZ hl) fun env' ab UD ⟨Ve,I5⟩=>?_
  rw[if_neg (by omega),if_neg (by omega),show 64*i0+min 64 (z-64*i0)=64*(i0+1) by omega]at I5
  refine ih (i0+1) (by omega) ab env' (i+1) {B with at_:=((64*(i0+1):Nat):Int),left:=((m+1:Nat):Int)} (by rw[if_neg (by omega)];exact I5) tC Hw pX rfl rfl (by omega) UD fun lM lN T4 DR hR2=>?_
  exact hn lM lN (by rw[show i+(m+1)+1=i+1+m+1 by omega];exact T4) (Ve.trans DR) hR2
theorem Zo(H:RnC C C1)(hm:most≤100000)(n z:Nat)(hz:z≤2048){rows:Rows}{env:Env}{i:Nat}{B:Bt}(hR:GK rows L S b B R l)(tC:B.ph=6)(hl:B.left=1)(pX:B.kf.s=z)(yT:B.kf.dg.length=32)(hsum:dU (S.gk.take z)=B.kf.dg)(hi:i<most)(hh:Ev L b most i env)
  (hn:∀env' ab,Ev L b most (i+1) env'→Fr [b] rows ab→GK ab L S b {B with left:=1,ph:=7} R l→jd (aw C gU) Q n env' ab):jd (aw C gU) Q (n+1) env rows:=by
 obtain⟨C2,r2,HC⟩:=H.tk.k1
 have hF:Fr [b] rows (rows.set b (some ⟨jM,[jF {B with left:=0}]⟩)):=(Fr.refl _ _).set (by simp) _
 have pR:cz (rows.set b (some ⟨jM,[jF {B with left:=0}]⟩)) b {B with left:=0}:=aG hR.b
 have Nh:=hR.fr hF pR
 have t:Tk C1 L b rows (fun ab=>Fr [b] rows ab∧GK ab L S b {B with left:=1,ph:=7} R l):=by
  refine tick6 H.tk hR.b tC hl r2 fun K' NF=>?_
  exact Ni C2 HC z hz Nh.m pR pX yT (fun h=>absurd hsum h) fun _ ab Ve hB=>NF _ _ ⟨_,rfl,hF.trans Ve,Nh.fr Ve hB⟩
 exact j6 H hh hi hm hR.b (by rw[tC];decide) t fun env' ab UD hz=>hn env' ab UD hz.1 hz.2
theorem go_lock(H:RnC C C1)(hm:most≤100000)(n:Nat){rows:Rows}{env:Env}{i:Nat}{B:Bt}(hR:GK rows L S b B R l)(Dq:(l.getD 0 (0,[])).1=0)(wx:(l.getD 1 (0,[])).1=0)(tC:B.ph=7)(hl:B.left=1)(hr:cL B.kf=true)(yT:B.kf.dg.length=32)(hi:i<most)(hh:Ev L b most i env)
  (hn:∀env' ab c',Ev L b most (i+1) env'→c'.w=S.c.w→Fr (L.all b) rows ab→fB ab L {S with st:=1,c:=c'}→cz ab b {B with left:=0,ph:=8}→jd (aw C gU) Q n env' ab):jd (aw C gU) Q (n+1) env rows:=by
 obtain⟨C2,r2,HC⟩:=H.tk.o1
 have hF:Fr [b] rows (rows.set b (some ⟨jM,[jF {B with left:=0}]⟩)):=(Fr.refl _ _).set (by simp) _
 have pR:cz (rows.set b (some ⟨jM,[jF {B with left:=0}]⟩)) b {B with left:=0}:=aG hR.b
 have Nh:=hR.fr hF pR
 have t:Tk C1 L b rows (fun ab=>∃c':pU,c'.w=S.c.w∧Fr (L.all b) rows ab∧fB ab L {S with st:=1,c:=c'}∧cz ab b {B with left:=0,ph:=8}):=by
  refine tick7 H.tk hR.b tC hl r2 fun K' NF=>?_
  exact PT C2 HC Nh.m pR Nh.e Dq wx hr yT fun ab c' hw Ve hM hB=>NF _ _ ⟨rfl,c',hw,(hF.mono fun x hx=>by simp only[List.mem_singleton]at hx;subst hx;exact List.mem_cons_self ..).trans Ve,hM,hB⟩
 exact j6 H hh hi hm hR.b (by rw[tC];decide) t fun env' ab UD ⟨c',h1,h2,h3,h4⟩=>hn env' ab c' UD h1 h2 h3 h4
end
end iC
end Go.Am
namespace Go.Am
set_option linter.unusedSimpArgs false
set_option linter.unusedVariables false
attribute [local congr] cd bt cg bu bw bO bg bx bz bP a7 bQ bA b9
namespace iC
open Go.Am.F
set_option maxRecDepth 10000
theorem sub_eq{x y:List (BitVec 8)}{a n:Nat}(hl:x.length=y.length)(h:∀t,a≤t→t<a+n→x.getD t 0#8=y.getD t 0#8):sub x a n=sub y a n:=by
 apply List.ext_getElem?
 intro i
 simp only[sub,List.getElem?_take,List.getElem?_drop]
 by_cases c:i<n
 ·rw[if_pos c,if_pos c]
  have:=h (a+i) (by omega) (by omega)
  by_cases c2:a+i<x.length
  ·simp only[List.getD_eq_getElem?_getD,List.getElem?_eq_getElem c2,List.getElem?_eq_getElem (hl▸c2:a+i<y.length),Option.getD_some]at this⊢
   rw[this]
  ·rw[List.getElem?_eq_none (by omega),List.getElem?_eq_none (by omega)]
 ·rw[if_neg c,if_neg c]
theorem sub_sub{x:List (BitVec 8)}{a n b m:Nat}(h:b+m≤n):sub (sub x a n) b m=sub x (a+b) m:=by
 apply List.ext_getElem?
 intro i
 simp only[sub,List.getElem?_take,List.getElem?_drop]
 by_cases c:i<m
 ·rw[if_pos c,if_pos c,if_pos (by omega),show a+(b+i)=a+b+i by omega]
 ·rw[if_neg c,if_neg c]
theorem GL{x bH:List (BitVec 8)}{least:Int}{j:Nat}(hx:x.length=10240)(hj:j≤1)(h:gT x bH least j=0):
  ∃z:Nat,(gq x j).1.s=z∧4≤z∧z≤2048∧cL (gq x j).1=true∧(gq x j).1.dg.length=32∧nZ x j+z≤4096*j+4096∧dU (sub x (nZ x j) z)=(gq x j).1.dg∧least≤(gq x j).1.v∧(gq x j).2.2.1=sub x (nZ x j) z∧so bH ((sub x (4096*j) 4096).take 48) (gq x j).2.1=0∧(gq x j).2.2.2=0:=by
 unfold gT Gw at h
 unfold gq nZ
 have hl:(sub x (4096*j) 4096).length=4096:=j9 (by omega)
 have Lb:=fun n m (h:n+m≤4096)=>(sub_sub (x:=x) (a:=4096*j) (n:=4096) (b:=n) (m:=m) h)
 generalize sub x (4096*j) 4096=q at*
 have yT:=Rm q
 by_cases c1:(cR q).2.2.2=0
 ·rw [if_neg (by simp [c1])] at h
  by_cases c2:so bH (q.take 48) (cR q).2.1=0
  ·rw [if_neg (by simp [c2])] at h
   by_cases c3:(cR q).1.v<least
   ·rw[if_pos c3]at h;exact absurd h (by decide)
   ·rw[if_neg c3]at h
    by_cases c4:dU (cR q).2.2.1=(cR q).1.dg
    ·obtain⟨hr,s,hs,h4,h5,hp,hn⟩:=BW c1
     have e:sub q (50+eZ q) s=sub x (4096*j+50+eZ q) s:=by
      rw[Nat.add_assoc];exact Lb _ s (by omega)
     exact⟨s,hs,h4,h5,hr,yT,by omega,by rw[←e,←hp];exact c4,by omega,by rw[←e];exact hp,c2,c1⟩
    ·rw[if_pos c4]at h;exact absurd h (by decide)
  ·rw[if_pos c2]at h;exact absurd h c2
 ·rw[if_pos c1]at h;exact absurd h c1
def sC(S:wM):Cho:=pL (dH S.c) (dJ (some (S.x,false))).1 (gT S.x (jE S.c) (iS S.c) 0) (gT S.x (jE S.c) (iS S.c) 1)
def nxB(S:wM):Bool:=(sC S).c&&j4 (some (S.x,false)) (sC S).s
def KT(S:wM):List (BitVec 8):=bif nxB S then IL S.x (jL (some (S.x,false)) (sC S).s 0)else S.x
theorem RN(S:wM):(KT S).length=S.x.length:=by
 unfold KT
 cases nxB S
 ·rfl
 ·exact me _ _
theorem RO(S:wM)(hx:S.x.length=10240)(a n:Nat)(h:a+n≤8192):sub (KT S) a n=sub S.x a n:=by
 refine sub_eq (RN S) fun t h1 h2=>?_
 unfold KT
 cases nxB S
 ·rfl
 ·exact AM (by omega) t (.inl (by rcases vX (some (S.x,false))with e|e<;>rw[e]<;>omega))
theorem Kz(S:wM)(hx:S.x.length=10240){j:Nat}(hj:j≤1):nZ (KT S) j=nZ S.x j:=by
 unfold nZ
 rw[RO S hx _ _ (by omega)]
theorem selBad{l:Int}(h:¬(1≤l∧l≤3))(s:JS)(e0 e1:Int):(pL l s e0 e1).i=-1∧(pL l s e0 e1).e=(pL l eE 0 0).e:=by
 unfold pL
 by_cases h1:l=4
 ·rw[if_pos h1,if_pos h1];exact⟨rfl,rfl⟩
 ·rw[if_neg h1,if_neg h1,if_pos (by omega),if_pos (by omega)];exact⟨rfl,rfl⟩
theorem UF{gk x:List (BitVec 8)}{p z:Nat}(hp:p+z≤x.length):(vZ gk x p z).take z=sub x p z:=by
 have hl:(sub x p z).length=z:=j9 hp
 unfold vZ a9
 rw[List.take_zero,List.nil_append]
 exact List.take_left' hl
theorem Zp(c:pU)(h:c.ws.length=64):(jE c).length=56:=by rw[jE,nC,List.length_take,List.length_drop,List.length_map,h];rfl
def PW:Bt:=⟨0,-1,eS,false,0,1,0,0,.raw (.slice none 0 0),yM 0 eS (.raw (.slice none 0 0)),yM 0 eS (.raw (.slice none 0 0)),.raw (.slice none 0 0),0,0⟩
theorem all_s(L:Ly)(b:Nat):∀x∈[b,L.s],x∈L.all b:=by simp[Ly.all]
theorem all_m(L:Ly)(b:Nat):∀x∈[b,L.m],x∈L.all b:=by simp[Ly.all]
theorem Zq(L:Ly)(b:Nat):∀x∈[b],x∈L.all b:=by simp[Ly.all]
section
variable {C C1:be} {L:Ly} {S:wM} {R:List (List (BitVec 8))} {l:KS} {b most:Nat}
theorem RP{Q:fa→Env→Rows→Prop}(H:RnC C C1)(hm:most≤100000){z p F i:Nat}{rows:Rows}{env:Env}{B:Bt}(hF:40≤F)(hz4:4≤z)(hz:z≤2048)(hp:p+z≤10240)(hst:S.st=0)(hR:GK rows L S b B R l)(Dq:(l.getD 0 (0,[])).1=0)(wx:(l.getD 1 (0,[])).1=0)
  (tC:B.ph=5)(Hw:B.DQ=(p:Int))(pX:B.kf.s=z)(GZ:B.at_=0)(hlf:B.left=((z+63)/64:Nat))(yT:B.kf.dg.length=32)(hr:cL B.kf=true)(hsum:dU (sub S.x p z)=B.kf.dg)(hi:i+(z+63)/64+2≤most)(hh:Ev L b most i env)
  (hq:∀env' ab c' B',Ev L b most (i+(z+63)/64+2) env'→c'.w=S.c.w→Fr (L.all b) rows ab→fB ab L {S with st:=1,gk:=vZ S.gk S.x p z,c:=c'}→cz ab b B'→B'.ph=8→B'.sl=B.sl→B'.kf=B.kf→Q (.exit 0) env' ab):jd (aw C gU) Q F env rows:=by
 obtain⟨m,qj⟩:∃m,(z+63)/64=m+1:=⟨(z+63)/64-1,by omega⟩
 obtain⟨f,rfl⟩:∃f,F=(f+1+1+1)+m+1:=⟨F-(m+4),by omega⟩
 have hx:=hR.m.xl
 refine go_copy (S:=S) H hm (f+1+1+1) z p hz hp hst m 0 (by omega) rows env i B (by rw[if_pos rfl];exact hR) tC Hw pX GZ (by rw[hlf,qj]) (by omega) hh fun env1 pK DL IS Nh=>?_
 refine Zo H hm (f+1+1) z hz Nh rfl rfl pX yT (by rw[UF (by omega)];exact hsum) (by omega) DL fun lM lN T4 DR hR2=>?_
 refine go_lock H hm (f+1) hR2 Dq wx rfl rfl hr yT (by omega) T4 fun Wh lg c' hh3 hw Zk hM hB=>?_
 refine GJ hh3 hB (show¬((8:Int)<8) by decide) fun env4 hh4=>?_
 refine hq env4 lg c' _ ?_ hw (((IS.mono (all_s L b)).trans (DR.mono (Zq L b))).trans Zk) hM hB rfl rfl rfl
 rw[qj]
 exact hh4
theorem Nj(H:RnC C C1)(I3:73≤most)(hm:most≤100000){rows:Rows}(hR:GK rows L S b PW R l)(hst:S.st=0)(Dq:(l.getD 0 (0,[])).1=0)(wx:(l.getD 1 (0,[])).1=0){K:D→Rows→Prop}
  (h9:(sC S).i=-1→∀ab (n:Nat) B',n≤36→Fr [b] rows ab→cz ab b B'→B'.ph=9→B'.e=(sC S).e→fB ab L S→K (.raw (it (n:Int))) ab)
  (h8:∀(j z:Nat),j≤1→(sC S).i=j→gT S.x (jE S.c) (iS S.c) j=0→(gq S.x j).1.s=z→∀ab c' B',c'.w=S.c.w→Fr (L.all b) rows ab→fB ab L {st:=1,gk:=vZ S.gk (KT S) (nZ S.x j) z,x:=KT S,c:=c'}→cz ab b B'→B'.ph=8→B'.sl=j→B'.kf=(gq S.x j).1→
   K (.raw (it ((38+(z+63)/64+(bif nxB S then 2 else 0):Nat):Int))) ab):
  aR C 3 iL cv [.ptr jM b [0],.ptr jb L.M [0],.raw (it (most:Int))] rows K:=by
 refine ag rfl ?_
 rw[UE]
 simp only[cv,tD,j5,iL,↓aj,ak,simprocAttr,aa]
 have hQ:∀(env:Env) (ab:Rows) (i:Nat),Ev L b most i env→K (.raw (it (i:Int))) ab→Ob 0 (Wp C (.seq (.region false [⟨some 31,.mv (.tmp 7),none⟩,⟨some 6,.mv (.tmp 31),none⟩]) .ret) (Jo [.tmp 6] K)) (.exit 0) env ab:=by
  intro env ab i hh hk
  simp only[Ev,has]at hh
  simp only[↓aj,ak,simprocAttr,aa,hh]
  exact hk
 have Cb:Ev L b most 0 [(7,.raw (it 0)),(6,.raw (it 0)),(0,.ptr jM b [0]),(1,.ptr jb L.M [0]),(2,.raw (it (most:Int)))]:=by simp only[Ev,has,↓aj,ak,simprocAttr,aa]
 generalize Ob 0 _=Q at*
 refine fX 100 ?_
 have hx:=hR.m.xl
 have Nz:=Zp S.c hR.m.ch.len
 obtain⟨Cs,rs,HS⟩:=H.tk.s1
 have hF0:Fr [b] rows (rows.set b (some ⟨jM,[jF {PW with left:=0}]⟩)):=(Fr.refl _ _).set (by simp) _
 have pR:cz (rows.set b (some ⟨jM,[jF {PW with left:=0}]⟩)) b {PW with left:=0}:=aG hR.b
 have Nh:=hR.fr hF0 pR
 have t0:Tk C1 L b rows (fun ab=>((1≤dH S.c∧dH S.c≤3)→Fr [b] rows ab∧∃p,live ab p=some ⟨L8,bs (jE S.c)⟩∧cz ab b {PW with ph:=1,left:=17,iI:=dH S.c,least:=iS S.c,bH:= .sl L8 p [] 0 56 false})∧
   (¬(1≤dH S.c∧dH S.c≤3)→Fr [b] rows ab∧∃d,cz ab b {PW with ph:=9,left:=0,e:=(pL (dH S.c) eE 0 0).e,iI:=dH S.c,least:=iS S.c,bH:=d})):=by
  refine tick0 H.tk hR.b rfl rfl rs fun K' NF=>?_
  exact Uw Cs HS Nh.m pR (fun c ab p hF hp hl hB=>NF _ _ ⟨_,rfl,fun _=>⟨hF0.trans hF,p,hl,hB⟩,fun h=>absurd c h⟩) (fun c ab d hF hB=>NF _ _ ⟨_,rfl,fun h=>absurd h c,fun _=>⟨hF0.trans hF,d,hB⟩⟩)
 refine j6 (n:=99) H Cb (by omega) hm hR.b (show(0:Int)<8 by decide) t0 fun env1 pK DL Qr=>?_
 by_cases c:1≤dH S.c∧dH S.c≤3
 ·obtain⟨IS,p,hlp,hB1⟩:=Qr.1 c
  have hR2:=hR.fr IS hB1
  have hP1:IT pK {PW with ph:=1,left:=17,iI:=dH S.c,least:=iS S.c,bH:= .sl L8 p [] 0 56 false} (jE S.c):=⟨p,by rw[Nz],hlp⟩
  refine RM (bH:=jE S.c) H hm (by omega) 0 (by omega) 82 16 (by omega) pK env1 1 _ hR2 hP1 rfl rfl (by omega) DL fun lM lN q2 T4 DR hB2=>?_
  have hR3:=hR2.fr DR hB2
  have hP2:=hP1.fr (B':={({PW with ph:=1,left:=17,iI:=dH S.c,least:=iS S.c,bH:= .sl L8 p [] 0 56 false}:Bt).GB 0 (Vf S.x (jE S.c) (iS S.c) 0 q2)with ph:=((0:Nat):Int)+2,left:=if 0=0 then 17 else 1}) hB1 DR rfl
  refine RM (bH:=jE S.c) H hm (by omega) 1 (by omega) 65 16 (by omega) lN lM 18 _ hR3 hP2 rfl rfl (by omega) T4 fun Wh lg q3 hh3 Zk hB3=>?_
  have hR4:=hR3.fr Zk hB3
  have HY:Fr [b] rows lg:=(IS.trans DR).trans Zk
  obtain⟨B3,hB,p1,p2,p3,p4,p5,p6⟩:∃B3:Bt,cz lg b B3∧B3.ph=3∧B3.left=1∧B3.v0=Vf S.x (jE S.c) (iS S.c) 0 q2∧B3.v1=Vf S.x (jE S.c) (iS S.c) 1 q3∧B3.ops= .raw (.slice none 0 0)∧B3.iI=dH S.c:=⟨_,hB3,rfl,rfl,rfl,rfl,rfl,rfl⟩
  replace hR4:GK lg L S b B3 R l:=⟨hR4.m,hR4.e,hB⟩
  clear hB3 hR3 hP2 hR2 hP1 Qr t0 hB2 hB1
  obtain⟨Ch,rh,HCh⟩:=H.tk.h1
  have hF4:Fr [b] lg (lg.set b (some ⟨jM,[jF {B3 with left:=0}]⟩)):=(Fr.refl _ _).set (by simp) _
  have hb4:cz (lg.set b (some ⟨jM,[jF {B3 with left:=0}]⟩)) b {B3 with left:=0}:=aG hB
  have hR5:=hR4.fr hF4 hb4
  have UZ:∀j,gT S.x (jE S.c) (iS S.c) j=0→RC S.x (jE S.c) (iS S.c) j=(gq S.x j).1:=fun j h=>if_pos h
  have hzz:∀j,j≤1→gT S.x (jE S.c) (iS S.c) j=0→∃z:Nat,(RC S.x (jE S.c) (iS S.c) j).s=z∧z≤2048:=fun j hj h=>by
   obtain⟨z,Qr,-,U5,-⟩:=GL hx hj h
   exact⟨z,by rw[UZ j h];exact Qr,U5⟩
  have t3:Tk C1 L b lg (fun ab=>((sC S).i=-1∧Fr [b] lg ab∧∃B',cz ab b B'∧B'.ph=9∧B'.e=(sC S).e)∨
    (∃j z:Nat,j≤1∧(sC S).i=j∧gT S.x (jE S.c) (iS S.c) j=0∧(gq S.x j).1.s=z∧nxB S=false∧Fr [b] lg ab∧∃B',cz ab b B'∧B'.ph=5∧B'.sl=j∧B'.kf=(gq S.x j).1∧B'.DQ=(nZ S.x j:Int)∧B'.at_=0∧B'.left=((z+63)/64:Nat))∨
    (∃j ro q:Nat,j≤1∧(sC S).i=j∧gT S.x (jE S.c) (iS S.c) j=0∧nxB S=true∧Fr [b] lg ab∧lg.length≤q∧live ab ro=some ⟨AL,(jL (some (S.x,false)) (sC S).s q).map JO.D⟩∧live ab q=some ⟨L8,bs (cU (fg (some (S.x,false)) (sC S).s))⟩∧
     ∃B',cz ab b B'∧B'.ph=4∧B'.sl=j∧B'.kf=(gq S.x j).1∧B'.ops= .sl AL ro [] 0 2 true)):=by
   refine tick3 H.tk hB p1 p2 rh fun K' NF=>?_
   refine PP Ch HCh (c:=sC S) hR5.m hb4 p3 p4 p5 ⟨hzz 0 (by omega),hzz 1 (by omega)⟩ (by rw[show({B3 with left:=0}:Bt).iI=dH S.c from p6];rfl) ?_ ?_ ?_
   ·intro hi ab hF Vg
    exact NF _ _ ⟨_,rfl,.inl ⟨hi,hF4.trans hF,_,Vg,rfl,rfl⟩⟩
   ·intro j z m o hj hi he hmj pX G5 ab hF Vg
    have he':gT S.x (jE S.c) (iS S.c) j=0:=by rcases(by omega:j=0∨j=1)with rfl|rfl<;>exact he
    have ZZ:m=(gq S.x j).1:=by rw[←UZ j he',hmj];rcases(by omega:j=0∨j=1)with rfl|rfl<;>rfl
    exact NF _ _ ⟨_,rfl,.inr (.inl ⟨j,z,hj,hi,he',by rw[←ZZ];exact pX,G5,hF4.trans hF,_,Vg,rfl,rfl,ZZ,rfl,rfl,rfl⟩)⟩
   ·intro j m ro q hj hi he hmj G5 ab hF hro hq h1 h2 Vg
    have he':gT S.x (jE S.c) (iS S.c) j=0:=by rcases(by omega:j=0∨j=1)with rfl|rfl<;>exact he
    have ZZ:m=(gq S.x j).1:=by rw[←UZ j he',hmj];rcases(by omega:j=0∨j=1)with rfl|rfl<;>rfl
    exact NF _ _ ⟨_,rfl,.inr (.inr ⟨j,ro,q,hj,hi,he',G5,hF4.trans hF,by rw[List.length_set]at hq;exact hq,h1,h2,_,Vg,rfl,rfl,ZZ,rfl⟩)⟩
  refine j6 (n:=64) H hh3 (by omega) hm hB (by rw[p1];decide) t3 fun env4 rows4 hh4 hz4=>?_
  rcases hz4 with⟨hi,hF,B',Vg,e1,e2⟩|⟨j,z,hj,hi,he,pX,G5,hF,B',Vg,e1,e2,e3,e4,e5,e6⟩|⟨j,ro,q,hj,hi,he,G5,hF,hql,hro,hq,B',Vg,e1,e2,e3,e4⟩
  ·refine GJ (n:=63) hh4 Vg (by rw[e1];decide) fun env5 hh5=>hQ _ _ _ hh5 ?_
   exact h9 hi rows4 _ _ (by omega) (HY.trans hF) Vg e1 e2 (hR.m.fr hR.b (HY.trans hF))
  ·have hR6:=hR4.fr hF Vg
   obtain⟨z',k1,k2,k3,k4,k5,k6,k7,-⟩:=GL hx hj he
   have hzz':z'=z:=by rw[k1]at pX;omega
   subst hzz'
   have lz:KT S=S.x:=by unfold KT;rw[G5];rfl
   refine RP (F:=64) H hm (by decide) k2 k3 (by omega) hst hR6 Dq wx e1 e4 (by rw[e3];exact k1) e5 e6 (by rw[e3];exact k5) (by rw[e3];exact k4) (by rw[e3];exact k7) (by omega) hh4 fun env5 rows5 c' B5 hh5 hw hF5 hM hB5 f1 f2 f3=>hQ _ _ _ hh5 ?_
   have:=h8 j z' hj hi he k1 rows5 c' B5 hw (((HY.trans hF).mono (Zq L b)).trans hF5) (by rw[lz];exact hM) hB5 f1 (f2.trans e2) (f3.trans e3)
   rw[G5]at this
   rw[show 18+16+1+1+(z'+63)/64+2=38+(z'+63)/64+0 by omega]
   exact this
  ·have hR6:=hR4.fr hF Vg
   obtain⟨z,k1,k2,k3,k4,k5,k6,k7,-⟩:=GL hx hj he
   have lz:KT S=IL S.x (jL (some (S.x,false)) (sC S).s q):=by unfold KT;rw[G5];rfl
   have hlen3:=hR4.m.fl.lt
   refine Zn H hm 62 j z ro q (sC S).s hj k3 hR6 e1 e2 (by rw[e3];exact k1) e4 hro hq (by omega) (by omega) hh4 fun env5 rows5 d hh5 hF5 hR7=>?_
   rw[←lz]at hR7
   have zj:(KT S).length=10240:=by rw[RN];exact hx
   refine RP (F:=62) (S:={S with x:=KT S}) (p:=nZ (KT S) j) H hm (by decide) k2 k3 (by rw[Kz S hx hj];omega) hst hR7 Dq wx rfl rfl (by rw[show({B' with ops:=d,DQ:=(nZ (KT S) j:Int),at_:=0,ph:=5,left:=((z+63)/64:Nat)}:Bt).kf=B'.kf from rfl,e3];exact k1) rfl rfl (by rw[show({B' with ops:=d,DQ:=(nZ (KT S) j:Int),at_:=0,ph:=5,left:=((z+63)/64:Nat)}:Bt).kf=B'.kf from rfl,e3];exact k5) (by rw[show({B' with ops:=d,DQ:=(nZ (KT S) j:Int),at_:=0,ph:=5,left:=((z+63)/64:Nat)}:Bt).kf=B'.kf from rfl,e3];exact k4) ?_ (by omega) hh5 fun env6 rows6 c' B6 UC hw hF6 hM hB6 f1 f2 f3=>hQ _ _ _ UC ?_
   ·rw[show({B' with ops:=d,DQ:=(nZ (KT S) j:Int),at_:=0,ph:=5,left:=((z+63)/64:Nat)}:Bt).kf=B'.kf from rfl,e3,Kz S hx hj,←k7]
    exact congrArg dU (RO S hx _ _ (by omega))
   ·have:=h8 j z hj hi he k1 rows6 c' B6 hw ((((HY.trans hF).mono (Zq L b)).trans (hF5.mono (all_m L b))).trans hF6) (by rw[Kz S hx hj]at hM;exact hM) hB6 f1 (f2.trans e2) (f3.trans e3)
    rw[G5]at this
    rw[show 18+16+1+1+2+(z+63)/64+2=38+(z+63)/64+2 by omega]
    exact this
 ·obtain⟨IS,d,hB1⟩:=Qr.2 c
  have hbad:=selBad (l:=dH S.c) (by omega) (dJ (some (S.x,false))).1 (gT S.x (jE S.c) (iS S.c) 0) (gT S.x (jE S.c) (iS S.c) 1)
  refine GJ (n:=98) DL hB1 (show¬((9:Int)<8) by decide) fun lM T4=>hQ _ _ _ T4 ?_
  exact h9 hbad.1 pK 1 _ (by omega) IS hB1 rfl hbad.2.symm (hR.m.fr hR.b IS)
end
end iC
end Go.Am

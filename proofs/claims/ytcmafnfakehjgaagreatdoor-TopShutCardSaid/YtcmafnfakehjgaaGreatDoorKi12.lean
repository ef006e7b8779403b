import Derived.Test.YtcmafnfakehjgaaGreatDoorKi11
set_option linter.unusedSimpArgs false
set_option linter.unusedVariables false
set_option maxRecDepth 10000
set_option maxHeartbeats 4000000
namespace Go.Am
attribute [local congr] cJ bI cK bJ bK b6 bw bN bO b7 bi b8 bP cI
namespace kj
open Go.Am.F
theorem Fm.fr{X:List Nat}{rows aa:Rows}{L:Ly}{R:List (List (BitVec 8))}{l:Lh}(h:Fm rows L R l)(f:Fr X rows aa)(h1:L.e∉X)(h2:L.sl∉X):Fm aa L R l:=
 h.keep λq row hq hn=>f q row hq (by rcases hn with rfl|rfl<;>assumption)
theorem btSh{rows:Rows}{b:Nat}{B:Bt}(h:cO rows b B){q:Nat}{s:Sh}{l:List D}(hq:live rows q=some ⟨s,l⟩)(hs:s≠jN):q≠b:=bB hq h hs
structure Aw (rows:Rows) (L:Ly) (S:zp) (b:Nat) (B:Bt) (R:List (List (BitVec 8))) (l:Lh):Prop where
 m:jd rows L S
 e:Fm rows L R l
 b:cO rows b B
theorem Aw.fr{rows aa:Rows}{L:Ly}{S:zp}{b:Nat}{B B':Bt}{R:List (List (BitVec 8))}{l:Lh}(h:Aw rows L S b B R l)(f:Fr [b] rows aa)(hb:cO aa b B'):Aw aa L S b B' R l:=by
 obtain⟨h1,h2,h3⟩:=h
 refine⟨h1.fr h3 f,h2.fr f ?_ ?_,hb⟩
 ·obtain⟨k,n,he⟩:=h2.e
  simpa using btSh h3 he (by intro h;cases h)
 ·simpa using btSh h3 h2.s (by intro h;cases h)
def MR(rows:Rows)(B:Bt)(bA:List (BitVec 8)):Prop:=∃p,B.bA= .sl L8 p [] 0 bA.length false/\live rows p=some ⟨L8,bs bA⟩
theorem MR.fr{rows aa:Rows}{b:Nat}{B B':Bt}{bA:List (BitVec 8)}(h:MR rows B bA)(hb:cO rows b B)(f:Fr [b] rows aa)(e:B'.bA=B.bA):MR aa B' bA:=by
 obtain⟨p,h1,h2⟩:=h
 exact⟨p,e.trans h1,f _ _ h2 (by simpa using btSh hb h2 (by intro h;cases h))⟩
theorem sub_sub{x:List (BitVec 8)}{a n b m:Nat}(h:b+m<=n):sub (sub x a n) b m=sub x (a+b) m:=by
 apply abX
 intro i
 simp only[sub,abi,aa5]
 by_cases c:i<m
 ·rw[aaJ c,aaJ c,aaJ (by omega),show a+(b+i)=a+b+i by omega]
 ·rw[aaC c,aaC c]
theorem Rk{x bA:List (BitVec 8)}{least:Int}{j:Nat}(hx:x.length=10240)(hj:j<=1)(h:mF x bA least j=0):
  ∃z:Nat,(gG x j).1.s=z/\4<=z/\z<=2048/\cT (gG x j).1=true/\(gG x j).1.dg.length=32/\sv x j+z<=4096*j+4096/\eY (sub x (sv x j) z)=(gG x j).1.dg/\least<=(gG x j).1.v/\(gG x j).2.2.1=sub x (sv x j) z/\wY bA ((sub x (4096*j) 4096).take 48) (gG x j).2.1=0/\(gG x j).2.2.2=0:=by
 unfold mF JP at h
 unfold gG sv
 have hl:(sub x (4096*j) 4096).length=4096:=tz (by omega)
 have Sx:=λn m (h:n+m<=4096)=>(sub_sub (x:=x) (a:=4096*j) (n:=4096) (b:=n) (m:=m) h)
 generalize sub x (4096*j) 4096=q at*
 have zH:=Wl q
 by_cases c1:(dD q).2.2.2=0
 ·rw [aaC (by simp [c1])] at h
  by_cases c2:wY bA (q.take 48) (dD q).2.1=0
  ·rw [aaC (by simp [c2])] at h
   by_cases c3:(dD q).1.v<least
   ·rw[aaJ c3]at h;exact absurd h (by decide)
   ·rw[aaC c3]at h
    by_cases c4:eY (dD q).2.2.1=(dD q).1.dg
    ·obtain⟨hr,s,hs,h4,h5,hp,hn⟩:=Fh c1
     have e:sub q (50+fX q) s=sub x (4096*j+50+fX q) s:=by
      rw[abO];exact Sx _ s (by omega)
     exact⟨s,hs,h4,h5,hr,zH,by omega,by rw[<-e,<-hp];exact c4,by omega,by rw[<-e];exact hp,c2,c1⟩
    ·rw[aaJ c4]at h;exact absurd h (by decide)
  ·rw[aaJ c2]at h;exact absurd h c2
 ·rw[aaJ c1]at h;exact absurd h c1
def zI(S:zp):Cho:=Lb (eB S.c) (nj (some (S.x,false))).1 (mF S.x (oa S.c) (mO S.c) 0) (mF S.x (oa S.c) (mO S.c) 1)
theorem MS{cD x:List (BitVec 8)}{p z:Nat}(hp:p+z<=x.length):(qG cD x p z).take z=sub x p z:=by
 have hl:(sub x p z).length=z:=tz hp
 unfold qG aP
 rw[acF,aaZ]
 exact acS hl
theorem keyC_len(c:pj)(h:c.ws.length=64):(oa c).length=56:=by rw[oa,pN,aau,aat,aaA,h];rfl
def OE:Bt:=⟨0,-1,fA,false,0,1,0,0,.raw (.slice none 0 0),La 0 fA (.raw (.slice none 0 0)),La 0 fA (.raw (.slice none 0 0)),.raw (.slice none 0 0),0,0⟩
structure Rl (S S':zp):Prop where
 st:S'.st=0
 co:S'.co=S.co
 pp:S'.pp=S.pp
 pt:S'.pt=S.pt
theorem all_s(L:Ly)(b:Nat):∀x∈[b,L.s],x∈L.all b:=by simp[Ly.all]
theorem J5(L:Ly)(b:Nat):∀x∈[b],x∈L.all b:=by simp[Ly.all]
section
variable {C1:aU} {L:Ly} {S S':zp} {R:List (List (BitVec 8))} {l:Lh} {b i:Nat} {G E:Nat->Rows->Prop} {rows:Rows} {B:Bt} {bA:List (BitVec 8)}
structure Drv (C1:aU) (L:Ly) (S:zp) (b:Nat) (G E:Nat->Rows->Prop):Prop where
 step:∀(i:Nat) (rows:Rows) (B:Bt) (S':zp) (R:List (List (BitVec 8))) (l:Lh),i<100->Aw rows L S' b B R l->Rl S S'->B.ph<8->Tk C1 L b rows (λv aa=>Fr (L.all b) rows aa/\bif v then E (i+1) aa else G (i+1) aa)->G i rows
theorem Drv.go(D:Drv C1 L S b G E)(hi:i<100)(hR:Aw rows L S' b B R l)(hS:Rl S S')(hp:B.ph<8){Z:Rows->Prop}(t:Tk C1 L b rows (λv aa=>v=false/\Z aa))(hz:∀aa,Z aa->Fr (L.all b) rows aa/\G (i+1) aa):G i rows:=
 D.step i rows B S' R l hi hR hS hp (t.mono λv aa ⟨hv,z⟩=>by subst hv;exact hz aa z)
theorem Aw.ne(h:Aw rows L S b B R l):L.e∉[b,L.s]/\L.sl∉[b,L.s]:=by
 obtain⟨h1,h2,h3⟩:=h
 obtain⟨k,n,he⟩:=h2.e
 have hs:=h1.sp
 have a1:=btSh h3 he (by intro h;cases h)
 have a2:=btSh h3 h2.s (by intro h;cases h)
 have a5:=bB he hs (by intro h;cases h)
 have a6:=bB h2.s hs (by intro h;cases h)
 exact⟨by simp[a1,a5],by simp[a2,a6]⟩
theorem WC(H:Sj C1)(D:Drv C1 L S b G E)(hS:Rl S S')(qL:bA.length<=1000)(j:Nat)(hj:j<=1):∀(m:Nat),m<=16->∀(rows:Rows) (i:Nat) (B:Bt),Aw rows L S' b B R l->MR rows B bA->B.ph=j+1->B.left=((m+1:Nat):Int)->i+m<100->
  (∀aa q,Fr [b] rows aa->cO aa b {B.JW j (YX S'.x bA B.least j q)with ph:=j+2,left:=if j=0 then 17 else 1}->G (i+m+1) aa)->G i rows:=by
 intro m
 induction m with
 | zero =>
  intro _ rows i B hR hP wM hl hi hn
  obtain⟨C2,r2,HL⟩:=H.l1
  obtain⟨p,hp,hlp⟩:=hP
  have zw:B.left=1:=hl
  have hF:Fr [b] rows (rows.set b (some ⟨jN,[ml {B with left:=0}]⟩)):=(Fr.refl _ _).set (by simp) _
  have zt:cO (rows.set b (some ⟨jN,[ml {B with left:=0}]⟩)) b {B with left:=0}:=aD hR.b
  have hP2:=MR.fr (B':={B with left:=0}) ⟨p,hp,hlp⟩ hR.b hF rfl
  obtain⟨p',hp',hlp'⟩:=hP2
  have hrun:Gr (aB C2 2 cQ cP) [.ptr jN b [0],.ptr fq L.M [0]] (rows.set b (some ⟨jN,[ml {B with left:=0}]⟩)) (PU λaa=>false=false/\Fr [b] rows aa/\∃q,cO aa b {B.JW j (YX S'.x bA B.least j q)with ph:=j+2,left:=if j=0 then 17 else 1}):=by
   intro K hK
   refine UA C2 HL (S:=S') j hj (hR.m.fr hR.b hF) zt wM (Eq.subst (motive:=λd=>aY (rows.set b (some ⟨jN,[ml {B with left:=0}]⟩)) d bA) hp'.symm (aY.own hlp' _ rfl)) qL (hK _ _ ⟨rfl,rfl,(hF.trans ((Fr.refl _ _).set (by simp) _)).trans (Fr.app _ _ _),(rows.set b (some ⟨jN,[ml {B with left:=0}]⟩)).length,?_⟩)
   have e:∀v,{({B with left:=0}:Bt).JW j v with ph:=(j:Int)+2,left:=if j=0 then 17 else 1}=({B.JW j v with ph:=(j:Int)+2,left:=if j=0 then 17 else 1}:Bt):=λv=>by
    unfold Bt.JW;split<;>rfl
   rw[e]
   exact ab (aD zt) _
  have fin:Tk C1 L b rows (λv aa=>v=false/\Fr [b] rows aa/\∃q,cO aa b {B.JW j (YX S'.x bA B.least j q)with ph:=j+2,left:=if j=0 then 17 else 1}):=by
   rcases(by omega:j=0\/j=1)with rfl|rfl
   ·exact tick1 H hR.b wM zw r2 hrun
   ·exact tick2 H hR.b wM zw r2 hrun
  exact D.go (by omega) hR hS (by rw[wM];omega) fin λaa hz=>⟨hz.1.mono (J5 L b),hn aa hz.2.choose hz.1 hz.2.choose_spec⟩
 | succ m ih =>
  intro hm16 rows i B hR hP wM hl hi hn
  have hF:Fr [b] rows (rows.set b (some ⟨jN,[ml {B with left:=((m+1:Nat):Int)}]⟩)):=(Fr.refl _ _).set (by simp) _
  have zt:cO (rows.set b (some ⟨jN,[ml {B with left:=((m+1:Nat):Int)}]⟩)) b {B with left:=((m+1:Nat):Int)}:=aD hR.b
  refine D.go (Z:=λaa=>aa=rows.set b (some ⟨jN,[ml {B with left:=((m+1:Nat):Int)}]⟩)) (by omega) hR hS (by rw[wM];omega) (tick_dec H m (by omega) hR.b (by rw[wM];omega) hl ⟨rfl,rfl⟩) λaa hz=>?_
  subst hz
  refine⟨hF.mono (J5 L b),ih (by omega) _ _ {B with left:=((m+1:Nat):Int)} (hR.fr hF zt) (hP.fr hR.b hF rfl) wM rfl (by omega) λfb q Bq Kv=>?_⟩
  have:=hn fb q (hF.trans Bq) ?_
  ·rw[show i+1+m+1=i+(m+1)+1 by omega];exact this
  ·have e:∀v,{({B with left:=((m+1:Nat):Int)}:Bt).JW j v with ph:=(j:Int)+2,left:=if j=0 then 17 else 1}=({B.JW j v with ph:=(j:Int)+2,left:=if j=0 then 17 else 1}:Bt):=λv=>by
    unfold Bt.JW;split<;>rfl
   rw[e]at Kv
   exact Kv
theorem go_copy(H:Sj C1)(D:Drv C1 L S b G E)(hS:Rl S S')(z p:Nat)(hz:z<=2048)(hp:p+z<=10240):∀(m i0:Nat),i0+m+1=(z+63)/64->∀(rows:Rows) (i:Nat) (B:Bt),Aw rows L {S' with cD:=if i0=0 then S'.cD else qG S'.cD S'.x p (64*i0)} b B R l->B.ph=5->B.pay=(p:Int)->B.qh.s=z->B.at_=((64*i0:Nat):Int)->B.left=((m+1:Nat):Int)->i+m<100->
  (∀aa,Fr [b,L.s] rows aa->Aw aa L {S' with cD:=qG S'.cD S'.x p z} b {B with at_:=(z:Int),left:=1,ph:=6} R l->G (i+m+1) aa)->G i rows:=by
 obtain⟨C2,r2,HC⟩:=H.c1
 have step:∀(m i0:Nat) (rows:Rows) (B:Bt),64*i0<z->m<=100->Aw rows L {S' with cD:=if i0=0 then S'.cD else qG S'.cD S'.x p (64*i0)} b B R l->B.ph=5->B.pay=(p:Int)->B.qh.s=z->B.at_=((64*i0:Nat):Int)->B.left=((m+1:Nat):Int)->
   Tk C1 L b rows (λv aa=>v=false/\Fr [b,L.s] rows aa/\Aw aa L {S' with cD:=qG S'.cD S'.x p (64*i0+min 64 (z-64*i0))} b {B with at_:=((64*i0+min 64 (z-64*i0):Nat):Int),left:=if m=0 then 1 else(m:Int),ph:=if m=0 then 6 else B.ph} R l):=by
  intro m i0 rows B hi hm100 hR wM Rf xa Lo hl
  obtain⟨ne3,ne4⟩:=hR.ne
  refine tick5 H hR.b wM r2 λK' Li=>?_
  refine UC C2 HC (S:={S' with cD:=if i0=0 then S'.cD else qG S'.cD S'.x p (64*i0)}) z p i0 m hz hp hi hS.st hR.m hR.b Rf xa Lo hl hm100 λaa hF hM hB=>Li _ _ ⟨_,rfl,rfl,hF,?_,hR.e.fr hF ne3 ne4,hB⟩
  have hx:=hR.m.xl
  have e:aP (if i0=0 then Lf (if i0=0 then S'.cD else qG S'.cD S'.x p (64*i0))else(if i0=0 then S'.cD else qG S'.cD S'.x p (64*i0))) (64*i0) (sub S'.x (p+64*i0) (min 64 (z-64*i0)))=qG S'.cD S'.x p (64*i0+min 64 (z-64*i0)):=by
   rw[<-Y0 S'.cD S'.x p (64*i0) (min 64 (z-64*i0)) (by have:S'.x.length=10240:=hx;omega)]
   by_cases c:i0=0
   ·subst c
    rw[aaJ rfl,aaJ rfl,ramC_0]
   ·rw[aaC c,aaC c]
  rw[<-e]
  exact hM
 intro m
 induction m with
 |zero=>
  intro i0 hi0 rows i B hR wM Rf xa Lo hl hi hn
  refine D.go (by omega) hR ⟨hS.st,hS.co,hS.pp,hS.pt⟩ (by rw[wM];decide) (step 0 i0 rows B (by omega) (by omega) hR wM Rf xa Lo hl) λaa ⟨Y9,Gs⟩=>⟨Y9.mono (all_s L b),?_⟩
  rw[aaJ rfl,aaJ rfl,show 64*i0+min 64 (z-64*i0)=z by omega]at Gs
  exact hn aa Y9 Gs
 |succ m ih=>
  intro i0 hi0 rows i B hR wM Rf xa Lo hl hi hn
  refine D.go (by omega) hR ⟨hS.st,hS.co,hS.pp,hS.pt⟩ (by rw[wM];decide) (step (m+1) i0 rows B (by omega) (by omega) hR wM Rf xa Lo hl) λaa ⟨Y9,Gs⟩=>⟨Y9.mono (all_s L b),?_⟩
  rw[aaC (by omega),aaC (by omega),show 64*i0+min 64 (z-64*i0)=64*(i0+1) by omega]at Gs
  refine ih (i0+1) (by omega) aa (i+1) {B with at_:=((64*(i0+1):Nat):Int),left:=((m+1:Nat):Int)} (by rw[aaC (by omega)];exact Gs) wM Rf xa rfl rfl (by omega) λfb Bq hR2=>?_
  have:=hn fb (Y9.trans Bq) hR2
  rw[show i+1+m+1=i+(m+1)+1 by omega];exact this
theorem go_check(H:Sj C1)(D:Drv C1 L S b G E)(hS:Rl S S')(z:Nat)(hz:z<=2048)(hR:Aw rows L S' b B R l)(wM:B.ph=6)(hl:B.left=1)(xa:B.qh.s=z)(zH:B.qh.dg.length=32)(hsum:eY (S'.cD.take z)=B.qh.dg)(hi:i<100)
  (hn:∀aa,Fr [b] rows aa->Aw aa L S' b {B with left:=1,ph:=7} R l->G (i+1) aa):G i rows:=by
 obtain⟨C2,r2,HC⟩:=H.k1
 have hF:Fr [b] rows (rows.set b (some ⟨jN,[ml {B with left:=0}]⟩)):=(Fr.refl _ _).set (by simp) _
 have zt:cO (rows.set b (some ⟨jN,[ml {B with left:=0}]⟩)) b {B with left:=0}:=aD hR.b
 have hR1:=hR.fr hF zt
 have t:Tk C1 L b rows (λv aa=>v=false/\Fr [b] rows aa/\Aw aa L S' b {B with left:=1,ph:=7} R l):=by
  refine tick6 H hR.b wM hl r2 λK' Li=>?_
  exact Rg C2 HC z hz hR1.m zt xa zH (λh=>absurd hsum h) λ_ aa Y9 hB=>Li _ _ ⟨_,rfl,rfl,hF.trans Y9,hR1.fr Y9 hB⟩
 exact D.go hi hR hS (by rw[wM];decide) t λaa hz=>⟨hz.1.mono (J5 L b),hn aa hz.1 hz.2⟩
theorem go_lock(H:Sj C1)(D:Drv C1 L S b G E)(hS:Rl S S')(hR:Aw rows L S' b B R l)(G9:(l.getD 0 (0,[])).1=0)(zw:(l.getD 1 (0,[])).1=0)(wM:B.ph=7)(hl:B.left=1)(hr:cT B.qh=true)(zH:B.qh.dg.length=32)(hi:i<100)
  (hn:∀aa c',c'.w=S'.c.w->Fr (L.all b) rows aa->jd aa L {S' with st:=1,c:=c',co:=gI (536870912#32+BitVec.ofInt 32 B.qh.e)}->cO aa b {B with left:=0,ph:=8}->E (i+1) aa):G i rows:=by
 obtain⟨C2,r2,HC⟩:=H.o1
 have hF:Fr [b] rows (rows.set b (some ⟨jN,[ml {B with left:=0}]⟩)):=(Fr.refl _ _).set (by simp) _
 have zt:cO (rows.set b (some ⟨jN,[ml {B with left:=0}]⟩)) b {B with left:=0}:=aD hR.b
 have hR1:=hR.fr hF zt
 refine D.step i rows B S' R l hi hR hS (by rw[wM];decide) ?_
 refine tick7 H hR.b wM hl r2 λK' Li=>?_
 refine UK C2 HC hR1.m zt hR1.e G9 zw hr zH λaa c' hw Y9 hM hB=>?_
 have hFF:=(hF.mono λx hx=>by simp only[aba]at hx;subst hx;exact ad4 ..).trans Y9
 exact Li _ _ ⟨rfl,hFF,hn aa c' hw hFF hM hB⟩
theorem OF(H:Sj C1)(D:Drv C1 L S b G E)(hR:Aw rows L S b OE R l)(hst:S.st=0)(G9:(l.getD 0 (0,[])).1=0)(zw:(l.getD 1 (0,[])).1=0)(hlf:1<=eB S.c/\eB S.c<=3)(hci:(zI S).i=0)(hcc:(zI S).c=false)(e0:mF S.x (oa S.c) (mO S.c) 0=0){z:Nat}(xa:(gG S.x 0).1.s=z)
  (hn:∀aa c' B',c'.w=S.c.w->Fr (L.all b) rows aa->jd aa L {S with st:=1,cD:=qG S.cD S.x (sv S.x 0) z,c:=c',co:=gI (536870912#32+BitVec.ofInt 32 (gG S.x 0).1.e)}->cO aa b B'->B'.ph=8->B'.sl=0->B'.tr=(zI S).t->B'.qh=(gG S.x 0).1->E (38+(z+63)/64) aa):G 0 rows:=by
 have hS:Rl S S:=⟨hst,rfl,rfl,rfl⟩
 have hx:=hR.m.xl
 have hkl:=keyC_len S.c hR.m.ch.len
 obtain⟨z',k1,k2,k3,k4,k5,k6,k7,-⟩:=Rk hx (by decide:0<=1) e0
 have hzz':z'=z:=by rw[k1]at xa;omega
 subst hzz'
 have hlm:lookM S.x (oa S.c) (mO S.c) 0=(gG S.x 0).1:=aaJ e0
 obtain⟨Cs,rs,HS⟩:=H.s1
 have UL:Fr [b] rows (rows.set b (some ⟨jN,[ml {OE with left:=0}]⟩)):=(Fr.refl _ _).set (by simp) _
 have zt:cO (rows.set b (some ⟨jN,[ml {OE with left:=0}]⟩)) b {OE with left:=0}:=aD hR.b
 have hR1:=hR.fr UL zt
 have t0:Tk C1 L b rows (λv aa=>v=false/\Fr [b] rows aa/\∃p,live aa p=some ⟨L8,bs (oa S.c)⟩/\cO aa b {OE with ph:=1,left:=17,mU:=eB S.c,least:=mO S.c,bA:= .sl L8 p [] 0 56 false}):=by
  refine tick0 H hR.b rfl rfl rs λK' Li=>?_
  exact YW Cs HS hR1.m zt (λc aa p hF hp hl hB=>Li _ _ ⟨_,rfl,rfl,UL.trans hF,p,hl,hB⟩) (λc=>absurd hlf c)
 refine D.go (by decide) hR hS (show(0:Int)<8 by decide) t0 λjl ⟨hF1,p,hlp,hB1⟩=>⟨hF1.mono (J5 L b),?_⟩
 have hR2:=hR.fr hF1 hB1
 have hP1:MR jl {OE with ph:=1,left:=17,mU:=eB S.c,least:=mO S.c,bA:= .sl L8 p [] 0 56 false} (oa S.c):=⟨p,by rw[hkl],hlp⟩
 refine WC (bA:=oa S.c) H D hS (by omega) 0 (by omega) 16 (by omega) jl 1 _ hR2 hP1 rfl rfl (by omega) λfb q2 Bq hB2=>?_
 have hR3:=hR2.fr Bq hB2
 have hP2:=hP1.fr (B':={({OE with ph:=1,left:=17,mU:=eB S.c,least:=mO S.c,bA:= .sl L8 p [] 0 56 false}:Bt).JW 0 (YX S.x (oa S.c) (mO S.c) 0 q2)with ph:=((0:Nat):Int)+2,left:=if 0=0 then 17 else 1}) hB1 Bq rfl
 refine WC (bA:=oa S.c) H D hS (by omega) 1 (by omega) 16 (by omega) fb 18 _ hR3 hP2 rfl rfl (by omega) λmy q3 Y8 hB3=>?_
 have hR4:=hR3.fr Y8 hB3
 have ZD:Fr [b] rows my:=(hF1.trans Bq).trans Y8
 obtain⟨B3,hB,p1,p2,p3,p4,p5,p6⟩:∃B3:Bt,cO my b B3/\B3.ph=3/\B3.left=1/\B3.v0=YX S.x (oa S.c) (mO S.c) 0 q2/\B3.v1=YX S.x (oa S.c) (mO S.c) 1 q3/\B3.ops= .raw (.slice none 0 0)/\B3.mU=eB S.c:=⟨_,hB3,rfl,rfl,rfl,rfl,rfl,rfl⟩
 replace hR4:Aw my L S b B3 R l:=⟨hR4.m,hR4.e,hB⟩
 clear hB3 hR3 hP2 hR2 hP1 t0 hB2 hB1
 obtain⟨Ch,rh,HCh⟩:=H.h1
 have hF4:Fr [b] my (my.set b (some ⟨jN,[ml {B3 with left:=0}]⟩)):=(Fr.refl _ _).set (by simp) _
 have hb4:cO (my.set b (some ⟨jN,[ml {B3 with left:=0}]⟩)) b {B3 with left:=0}:=aD hB
 have hR5:=hR4.fr hF4 hb4
 rw[YX,e0,hlm]at p3
 have t3:Tk C1 L b my (λv aa=>v=false/\Fr [b] my aa/\∃B',cO aa b B'/\B'.ph=5/\B'.sl=0/\B'.qh=(gG S.x 0).1/\B'.pay=(sv S.x 0:Int)/\B'.at_=0/\B'.left=((z'+63)/64:Nat)/\B'.tr=(zI S).t):=by
  refine tick3 H hB p1 p2 rh λK' Li=>?_
  exact Rd Ch HCh (c:=zI S) hR5.m hb4 p3 p4 p5 k1 k3 (by rw[show({B3 with left:=0}:Bt).mU=eB S.c from p6];unfold zI;rw[e0]) hci hcc λaa hF hB'=>Li _ _ ⟨_,rfl,rfl,hF4.trans hF,_,hB',rfl,rfl,rfl,rfl,rfl,rfl,rfl⟩
 refine D.go (by decide) hR4 hS (by rw[p1];decide) t3 λAx ⟨hF,B',hB',e1,e2,e3,e4,e5,e6,e7⟩=>⟨hF.mono (J5 L b),?_⟩
 have hR6:=hR4.fr hF hB'
 obtain⟨m,wg⟩:∃m,(z'+63)/64=m+1:=⟨(z'+63)/64-1,by omega⟩
 refine go_copy H D hS z' (sv S.x 0) k3 (by omega) m 0 (by omega) Ax 36 B' (by rw[aaJ rfl];exact hR6) e1 e4 (by rw[e3];exact k1) e5 (by rw[e6,wg]) (by omega) λDP hF5 hR7=>?_
 refine go_check H D (S':={S with cD:=qG S.cD S.x (sv S.x 0) z'}) ⟨hst,rfl,rfl,rfl⟩ z' k3 hR7 rfl rfl (by rw[<-k1,<-e3]) (by show B'.qh.dg.length=32;rw[e3];exact k5) (by show eY ((qG S.cD S.x (sv S.x 0) z').take z')=B'.qh.dg;rw[MS (by omega),e3];exact k7) (by omega) λrows6 hF6 hR8=>?_
 refine go_lock H D (S':={S with cD:=qG S.cD S.x (sv S.x 0) z'}) ⟨hst,rfl,rfl,rfl⟩ hR8 G9 zw rfl rfl (by show cT B'.qh=true;rw[e3];exact k4) (by show B'.qh.dg.length=32;rw[e3];exact k5) (by omega) λrows7 c' hw hF7 hM hB7=>?_
 have:=hn rows7 c' _ hw (((((ZD.trans hF).mono (J5 L b)).trans (hF5.mono (all_s L b))).trans (hF6.mono (J5 L b))).trans hF7) (by rw[<-e3];exact hM) hB7 rfl e2 e7 e3
 rw[show 36+m+1+1+1=38+(z'+63)/64 by omega]
 exact this
end
theorem mK{C:aU}{env:Env}{rows:Rows}(x t):jf C env rows (.qA x) t=dX C env rows (.qA x) (PV env rows t):=by
 simp only[jf]
 congr 1
abbrev mG:Sh:= .cons .ref (.cons .ref (.cons .ref (.cons .ref (.cons .ref (.cons .ref (.cons .ref (.cons cN (.cons LI .nil))))))))
def G6(f q p:Nat)(m b k:D):D:= .agg mG [.ptr SF f [0],.ptr Kz q [0],.ptr qI p [0],m,b,ir,k,.raw (u32 0#32),.raw (it 0)]
theorem J6(f q p m b k):(G6 f q p m b k).get [2]=some (.ptr qI p [0]):=rfl
theorem sy(f q p m b k):(G6 f q p m b k).get [3]=some m:=rfl
theorem so_g4(f q p m b k):(G6 f q p m b k).get [4]=some b:=rfl
theorem so_g5(f q p m b k):(G6 f q p m b k).get [5]=some ir:=rfl
theorem so_g6(f q p m b k):(G6 f q p m b k).get [6]=some k:=rfl
theorem so_s6(f q p m b k d):(G6 f q p m b k).set [6] d=some (G6 f q p m b d):=rfl
theorem wN(L c p):(Bp L c p).get [0]=some (.ptr du L.s [0]):=rfl
theorem WD(L c p):(Bp L c p).get [2]=some c:=rfl
theorem ma_s2(L c p)(c':qH):(Bp L c p).set [2] (eO c')=some (Bp L (eO c') p):=rfl
theorem ma_s3(L c p d):(Bp L c p).set [3] d=some (Bp L c d):=rfl
theorem ev_g3(t c i a w):(G5 t c i a w).get [3]=some (.raw (u32 a)):=rfl
theorem ev_g4(t c i a w):(G5 t c i a w).get [4]=some w:=rfl
structure Lv (cs:List (Nat×Row)) (rows:Rows) (o p b:Nat) (L:Ly) (mk:D) (c:qH) (cD l outs:List (BitVec 8)) (t:BitVec 32):Prop where
 so:live rows o=some ⟨mG,[G6 L.f L.q p (.ptr fq L.M [0]) (.ptr jN b [0]) mk]⟩
 ma:live rows L.M=some ⟨fq,[Bp L (eO c) (.ptr qI p [0])]⟩
 sp:live rows L.s=some ⟨du,[jU 1 cD (yF l) L.f L.q]⟩
 po:∃od,live rows p=some ⟨qI,[DO od t]⟩/\jy L8 od rows (bs outs)
 bt:∃B:Bt,cO rows b B/\B.ph=8
 rl:cD.length=8192
 pl:ptT l
 ce:∀q y,(q,y)∈cs->(y.sh=S7\/y.sh= .ar 32 L8)/\live rows q=some y
theorem UM{s:Sh}{d:D}{rows aa:Rows}{els:List D}(h:jy s d rows els)(f:∀q l,live rows q=some ⟨s,l⟩->live aa q=some ⟨s,l⟩):jy s d aa els:=by
 rcases h with h|⟨r,ex,e,hl⟩
 ·exact .inl h
 ·exact .inr ⟨r,ex,e,f _ _ hl⟩
theorem ptT_s{l p:List (BitVec 8)}(h:ptT l)(a:Nat)(hp:a+p.length<=12\/16<=a/\a+p.length<=64):ptT (aP l a p):=by
 obtain⟨h1,h2⟩:=h
 refine⟨by rw[jT _ _ _ (by omega),h1],?_⟩
 rw[<-h2,aP]
 apply abX
 intro i
 simp only[abi,aa5]
 by_cases c:i<4
 ·rw[aaJ c,aaJ c]
  rcases hp with hp|⟨hp,-⟩
  ·rw[aaO (by rw[aap,aau];omega),aap,aau,aa5]
   congr 1
   omega
  ·rw[aaB,aaM (by rw[aau];omega),abi,aaJ (by omega)]
 ·rw[aaC c,aaC c]
theorem ptT_t{l:List (BitVec 8)}(h:ptT l)(y:BitVec 32):ptT (aP l 16 (MO y)):=ptT_s h 16 (.inr ⟨by decide,show 16+4<=64 by decide⟩)
theorem Lv.fr{cs:List (Nat×Row)}{rows aa:Rows}{o p b:Nat}{L:Ly}{mk:D}{c c':qH}{cD l l' outs outs':List (BitVec 8)}{t t':BitVec 32}(h:Lv cs rows o p b L mk c cD l outs t)(f:∀q row,live rows q=some row->q≠p->q≠L.s->q≠L.M->row.sh≠L8->live aa q=some row)
  (hm:live aa L.M=some ⟨fq,[Bp L (eO c') (.ptr qI p [0])]⟩)(hs:live aa L.s=some ⟨du,[jU 1 cD (yF l') L.f L.q]⟩)(hp:∃od,live aa p=some ⟨qI,[DO od t']⟩/\jy L8 od aa (bs outs'))(hl:ptT l'):Lv cs aa o p b L mk c' cD l' outs' t':=by
 obtain⟨jn,l7,hsp,⟨od,Bj,hO⟩,⟨B,hB,wM⟩,yx,qm,hce⟩:=h
 have hce':∀q y,(q,y)∈cs->(y.sh=S7\/y.sh= .ar 32 L8)/\live aa q=some y:=λq y hm=>by
  obtain⟨h1,h2⟩:=hce q y hm
  refine⟨h1,f _ _ h2 (bB (s:=y.sh) (l:=y.els) h2 Bj ?_) (bB (s:=y.sh) (l:=y.els) h2 hsp ?_) (bB (s:=y.sh) (l:=y.els) h2 l7 ?_) ?_⟩<;>rcases h1 with e|e<;>rw[e]<;>intro h<;>cases h
 exact⟨f _ _ jn (bB jn Bj (by intro h;cases h)) (bB jn hsp (by intro h;cases h)) (bB jn l7 (by intro h;cases h)) (by intro h;cases h),hm,hs,hp,⟨B,f _ _ hB (bB hB Bj (by intro h;cases h)) (bB hB hsp (by intro h;cases h)) (bB hB l7 (by intro h;cases h)) (by intro h;cases h),wM⟩,yx,hl,hce'⟩
structure LiC (C:aU):Prop where
 t0:C.fn 198=none
 t1:∃C1,C.cV 198=some (aB C1 2 jC jB)/\PtC C1
 c0:C.fn 12=none
 c1:∃C1,C.cV 12=some (aB C1 3 dM dL)/\CsC C1
 wh:C.fn 165=some JH
 w0:C.fn 199=none
 w1:∃C1,C.cV 199=some (aB C1 4 iS iR)
theorem live_run(C:aU)(H:LiC C){cs:List (Nat×Row)}{rows:Rows}{o p b x:Nat}{L:Ly}{mk:D}{c:qH}{cD l outs:List (BitVec 8)}{t w:BitVec 32}(h:Lv cs rows o p b L mk c cD l outs t)(ho:x+4<=4096)(Si:x %4=0)(hx:c.pc.toNat=536870912+x)(hw:(cD.drop x).take 4=lw w)(hww:w=1073742007#32\/w=109052179#32\/w=110100755#32\/w=111#32){K:D->Rows->Prop}
  (hk:∀aa,Lv cs aa o p b L mk (c.doS (vT w)) cD (aP l 16 (MO (t+1#32))) outs (t+1#32)->K (.cd []) aa):aB C 1 fU fT [.ptr mG o [0]] rows K:=by
 refine ae rfl ?_
 unfold fT fU
 obtain⟨jn,l7,hsp,⟨od,Bj,hO⟩,⟨B,hB,wM⟩,yx,qm,hce⟩:=h
 obtain⟨T1,t1,hT⟩:=H.t1
 obtain⟨S1,s1,hS⟩:=H.c1
 simp only[-List.reduceReplicate,G4,inZ,evZ]
 simp only[↓ag,ah,simprocAttr,aK,jn,l7,so_g5,J6,sy,wN,H.t0,t1]
 refine MP T1 hT hsp Bj qm λR=>?_
 have nop:o≠p:=bB jn Bj (by intro h;cases h)
 have nos:o≠L.s:=bB jn hsp (by intro h;cases h)
 have nMp:L.M≠p:=bB l7 Bj (by intro h;cases h)
 have nMo:o≠L.M:=bB jn l7 (by intro h;cases h)
 have nMs:L.M≠L.s:=bB l7 hsp (by intro h;cases h)
 have ZM:p≠L.s:=bB Bj hsp (by intro h;cases h)
 generalize hX:(rows.set p (some ⟨qI,[DO od (t+1#32)]⟩)).set L.s (some ⟨du,[jU 1 cD (yF (aP l 16 (MO (t+1#32)))) L.f L.q]⟩)++R=jl
 have k1:∀q row,live rows q=some row->q≠p->q≠L.s->live jl q=some row:=λq row hq h1 h2=>by
  rw[<-hX]
  exact ab ((aA (abh h2)).trans ((aA (abh h1)).trans hq)) R
 have Bb:live jl p=some ⟨qI,[DO od (t+1#32)]⟩:=by
  rw[<-hX]
  exact ab ((aA (abh ZM)).trans (aD Bj)) R
 have Ha:live jl L.s=some ⟨du,[jU 1 cD (yF (aP l 16 (MO (t+1#32)))) L.f L.q]⟩:=by
  rw[<-hX]
  exact ab (aD ((aA ZM).trans hsp)) R
 have UN:=k1 _ _ jn nop nos
 have Le:=k1 _ _ l7 nMp nMs
 clear hX
 have sA:=λl=>ab UN l
 have Rm:=λl=>ab Le l
 simp only[↓ag,ah,simprocAttr,aK,UN,Le,sA,Rm,J6,sy,wN,WD,mK,H.c0,s1]
 refine Y4 S1 hS (ab Ha _) yx ho Si hx hw hww λR2=>?_
 have kW:=λrows k=>Uk rows 0#32 k
 have hw0:bU 0#32=(0,0):=by decide
 rw[hw0]at kW
 have hqM:=jr Le
 simp only[aca,acP]at kW
 simp only[↓ag,ah,simprocAttr,aK,abu,aaZ,UN,Le,sA,Rm,hqM,J6,sy,wN,WD,ma_s2,mK,sx,DL,ev_g3,H.wh,kW]
 have k3:∀R3 q row,live jl q=some row->q≠L.M->live (jl.set L.M (some ⟨fq,[Bp L (eO (c.doS (vT w))) (.ptr qI p [0])]⟩)++R3) q=some row:=λR3 q row hq hn=>ab ((aA (abh hn)).trans hq) R3
 refine hk _ (Lv.fr ⟨jn,l7,hsp,⟨od,Bj,hO⟩,⟨B,hB,wM⟩,yx,qm,hce⟩ (λq row hq n1 n2 n3 _=>k3 _ _ _ (k1 q row hq n1 n2) n3) (hqM.2.2.1 _ _) (k3 _ _ _ Ha (abh nMs)) ⟨od,k3 _ _ _ Bb (abh nMp),UM hO λq l' hq=>?_⟩ (ptT_t qm _))
 exact k3 _ _ _ (k1 q _ hq (bB hq Bj (by intro h;cases h)) (bB hq hsp (by intro h;cases h))) (bB hq l7 (by intro h;cases h))
theorem Za(C:aU)(H:LiC C){cs:List (Nat×Row)}{rows:Rows}{o p b x:Nat}{L:Ly}{mk:D}{c:qH}{cD l outs:List (BitVec 8)}{t:BitVec 32}(h:Lv cs rows o p b L mk c cD l outs t)(ho:x+4<=4096)(Si:x %4=0)(hx:c.pc.toNat=536870912+x)(hw:(cD.drop x).take 4=lw 2129955#32)(rq:c.x1=1073741824#32)(RX:outs.length<=90){K:D->Rows->Prop}
  (hk:∀aa,Lv cs aa o p b L mk c.nx cD (aP (aP l 16 (MO (t+1#32))) 0 [c.x2.setWidth 8]) (outs++[c.x2.setWidth 8]) (t+1#32)->K (.cd []) aa):aB C 1 fU fT [.ptr mG o [0]] rows K:=by
 refine ae rfl ?_
 unfold fT fU
 obtain⟨jn,l7,hsp,⟨od,Bj,hO⟩,⟨B,hB,wM⟩,yx,qm,hce⟩:=h
 obtain⟨T1,t1,hT⟩:=H.t1
 obtain⟨S1,s1,hS⟩:=H.c1
 simp only[-List.reduceReplicate,G4,inZ,evZ]
 simp only[↓ag,ah,simprocAttr,aK,jn,l7,so_g5,J6,sy,wN,H.t0,t1]
 refine MP T1 hT hsp Bj qm λR=>?_
 have nop:o≠p:=bB jn Bj (by intro h;cases h)
 have nos:o≠L.s:=bB jn hsp (by intro h;cases h)
 have nMp:L.M≠p:=bB l7 Bj (by intro h;cases h)
 have nMo:o≠L.M:=bB jn l7 (by intro h;cases h)
 have nMs:L.M≠L.s:=bB l7 hsp (by intro h;cases h)
 have ZM:p≠L.s:=bB Bj hsp (by intro h;cases h)
 generalize hX:(rows.set p (some ⟨qI,[DO od (t+1#32)]⟩)).set L.s (some ⟨du,[jU 1 cD (yF (aP l 16 (MO (t+1#32)))) L.f L.q]⟩)++R=jl
 have k1:∀q row,live rows q=some row->q≠p->q≠L.s->live jl q=some row:=λq row hq h1 h2=>by
  rw[<-hX]
  exact ab ((aA (abh h2)).trans ((aA (abh h1)).trans hq)) R
 have Bb:live jl p=some ⟨qI,[DO od (t+1#32)]⟩:=by
  rw[<-hX]
  exact ab ((aA (abh ZM)).trans (aD Bj)) R
 have Ha:live jl L.s=some ⟨du,[jU 1 cD (yF (aP l 16 (MO (t+1#32)))) L.f L.q]⟩:=by
  rw[<-hX]
  exact ab (aD ((aA ZM).trans hsp)) R
 have UN:=k1 _ _ jn nop nos
 have Le:=k1 _ _ l7 nMp nMs
 clear hX
 have sA:=λl=>ab UN l
 have Rm:=λl=>ab Le l
 simp only[↓ag,ah,simprocAttr,aK,UN,Le,sA,Rm,J6,sy,wN,WD,mK,H.c0,s1]
 have Ea:(aP l 16 (MO (t+1#32))).length=64:=(ptT_t qm _).1
 refine Y5 S1 hS (ab Ha _) Ea yx ho Si hx hw rq λR2 r ex hr=>?_
 obtain⟨W1,w1⟩:=H.w1
 have kW:=λrows k=>Uk rows 1073741824#32 k
 have hw0:bU 1073741824#32=(4,0):=by decide
 rw[hw0]at kW
 have hqs:=jr Ha
 simp only[hqs.1]at hr⊢
 generalize hX2:jl.set L.s (some ⟨du,[jU 1 cD (yF (aP (aP l 16 (MO (t+1#32))) 0 [c.x2.setWidth 8])) L.f L.q]⟩)=fb at hr⊢
 have k2:∀q row,live jl q=some row->q≠L.s->live fb q=some row:=λq row hq hn=>by
  rw[<-hX2]
  exact(aA (abh hn)).trans hq
 have tI:live fb L.s=some ⟨du,[jU 1 cD (yF (aP (aP l 16 (MO (t+1#32))) 0 [c.x2.setWidth 8])) L.f L.q]⟩:=by
  rw[<-hX2]
  exact aD Ha
 have hlen:jl.length=fb.length:=by rw[<-hX2,abe]
 clear hX2
 have Rn:=k2 _ _ UN nos
 have Zb:=k2 _ _ Le nMs
 have hp3:=k2 _ _ Bb ZM
 have hso4:=λl=>ab Rn l
 have Zc:=λl=>ab Zb l
 have hqM:=jr Zb
 have hso5:=λX l=>tE Rn (nMo) X l
 have hp5:=λX l=>tE hp3 (abh nMp) X l
 simp only[hlen,aaB,abu,aaZ,aap,aaP,aaV,abk,Nat.reduceAdd,abO]at hr⊢
 simp only[aca,acP,aby]at kW
 simp only[↓ag,ah,simprocAttr,aK,abu,aaZ,Rn,Zb,hso4,Zc,hso5,hqM,J6,sy,wN,WD,ma_s2,mK,sx,DL,ev_g3,ev_g4,H.wh,kW,H.w0,w1]
 have hr0:live R2 r=some ⟨L8,bs [c.x2.setWidth 8,(c.x2>>>8).setWidth 8,(c.x2>>>16).setWidth 8,(c.x2>>>24).setWidth 8]⟩:=by
  rw[bg]at hr
  exact(bg [_,_] R2 r).symm.trans hr
 have YP:∀X A B,live (fb.set L.M X++A::B::R2) (fb.length+(2+r))=some ⟨L8,bs [c.x2.setWidth 8,(c.x2>>>8).setWidth 8,(c.x2>>>16).setWidth 8,(c.x2>>>24).setWidth 8]⟩:=λX A B=>by
  rw[hqM.2.2.2.2.1]
  exact(bg [_,_] R2 r).trans hr0
 refine UJ W1 (hp5 _ _) (UM hO λq l' hq=>tE (k2 _ _ (k1 _ _ hq (bB hq Bj (by intro h;cases h)) (bB hq hsp (by intro h;cases h))) (bB hq hsp (by intro h;cases h))) (bB hq l7 (by intro h;cases h)) _ _) (by omega) (YP _ _ _) λaa od' hp' GV f=>?_
 have nod:∀q row,live rows q=some row->row.sh≠L8->∀ex n,od≠ .sl L8 q [] 0 n ex:=λq row hq hn=>ia hO (r:=q) (els':=row.els) (s':=row.sh) hq hn
 simp only[↓ag,ah,simprocAttr,BS]
 refine hk _ (Lv.fr ⟨jn,l7,hsp,⟨od,Bj,hO⟩,⟨B,hB,wM⟩,yx,qm,hce⟩ (λq row hq h1 h2 h3 h4=>f _ _ (tE (k2 _ _ (k1 _ _ hq h1 h2) h2) h3 _ _) h1 (nod _ _ hq h4)) (f _ _ (hqM.2.2.1 _ _) nMp (nod _ _ l7 (by intro h;cases h))) (f _ _ (tE tI (abh nMs) _ _) (abh ZM) (nod _ _ hsp (by intro h;cases h))) ⟨od',hp',GV⟩ (ptT_s (ptT_t qm _) 0 (.inl (by show 0+1<=12;decide))))
theorem uW(C:aU){rows:Rows}{o f q p b:Nat}{m k:D}{B:Bt}(jn:live rows o=some ⟨mG,[G6 f q p m (.ptr jN b [0]) k]⟩)(hb:cO rows b B){K:D->Rows->Prop}(hk:K (.raw (it B.ph)) rows):aB C 1 eh ee [.ptr mG o [0]] rows K:=by
 refine ae rfl ?_
 unfold ee eh
 simp only[cO,ml]at hb
 simp only[↓ag,ah,simprocAttr,aK,jn,hb,so_g4]
 exact hk
theorem mark_run(C:aU){rows:Rows}{o f q p:Nat}{m bt dg:D}{k:BitVec 8}{i:Int}(zH:dg.fits (.ar 32 L8)=true)(jn:live rows o=some ⟨mG,[G6 f q p m bt ir]⟩){K:D->Rows->Prop}
  (hk:∀aa mk,live aa o=some ⟨mG,[G6 f q p m bt mk]⟩->(∀q row,live rows q=some row->q≠o->live aa q=some row)->K (.cd []) aa):aB C 4 gV gU [.ptr mG o [0],.raw (u8 k),.raw (it i),dg] rows K:=by
 refine ae rfl ?_
 unfold gU gV
 have sA:=λl=>ab jn l
 simp only[↓ag,ah,simprocAttr,aK,jn,sA,so_g6,so_s6,zH,ir]
 exact hk _ _ (aD (sA _)) λq row hq hn=>(aA (abh hn)).trans (ab hq _)
theorem Zd(C:aU)(h0:C.fn 162=none)(h1:∃C1,C.cV 162=some (aB C1 4 gV gU)){rows:Rows}{o f q p b:Nat}{m:D}{B:Bt}(jn:live rows o=some ⟨mG,[G6 f q p m (.ptr jN b [0]) ir]⟩)(hb:cO rows b B)(hp:B.ph=8)(ht:B.tr=false){K:D->Rows->Prop}
  (hk:∀aa mk,live aa o=some ⟨mG,[G6 f q p m (.ptr jN b [0]) mk]⟩->(∀q row,live rows q=some row->q≠o->live aa q=some row)->K (.cd []) aa):aB C 1 iz iy [.ptr mG o [0]] rows K:=by
 refine ae rfl ?_
 unfold iy iz
 obtain⟨C1,h1⟩:=h1
 simp only[cO,ml,dw]at hb
 simp only[↓ag,ah,simprocAttr,aK,jn,hb,so_g4,hp,ht,h0,h1]
 refine mark_run C1 ((PW ..).trans (acy _)) jn λaa mk h' f=>?_
 simp only[↓ag,ah,simprocAttr,BS]
 exact hk _ _ h' f
variable {C1 C2 C3:aU}
structure OG (C C1 C2 C3:aU):Prop where
 ph0:C.fn 9=none
 ph1:∃C1,C.cV 9=some (aB C1 1 eh ee)
 ti0:C.fn 117=none
 ti1:C.cV 117=some (aB C1 2 cz cx)
 en0:C.fn 144=none
 en1:C.cV 144=some (aB C2 1 iz iy)
 li0:C.fn 143=none
 li1:C.cV 143=some (aB C3 1 fU fT)
theorem MU(C:aU)(H:OG C C1 C2 C3){rows:Rows}{o f q p b:Nat}{m k:D}{B:Bt}(jn:live rows o=some ⟨mG,[G6 f q p m (.ptr jN b [0]) k]⟩)(hb:cO rows b B)(hp:B.ph=8){K:D->Rows->Prop}(hl:∀K':D->Rows->Prop,(∀aa,K (.cd []) aa->K' (.cd []) aa)->aB C3 1 fU fT [.ptr mG o [0]] rows K'):aB C 1 fS fR [.ptr mG o [0]] rows K:=by
 refine ae rfl ?_
 unfold fR fS
 obtain⟨C0,h1⟩:=H.ph1
 simp only[↓ag,ah,simprocAttr,aK,H.ph0,h1]
 refine uW C0 jn hb ?_
 simp only[↓ag,ah,simprocAttr,aK,hp,H.li0,H.li1]
 refine hl _ λaa hk=>?_
 simp only[↓ag,ah,simprocAttr,BS]
 exact hk
theorem Ze(C:aU)(H:OG C C1 C2 C3){rows:Rows}{o f q p b:Nat}{L:Ly}{k:D}{B:Bt}(jn:live rows o=some ⟨mG,[G6 f q p (.ptr fq L.M [0]) (.ptr jN b [0]) k]⟩)(hb:cO rows b B)(hp:B.ph<8){Z:Bool->Rows->Prop}(t:Tk C1 L b rows Z){K:D->Rows->Prop}
  (k0:∀aa,Z false aa->K (.cd []) aa)(k1:∀aa,Z true aa->∀K':D->Rows->Prop,(∀fb,K (.cd []) fb->K' (.cd []) fb)->aB C2 1 iz iy [.ptr mG o [0]] aa K'):aB C 1 fS fR [.ptr mG o [0]] rows K:=by
 refine ae rfl ?_
 unfold fR fS
 obtain⟨C0,h1⟩:=H.ph1
 simp only[↓ag,ah,simprocAttr,aK,H.ph0,h1]
 refine uW C0 jn hb ?_
 have e8:(B.ph=8)=False:=aaw (by omega)
 have e9:(B.ph=9)=False:=aaw (by omega)
 simp only[↓ag,ah,simprocAttr,aK,jn,so_g4,sy,e8,e9,H.ti0,H.ti1]
 refine t _ λd aa hz=>?_
 obtain⟨v,rfl,hz⟩:=hz
 cases v
 ·simp only[↓ag,ah,simprocAttr,BS]
  exact k0 _ hz
 ·simp only[↓ag,ah,simprocAttr,H.en0,H.en1]
  refine k1 _ hz _ λfb hk=>?_
  simp only[↓ag,ah,simprocAttr,BS]
  exact hk
structure LmC (C:aU):Prop where
 hei:C.fn 48=some zj
 par:C.fn 49=some nS
 lvs:C.fn 50=some tw
 sit:C.fn 52=some Js
 bA:C.fn 51=some He
 lea:C.fn 53=some QM
 nod:C.fn 54=some QN
def uX(t o:BitVec 32)(id aM:List (BitVec 8))(N:List (List (BitVec 8))):Sg:=⟨t,o,id,aM,N,0#32,[],[],[]⟩
def hH(t:BitVec 32):Nat:=2^hT t.toNat
theorem OH{rows:Rows}{L:vQ}{s:Sg}(h:oc rows L s)(h1:s.id.length=16)(h2:s.aM.length=32)(h3:∀x∈s.ns,x.length=32)(h4:4<=s.ns.length)(h5:s.ns.length<=2048)(h6:s.ns.length %2=0):ob (s.v L)=true:=
 fy.2 ⟨h1,h2,h3,h4,h5,h6,Sg.Jv h⟩
theorem gB{rows:Rows}{a b:Nat}{s s':Sh}{l l':List D}(h:live rows a=some ⟨s,l⟩)(h':live rows b=some ⟨s',l'⟩)(hs:s≠s'):a≠b:=by
 rintro rfl
 rw[h]at h'
 injection h' with h'
 injection h' with h' _
 exact hs h'
theorem oc.setNs{rows:Rows}{L:vQ}{s:Sg}(h:oc rows L s){N:List (List (BitVec 8))}(hN:N.length=s.ns.length):oc (rows.set L.nr (some ⟨.ar 32 L8,N.map aV⟩)) L {s with ns:=N}:=by
 have n1:=gB h.n h.a (by decide)
 have n2:=gB h.n h.m (by decide)
 have n3:=gB h.n h.t (by decide)
 refine⟨?_,aD h.n,?_,?_,?_⟩
 ·rw[aA n1,h.a];simp only[E9,hN]
 ·rw[aA n2];exact h.m
 ·rw[aA n3];exact h.t
 ·rcases h.l with e|⟨r,ex,e,hl⟩
  ·exact .inl e
  ·have n4:=gB h.n hl (by decide)
   exact .inr ⟨r,ex,e,by rw[aA n4];exact hl⟩
theorem Ro(C:aU)(h:LmC C){rows:Rows}{t o:BitVec 32}{id aM:List (BitVec 8)}(ht:KA t.toNat=true)(ht2:hT t.toNat<=10)(ho:vi o.toNat=true)(iv:id.length=16)(ri:aM.length=32){K:D->Rows->Prop}
  (hk:∀aa L,oc aa L (uX t o id aM (mr o id aM (hH t)))->dz rows aa->rows.length<=L.r->rows.length<=L.nr->rows.length<=L.ms->rows.length<=L.mt->L.dl= .raw (.slice none 0 0)->K (.cd [.ptr ik L.r [0],.raw (it 0)]) aa):
  aB C 4 qQ qP [.raw (u32 t),.raw (u32 o),.agg (.ar 16 L8) (bs id),.agg (.ar 32 L8) (bs aM)] rows K:=by
 refine ae rfl ?_
 unfold qP qQ
 have hz:D.agg si [.raw (it 0),.raw (it 0),.raw (it 0)]=kq ⟨0,0,0⟩:=rfl
 have h1:=Hh ht
 have b0:∀n:Nat,((0:Int)<=(n:Int))=True:=λn=>aas (by omega)
 have c1:((10:Int)<((hT t.toNat:Nat):Int))=False:=aaw (by omega)
 have tI:=shl_it 2 (hT t.toNat) (by decide) (by omega)
 rw[show((2:Nat):Int)=2 from rfl]at tI
 have hHd:2^hT t.toNat=hH t:=rfl
 have hH2:2<=hH t:=by
  have:2^1<=2^hT t.toNat:=abK (by decide) h1
  exact this
 have hH10:hH t<=1024:=by
  have:2^hT t.toNat<=2^10:=abK (by decide) ht2
  exact this
 rw[hHd]at tI
 simp only[hz,eu]
 simp only[↓ag,ah,simprocAttr,aK,h.hei,Hg,h.par,pi,dC,ht,ho,c1,tI,b0,abw]
 have z1:wz (((2*hH t:Nat):Int)-1)=((2*hH t-1:Nat):Int):=by rw[bh (by omega)];omega
 refine⟨by omega,by omega,?_⟩
 rw[z1]
 generalize hHh:hH t=H at*
 obtain⟨L,lr,ln,lm,lt,le,ld⟩:∃L:vQ,L.r=rows.length+6/\L.nr=rows.length+3/\L.ms=rows.length+4/\L.mt=rows.length+5/\L.ne=true/\L.dl= .raw (.slice none 0 0):=⟨⟨_,_,_,_,_,_⟩,rfl,rfl,rfl,rfl,rfl,rfl⟩
 have hz32:List.replicate (2*H) (D.agg (.ar 32 L8) (bs sO))=(o6 o id aM H 0).map aV:=by simp[o6,aV]
 rw[hz32]
 have Zx:=Dt o id aM H
 have hn32:=T6 o id aM H
 refine bx (2*H-1) (λk env rs=>has env [(15,.raw (it ((2*H-1-k:Nat):Int))),(14,.ptr ik L.r [0]),(7,.ptr (.ar 32 L8) (rows.length+1) [0]),(6,.ptr (.ar 16 L8) rows.length [0]),(1,.raw (u32 o))]/\
  oc rs L (uX t o id aM (o6 o id aM H k))/\dz rows rs/\live rs rows.length=some ⟨.ar 16 L8,[.agg (.ar 16 L8) (bs id)]⟩/\live rs (rows.length+1)=some ⟨.ar 32 L8,[.agg (.ar 32 L8) (bs aM)]⟩) ?_ ?_ ⟨?_,⟨?_,?_,?_,?_,.inl ⟨rfl,ld⟩⟩,dz.app _ _,?_,?_⟩
 ·rintro k Vb env rs ⟨hw,hS,hK,r0,r1⟩ R hR
  simp only[has]at hw
  have hok:ob ((uX t o id aM (o6 o id aM H k)).v L)=true:=OH hS iv ri (hn32 k) (by show 4<=(o6 o id aM H k).length;rw[Zx];omega) (by show(o6 o id aM H k).length<=2048;rw[Zx];omega) (by show(o6 o id aM H k).length %2=0;rw[Zx];omega)
  have hlv:jq ((uX t o id aM (o6 o id aM H k)).v L)=H:=by show(o6 o id aM H k).length/2=H;rw[Zx];omega
  have kLv:=λk'=>kLeavesV rs k' _ _ hS.rd hok
  have kSt:=λq k'=>kSiteV rs k' _ _ q hS.rd hok
  rw[hlv]at kLv
  have hSa:=hS.a
  have hSn:=hS.n
  have hsgR:E9 L (uX t o id aM (o6 o id aM H k))= .agg ik [.raw (u32 t),.raw (u32 o),.agg (.ar 16 L8) (bs id),.agg (.ar 32 L8) (bs aM),.sl (.ar 32 L8) L.nr [] 0 (2*H) true,.raw (u32 0#32),.mp L.ms,.mp L.mt,.raw (.slice none 0 0)]:=by
   show D.agg ik [.raw (u32 t),.raw (u32 o),.agg (.ar 16 L8) (bs id),.agg (.ar 32 L8) (bs aM),.sl (.ar 32 L8) L.nr [] 0 (o6 o id aM H k).length L.ne,.raw (u32 0#32),.mp L.ms,.mp L.mt,L.dl]=_
   rw[Zx,le,ld]
  rw[hsgR]at hSa
  have hns:(uX t o id aM (o6 o id aM H k)).ns=o6 o id aM H k:=rfl
  rw[hns]at hSn
  have hid2:((uX t o id aM (o6 o id aM H k)).v L).id=id:=rfl
  rw[hid2]at kSt
  generalize hr:2*H-1-k=r at*
  have hr1:1<=r:=by omega
  have YP:r<2*H:=by omega
  have K6:2*H-1-(k+1)=r-1:=by omega
  have hst:o6 o id aM H (k+1)=(o6 o id aM H k).set r (V3 o id aM H (o6 o id aM H k) r):=by rw[<-hr];rfl
  have f0:((0:Int)<(r:Int))=True:=aas (by omega)
  have f1:((r:Int)<((2*H:Nat):Int))=True:=aas (by omega)
  have f2:wz ((r:Int)-1)=((r-1:Nat):Int):=by rw[bh (by omega)];omega
  have f3:wz ((r:Int)-(H:Int))=(r:Int)-(H:Int):=bh (by omega)
  have f4:BitVec.ofInt 32 (r:Int)=BitVec.ofNat 32 r:=abb _ _
  have hgg:∀j,j<2*H->((o6 o id aM H k).map aV)[j]?=some (.agg (.ar 32 L8) (bs ((o6 o id aM H k).getD j [])))/\((o6 o id aM H k).getD j []).length=32:=λj hj=>by
   have hj2:j<(o6 o id aM H k).length:=by rw[Zx];exact hj
   have e:(o6 o id aM H k).getD j []=(o6 o id aM H k)[j]:=by simp[List.getD,hj2]
   rw[e]
   exact⟨by simp[aV,hj2],hn32 k _ (abJ hj2)⟩
  have hgr:=(hgg r YP).1
  have hNl:(o6 o id aM H (k+1)).length=(uX t o id aM (o6 o id aM H k)).ns.length:=by rw[hns,Zx,Zx]
  by_cases hH:H<=r
  ·have f5:((0:Int)<=(r:Int)-(H:Int))=True:=aas (by omega)
   have f6:BitVec.ofInt 32 ((r:Int)-(H:Int))=BitVec.ofNat 32 (r-H):=by
    rw[show(r:Int)-(H:Int)=((r-H:Nat):Int) by omega];exact abb _ _
   have kPb:=λaa k'=>kPublic aa k' o ⟨id,BitVec.ofNat 32 (r-H)⟩ aM iv ri ho
   have qm:(GW o.toNat ⟨id,BitVec.ofNat 32 (r-H)⟩ aM).length=32:=dk _
   have kLf:=λaa k'=>kLeaf aa k' id (BitVec.ofNat 32 r) (GW o.toNat ⟨id,BitVec.ofNat 32 (r-H)⟩ aM) iv qm
   have hlf:V3 o id aM H (o6 o id aM H k) r=pP id (BitVec.ofNat 32 r) (GW o.toNat ⟨id,BitVec.ofNat 32 (r-H)⟩ aM):=by rw[V3,aaJ hH];rfl
   rw[hlf]at hst
   have hSaA:=λL'=>ab hSa L'
   have hSnA:=λL'=>ab hSn L'
   have r0A:=λL'=>ab r0 L'
   simp only[↓ag,ah,simprocAttr,aK,hw,f0,f1,f2,f3,f4,f5,f6,b0,h.lvs,kLv,h.sit,kSt,h.bA,r1,kPb,hSaA,hSnA,r0A,h.lea,kLf]
   have pz:((o6 o id aM H k).map aV).set r (.agg (.ar 32 L8) (bs (pP id (BitVec.ofNat 32 r) (GW o.toNat ⟨id,BitVec.ofNat 32 (r-H)⟩ aM))))=(o6 o id aM H (k+1)).map aV:=by rw[hst,acr];rfl
   simp only[hgr,pz,↓ag,ah,simprocAttr]
   exact hR _ _ ⟨by simp only[has,↓ag,ah,simprocAttr,hw,K6],(hS.push _).setNs (N:=o6 o id aM H (k+1)) hNl,(hK.trans (dz.app _ _)).set (by omega) _,by rw[aA (by omega)];exact bG r0,by rw[aA (by omega)];exact bG r1⟩
  ·have f5:((0:Int)<=(r:Int)-(H:Int))=False:=aaw (by omega)
   have a1:wz (2*(r:Int))=((2*r:Nat):Int):=by rw[bh (by omega)];omega
   have a2:wz (((2*r:Nat):Int)+1)=((2*r+1:Nat):Int):=by rw[bh (by omega)];omega
   have a3:(((2*r:Nat):Int)<((2*H:Nat):Int))=True:=aas (by omega)
   have a4:(((2*r+1:Nat):Int)<((2*H:Nat):Int))=True:=aas (by omega)
   have g1:=hgg (2*r) (by omega)
   have g2:=hgg (2*r+1) (by omega)
   have kNd:=λaa k'=>kNode aa k' id (BitVec.ofNat 32 r) _ _ iv g1.2 g2.2
   have hlf:V3 o id aM H (o6 o id aM H k) r=uQ id (BitVec.ofNat 32 r) ((o6 o id aM H k).getD (2*r) []) ((o6 o id aM H k).getD (2*r+1) []):=by rw[V3,aaC hH]
   rw[hlf]at hst
   simp only[↓ag,ah,simprocAttr,aK,hw,f0,f1,f2,f3,f4,f5,a1,a2,a3,a4,b0,h.lvs,kLv,hSa,hSn,r0,g1.1,g2.1,h.nod,kNd]
   have pz:((o6 o id aM H k).map aV).set r (.agg (.ar 32 L8) (bs (uQ id (BitVec.ofNat 32 r) ((o6 o id aM H k).getD (2*r) []) ((o6 o id aM H k).getD (2*r+1) []))))=(o6 o id aM H (k+1)).map aV:=by rw[hst,acr];rfl
   simp only[hgr,pz,↓ag,ah,simprocAttr]
   exact hR _ _ ⟨by simp only[has,↓ag,ah,simprocAttr,hw,K6],hS.setNs (N:=o6 o id aM H (k+1)) hNl,hK.set (by omega) _,by rw[aA (by omega)];exact r0,by rw[aA (by omega)];exact r1⟩
 ·rintro env rs ⟨hw,hS,hK,r0,r1⟩ R
  simp only[has]at hw
  have f0:((0:Int)<((2*H-1-(2*H-1):Nat):Int))=False:=aaw (by omega)
  simp only[↓ag,ah,simprocAttr,aK,hw,f0]
  exact hk rs L hS hK (by omega) (by omega) (by omega) (by omega) ld
 ·rw[lr,acV]
  simp only[has,↓ag,ah,simprocAttr]
 ·rw[lr,bg]
  have e:E9 L (uX t o id aM (o6 o id aM H 0))= .agg ik [.raw (u32 t),.raw (u32 o),.agg (.ar 16 L8) (bs id),.agg (.ar 32 L8) (bs aM),.sl (.ar 32 L8) (rows.length+3) [] 0 (2*H) true,.raw (u32 0#32),.mp (rows.length+4),.mp (rows.length+5),.raw (.slice none 0 0)]:=by
   show D.agg ik [.raw (u32 t),.raw (u32 o),.agg (.ar 16 L8) (bs id),.agg (.ar 32 L8) (bs aM),.sl (.ar 32 L8) L.nr [] 0 (o6 o id aM H 0).length L.ne,.raw (u32 0#32),.mp L.ms,.mp L.mt,L.dl]=_
   rw[Zx,le,ld,ln,lm,lt]
  rw[e];rfl
 ·rw[ln,bg];rfl
 ·rw[lm,bg];rfl
 ·rw[lt,bg];rfl
 ·rw[a9];rfl
 ·rw[bg];rfl
structure LmS (C:aU):Prop where
 lef:C.fn 74=some VZ
 sit:C.fn 52=some Js
 mas:C.fn 76=some Mn
 dig:C.fn 75=some zh
 frc:C.fn 77=some Oi
def qz(rows:Rows)(d:D)(m:List (BitVec 8)):Prop:=(∃e,d= .dh L8 (bs m) e)\/∃r e,d= .sl L8 r [] 0 m.length e/\live rows r=some ⟨L8,bs m⟩
theorem qz.bs{rows:Rows}{d:D}{m:List (BitVec 8)}(h:qz rows d m):aY rows d m:=by
 rcases h with⟨e,rfl⟩|⟨r,e,rfl,h⟩
 ·exact eC.to (.inr ⟨e,rfl⟩)
 ·exact aY.own h _ rfl
theorem qz.el{rows:Rows}{d:D}{m:List (BitVec 8)}(h:qz rows d m):fg L8 d=true/\elems rows d=some (Am.bs m)/\dW d=some m.length:=by
 rcases h with⟨e,rfl⟩|⟨r,e,rfl,h⟩
 ·exact⟨by simp[fg],rfl,by simp[dW,aE]⟩
 ·refine⟨by simp[fg],?_,rfl⟩
  simp only[elems,h]
  rw[abz,aar (by rw[aE];exact aax _)]
theorem qz.keep{rows aa:Rows}{d:D}{m:List (BitVec 8)}(h:qz rows d m)(hk:∀q l,live rows q=some ⟨L8,l⟩->live aa q=some ⟨L8,l⟩):qz aa d m:=by
 rcases h with⟨e,rfl⟩|⟨r,e,rfl,h⟩
 ·exact .inl ⟨e,rfl⟩
 ·exact .inr ⟨r,e,rfl,hk _ _ h⟩
def Gl(q:BitVec 32)(ds:List Nat)(tm:List D):Nat->List D
 |0=>tm
 |k+1=> .agg (pX QQ LI) [V2 q (k:Int),.raw (it ((ds.getD k 0:Nat):Int))]::Gl q ds tm k
def sgnE(m:List (BitVec 8)):D:= .agg (pX LS LB) [.raw (.string (mE m)),.raw (.bool true)]
def Sg.next(s:Sg)(c m:List (BitVec 8)):Sg:={s with
 nx:=s.nx+1#32
 sm:=sgnE m::s.sm
 tm:=Gl s.nx (E3 s.o.toNat ⟨s.id,s.nx⟩ c m) s.tm (pT s.o.toNat)
 last:=s.last++[(m,c)]}
def vQ.next(L:vQ)(d:D):vQ:={L with dl:=d}
def uY(rows:Rows)(L:vQ)(s:Sg)(q:Nat):Prop:=q≠L.r/\q≠L.nr/\q≠L.ms/\q≠L.mt/\∀ex n,L.dl≠ .sl lq q [] 0 n ex
theorem oc.ne_r{rows:Rows}{L:vQ}{s:Sg}(h:oc rows L s):L.r≠L.nr/\L.r≠L.ms/\L.r≠L.mt/\L.nr≠L.ms/\L.nr≠L.mt/\L.ms≠L.mt:=
 ⟨gB h.a h.n (by decide),gB h.a h.m (by decide),gB h.a h.t (by decide),gB h.n h.m (by decide),gB h.n h.t (by decide),gB h.m h.t (by decide)⟩
theorem jy.setL{s:Sh}{d:D}{rows:Rows}{els:List D}{q:Nat}{s':Sh}{l:List D}(h:jy s d rows els)(hq:live rows q=some ⟨s',l⟩)(hs:s'≠s)(x:Option Row):jy s d (rows.set q x) els:=by
 rcases h with e|⟨r,ex,e,hl⟩
 ·exact .inl e
 ·exact .inr ⟨r,ex,e,by rw[aA (gB hq hl hs)];exact hl⟩
theorem oc.setNx{rows:Rows}{L:vQ}{s:Sg}(h:oc rows L s)(x:BitVec 32):oc (rows.set L.r (some ⟨ik,[E9 L {s with nx:=x}]⟩)) L {s with nx:=x}:=by
 obtain⟨n1,n2,n3,n4,n5,n6⟩:=h.ne_r
 exact⟨aD h.a,by rw[aA n1];exact h.n,by rw[aA n2];exact h.m,by rw[aA n3];exact h.t,jy.setL h.l h.a (by decide) _⟩
theorem oc.setM{rows:Rows}{L:vQ}{s:Sg}(h:oc rows L s)(x:List D):oc (rows.set L.ms (some ⟨yz,x⟩)) L {s with sm:=x}:=by
 obtain⟨n1,n2,n3,n4,n5,n6⟩:=h.ne_r
 exact⟨by rw[aA n2.symm];exact h.a,by rw[aA n4.symm];exact h.n,aD h.m,by rw[aA n6];exact h.t,jy.setL h.l h.m (by decide) _⟩
theorem oc.setT{rows:Rows}{L:vQ}{s:Sg}(h:oc rows L s)(x:List D):oc (rows.set L.mt (some ⟨yA,x⟩)) L {s with tm:=x}:=by
 obtain⟨n1,n2,n3,n4,n5,n6⟩:=h.ne_r
 exact⟨by rw[aA n3.symm];exact h.a,by rw[aA n5.symm];exact h.n,by rw[aA n6.symm];exact h.m,aD h.t,jy.setL h.l h.t (by decide) _⟩
theorem qz.Uw{rows:Rows}{d:D}{m:List (BitVec 8)}(h:qz rows d m){q:Nat}{s':Sh}{l:List D}(hq:live rows q=some ⟨s',l⟩)(hs:s'≠L8)(x:Option Row):qz (rows.set q x) d m:=
 h.keep λp l' hp=>by rw[aA (gB hq hp hs)];exact hp
theorem qz.push{rows:Rows}{d:D}{m:List (BitVec 8)}(h:qz rows d m)(more:Rows):qz (rows++more) d m:=h.keep λ_ _ hp=>bG hp
theorem oc.app{rows aa:Rows}{L:vQ}{s:Sg}(h:oc rows L s){d':D}{x:List (BitVec 8)×List (BitVec 8)}(hO:jy lq d' aa (s.last.map Ju++[Ju x]))
  (qJ:∀r y,live rows r=some y->(∀ex n,L.dl≠ .sl lq r [] 0 n ex)->live aa r=some y):
  live aa L.r=some ⟨ik,[E9 L s]⟩/\oc (aa.set L.r (some ⟨ik,[E9 (L.next d') {s with last:=s.last++[x]}]⟩)) (L.next d') {s with last:=s.last++[x]}:=by
 obtain⟨n1,n2,n3,n4,n5,n6⟩:=h.ne_r
 have ga:=qJ _ _ h.a (ia h.l h.a (by decide))
 have gn:=qJ _ _ h.n (ia h.l h.n (by decide))
 have gm:=qJ _ _ h.m (ia h.l h.m (by decide))
 have gt:=qJ _ _ h.t (ia h.l h.t (by decide))
 refine⟨ga,aD ga,by rw[show(L.next d').nr=L.nr from rfl,aA n1];exact gn,by rw[show(L.next d').ms=L.ms from rfl,aA n2];exact gm,by rw[show(L.next d').mt=L.mt from rfl,aA n3];exact gt,?_⟩
 rw[adi]
 exact jy.setL hO ga (by decide) _
theorem J7(C:aU)(h:LmS C){rows:Rows}{L:vQ}{s:Sg}{d:D}{c m:List (BitVec 8)}(hS:oc rows L s)(hp:ob (s.v L)=true)(ho:vi s.o.toNat=true)(hc:c.length=32)(hm:qz rows d m)(hml:m.length<=1099511627776)
  (K6:s.nx.toNat<jq (s.v L))(hla:s.last.length<=1000000){K:D->Rows->Prop}
  (hk:∀aa Hq r',oc aa (L.next Hq) (s.next c m)->live aa r'=some ⟨L8,bs (iq (s.v L) s.nx c m)⟩->rows.length<=r'->(∀q row,live rows q=some row->uY rows L s q->live aa q=some row)->(∀q ex n,Hq= .sl lq q [] 0 n ex->rows.length<=q)->rows.length<=aa.length->
   K (.cd [.sl L8 r' [] 0 (44+32*pT s.o.toNat+32*ie (s.v L) s.nx.toNat) false,.raw (it 0)]) aa):
  aB C 3 gf fZ [.ptr ik L.r [0],.agg (.ar 32 L8) (bs c),d] rows K:=by
 refine ae rfl ?_
 unfold fZ gf
 have hS1:=hS.push [some ⟨.ar 32 L8,[.agg (.ar 32 L8) (bs c)]⟩]
 have kLe:=λk'=>kLeftV _ k' _ _ hS1.rd hp
 have hlv:jq (s.v L)<=1024:=by
  have:=(fy.1 hp).2.2.2.2.1
  unfold jq;omega
 have c0:((jq (s.v L):Int)-((s.v L).nx.toNat:Int)=0)=False:=aaw (by show¬((jq (s.v L):Int)-(s.nx.toNat:Int)=0);omega)
 have hSa:=hS1.a
 simp only[E9]at hSa
 have hcr:live (rows++[some (⟨.ar 32 L8,[.agg (.ar 32 L8) (bs c)]⟩:Row)]) rows.length=some ⟨.ar 32 L8,[.agg (.ar 32 L8) (bs c)]⟩:=by rw[a9];rfl
 have wg:=hm.push [some ⟨.ar 32 L8,[.agg (.ar 32 L8) (bs c)]⟩]
 have hF1:∀q row,live rows q=some row->uY rows L s q->live (rows++[some (⟨.ar 32 L8,[.agg (.ar 32 L8) (bs c)]⟩:Row)]) q=some row:=λq row hq _=>bG hq
 have hN1:rows.length<(rows++[some (⟨.ar 32 L8,[.agg (.ar 32 L8) (bs c)]⟩:Row)]).length:=by simp
 simp only[↓ag,ah,simprocAttr]
 generalize rows++[some (⟨.ar 32 L8,[.agg (.ar 32 L8) (bs c)]⟩:Row)]=R1 at*
 have hS2:=hS1.setNx (s.nx+1#32)
 have hne:=hS1.ne_r
 have hcr2:live (R1.set L.r (some ⟨ik,[E9 L {s with nx:=s.nx+1#32}]⟩)) rows.length=some ⟨.ar 32 L8,[.agg (.ar 32 L8) (bs c)]⟩:=by rw[aA (gB hS1.a hcr (by decide))];exact hcr
 have KJ:=wg.Uw hS1.a (by decide) (some ⟨ik,[E9 L {s with nx:=s.nx+1#32}]⟩)
 have Bq:∀q row,live rows q=some row->uY rows L s q->live (R1.set L.r (some ⟨ik,[E9 L {s with nx:=s.nx+1#32}]⟩)) q=some row:=λq row hq he=>by rw[aA (abh he.1)];exact hF1 q row hq he
 have hN2:rows.length<(R1.set L.r (some ⟨ik,[E9 L {s with nx:=s.nx+1#32}]⟩)).length:=by simpa using hN1
 have hSa2:=hS2.a
 have hln2:(R1.set L.r (some (⟨ik,[E9 L {s with nx:=s.nx+1#32}]⟩:Row))).length=R1.length:=abe
 simp only[E9]at hSa2 hS2 hcr2 KJ Bq hN2 hln2
 simp only[↓ag,ah,simprocAttr,aK,h.lef,kLe,c0,hSa]
 generalize R1.set L.r (some (⟨ik,[.agg ik [.raw (u32 s.t),.raw (u32 s.o),.agg (.ar 16 L8) (bs s.id),.agg (.ar 32 L8) (bs s.aM),.sl (.ar 32 L8) L.nr [] 0 s.ns.length L.ne,.raw (u32 (s.nx+1#32)),.mp L.ms,.mp L.mt,L.dl]]⟩:Row))=R2 at*
 obtain⟨e1,e2,e3⟩:=KJ.el
 have hby:=VC m
 have hmv:(⟨(ub m).toArray⟩:ByteArray)=mE m:=rfl
 have Lg:=hS2.m
 have hS3:=hS2.setM (.agg (pX LS LB) [.raw (.string (mE m)),.raw (.bool true)]::s.sm)
 have hcr3:live (R2.set L.ms (some ⟨yz,.agg (pX LS LB) [.raw (.string (mE m)),.raw (.bool true)]::s.sm⟩)) rows.length=some ⟨.ar 32 L8,[.agg (.ar 32 L8) (bs c)]⟩:=by rw[aA (gB Lg hcr2 (by decide))];exact hcr2
 have hm3:=KJ.Uw Lg (by decide) (some ⟨yz,.agg (pX LS LB) [.raw (.string (mE m)),.raw (.bool true)]::s.sm⟩)
 have Y8:∀q row,live rows q=some row->uY rows L s q->live (R2.set L.ms (some ⟨yz,.agg (pX LS LB) [.raw (.string (mE m)),.raw (.bool true)]::s.sm⟩)) q=some row:=λq row hq he=>by rw[aA (abh he.2.2.1)];exact Bq q row hq he
 have hN3:rows.length<(R2.set L.ms (some ⟨yz,.agg (pX LS LB) [.raw (.string (mE m)),.raw (.bool true)]::s.sm⟩)).length:=by simpa using hN2
 have hln3:(R2.set L.ms (some (⟨yz,.agg (pX LS LB) [.raw (.string (mE m)),.raw (.bool true)]::s.sm⟩:Row))).length=R1.length:=by rw[abe,hln2]
 simp only[↓ag,ah,simprocAttr,aK,hSa2,e1,e2,e3,aE,hby,hmv,Lg]
 generalize R2.set L.ms (some (⟨yz,.agg (pX LS LB) [.raw (.string (mE m)),.raw (.bool true)]::s.sm⟩:Row))=R3 at*
 have hSa3:=hS3.a
 simp only[E9]at hSa3
 obtain⟨f1,f2,f3⟩:=hm3.el
 have hSa3A:=λL'=>ab hSa3 L'
 have hcr3A:=λL'=>ab hcr3 L'
 have f2A:∀L',elems (R3++L') d=some (bs m):=λL'=>(hm3.push L').el.2.1
 simp only[↓ag,ah,simprocAttr,aK,hSa3,f1,f2,f2A,f3,aE,hby,hmv,hcr3,hSa3A,hcr3A]
 have jO:live (R3++[some (⟨lq,[.agg lq [.raw (.string (mE m)),.agg (.ar 32 L8) (bs c)]]⟩:Row)]) R1.length=some ⟨lq,[.agg lq [.raw (.string (mE m)),.agg (.ar 32 L8) (bs c)]]⟩:=by
  rw[<-hln3,a9];rfl
 have hlet:D.agg lq [.raw (.string (mE m)),.agg (.ar 32 L8) (bs c)]=Ju (m,c):=rfl
 have hO3:=jy.push (more:=[some (⟨lq,[.agg lq [.raw (.string (mE m)),.agg (.ar 32 L8) (bs c)]]⟩:Row)]) hS3.l
 have hS3p:=hS3.push [some (⟨lq,[.agg lq [.raw (.string (mE m)),.agg (.ar 32 L8) (bs c)]]⟩:Row)]
 have hcr3p:=hcr3A [some (⟨lq,[.agg lq [.raw (.string (mE m)),.agg (.ar 32 L8) (bs c)]]⟩:Row)]
 have hm3p:=hm3.push [some (⟨lq,[.agg lq [.raw (.string (mE m)),.agg (.ar 32 L8) (bs c)]]⟩:Row)]
 have hF3p:∀q row,live rows q=some row->uY rows L s q->live (R3++[some (⟨lq,[.agg lq [.raw (.string (mE m)),.agg (.ar 32 L8) (bs c)]]⟩:Row)]) q=some row:=λq row hq he=>bG (Y8 q row hq he)
 have hN3p:rows.length<(R3++[some (⟨lq,[.agg lq [.raw (.string (mE m)),.agg (.ar 32 L8) (bs c)]]⟩:Row)]).length:=by rw[aap];omega
 simp only[↓ag,ah,simprocAttr,jO,List.take]
 generalize R3++[some (⟨lq,[.agg lq [.raw (.string (mE m)),.agg (.ar 32 L8) (bs c)]]⟩:Row)]=R4 at*
 rw[hlet]
 refine yj hO3 (by rw[aaA];simp[most];omega) (by rw[aaA];simp[most];omega) λR5 hl5 qJ hlen5=>?_
 obtain⟨d',lz⟩:∃d',d'=D.sl lq R4.length [] 0 ((s.last.map Ju).length+[Ju (m,c)].length) false:=⟨_,rfl⟩
 rw[<-lz]
 have hO5:jy lq d' R5 (s.last.map Ju++[Ju (m,c)]):= .inr ⟨R4.length,false,by rw[lz,aap],hl5⟩
 obtain⟨hSa5,hS6⟩:=hS3p.app hO5 qJ
 have hcr5:=qJ _ _ hcr3p (ia hO3 hcr3p (by decide))
 have hm5:qz R5 d m:=hm3p.keep λq l hq=>qJ _ _ hq (ia hO3 hq (by decide))
 have hF5:∀q row,live rows q=some row->uY rows L s q->live R5 q=some row:=λq row hq he=>qJ _ _ (hF3p q row hq he) he.2.2.2.2
 have hcr6:live (R5.set L.r (some ⟨ik,[E9 (L.next d') {s with nx:=s.nx+1#32,sm:= .agg (pX LS LB) [.raw (.string (mE m)),.raw (.bool true)]::s.sm,last:=s.last++[(m,c)]}]⟩)) rows.length=some ⟨.ar 32 L8,[.agg (.ar 32 L8) (bs c)]⟩:=by rw[aA (gB hSa5 hcr5 (by decide))];exact hcr5
 have hm6:=hm5.Uw hSa5 (by decide) (some ⟨ik,[E9 (L.next d') {s with nx:=s.nx+1#32,sm:= .agg (pX LS LB) [.raw (.string (mE m)),.raw (.bool true)]::s.sm,last:=s.last++[(m,c)]}]⟩)
 have hF6:∀q row,live rows q=some row->uY rows L s q->live (R5.set L.r (some ⟨ik,[E9 (L.next d') {s with nx:=s.nx+1#32,sm:= .agg (pX LS LB) [.raw (.string (mE m)),.raw (.bool true)]::s.sm,last:=s.last++[(m,c)]}]⟩)) q=some row:=λq row hq he=>by rw[aA (abh he.1)];exact hF5 q row hq he
 have hN6:rows.length<(R5.set L.r (some (⟨ik,[E9 (L.next d') {s with nx:=s.nx+1#32,sm:= .agg (pX LS LB) [.raw (.string (mE m)),.raw (.bool true)]::s.sm,last:=s.last++[(m,c)]}]⟩:Row))).length:=by rw[abe,hlen5];omega
 have hdf:D.fits d' .ref=true:=by rw[lz];rfl
 have hdr:∀q ex n,d'= .sl lq q [] 0 n ex->rows.length<=q:=λq ex n e=>by rw[lz]at e;injection e with _ e;omega
 simp only[E9]at hSa5
 have hR6:R5.set L.r (some (⟨ik,[E9 (L.next d') {s with nx:=s.nx+1#32,sm:= .agg (pX LS LB) [.raw (.string (mE m)),.raw (.bool true)]::s.sm,last:=s.last++[(m,c)]}]⟩:Row))=R5.set L.r (some ⟨ik,[.agg ik [.raw (u32 s.t),.raw (u32 s.o),.agg (.ar 16 L8) (bs s.id),.agg (.ar 32 L8) (bs s.aM),.sl (.ar 32 L8) L.nr [] 0 s.ns.length L.ne,.raw (u32 (s.nx+1#32)),.mp L.ms,.mp L.mt,d']]⟩):=rfl
 rw[hR6]at hcr6 hm6 hN6 hS6
 have hF6:∀q row,live rows q=some row->uY rows L s q->live (R5.set L.r (some ⟨ik,[.agg ik [.raw (u32 s.t),.raw (u32 s.o),.agg (.ar 16 L8) (bs s.id),.agg (.ar 32 L8) (bs s.aM),.sl (.ar 32 L8) L.nr [] 0 s.ns.length L.ne,.raw (u32 (s.nx+1#32)),.mp L.ms,.mp L.mt,d']]⟩)) q=some row:=hF6
 clear hR6
 obtain⟨e1',e2',e3'⟩:=hm5.el
 simp only[↓ag,ah,simprocAttr,aK,hSa5,hcr5,e1',e2',e3',aE,hby,hmv,hdf]
 generalize R5.set L.r (some (⟨ik,[.agg ik [.raw (u32 s.t),.raw (u32 s.o),.agg (.ar 16 L8) (bs s.id),.agg (.ar 32 L8) (bs s.aM),.sl (.ar 32 L8) L.nr [] 0 s.ns.length L.ne,.raw (u32 (s.nx+1#32)),.mp L.ms,.mp L.mt,d']]⟩:Row))=R6 at*
 have hSa6:=hS6.a
 simp only[E9,vQ.next]at hSa6
 obtain⟨iv,ri,uO,TY,hn,yV,LJ⟩:=fy.1 hp
 have hp6:ob (Sg.v {s with nx:=s.nx+1#32,sm:= .agg (pX LS LB) [.raw (.string (mE m)),.raw (.bool true)]::s.sm,last:=s.last++[(m,c)]} (L.next d'))=true:=OH hS6 iv ri uO TY hn yV
 have kSt:=λk'=>kSiteV R6 k' _ _ s.nx hS6.rd hp6
 have hrL:(L.next d').r=L.r:=rfl
 have hidE:(Sg.v {s with nx:=s.nx+1#32,sm:= .agg (pX LS LB) [.raw (.string (mE m)),.raw (.bool true)]::s.sm,last:=s.last++[(m,c)]} (L.next d')).id=s.id:=rfl
 rw[hrL,hidE]at kSt
 have kMa:=λk'=>kMash R6 k' ⟨s.id,s.nx⟩ c m d hm6.bs iv hc
 have hml':(mi s.id s.nx c m).length=32:=dk _
 have kDi:=λk'=>N8 R6 k' s.o (mi s.id s.nx c m) hml' ho
 have zH:gu s.o.toNat (mi s.id s.nx c m)=E3 s.o.toNat ⟨s.id,s.nx⟩ c m:=rfl
 rw[zH]at kDi
 have hpt:pT s.o.toNat<=265:=(mI ho).2.2.1
 simp only[↓ag,ah,simprocAttr,aK,hSa6,h.sit,kSt,hcr6,h.mas,kMa,h.dig,kDi]
 have tR:(E3 s.o.toNat ⟨s.id,s.nx⟩ c m).length=pT s.o.toNat:=Od _ _ _ _
 have hSd:live (R6++[some (⟨LI,(E3 s.o.toNat ⟨s.id,s.nx⟩ c m).map yq⟩:Row)]) R6.length=some ⟨LI,(E3 s.o.toNat ⟨s.id,s.nx⟩ c m).map yq⟩:=by rw[a9];rfl
 have hSx:Sg.next s c m={s with nx:=s.nx+1#32,sm:= .agg (pX LS LB) [.raw (.string (mE m)),.raw (.bool true)]::s.sm,tm:=Gl s.nx (E3 s.o.toNat ⟨s.id,s.nx⟩ c m) s.tm (pT s.o.toNat),last:=s.last++[(m,c)]}:=rfl
 rw[hSx]at hk
 have hsF:∀tm,iq (Sg.v {s with nx:=s.nx+1#32,sm:= .agg (pX LS LB) [.raw (.string (mE m)),.raw (.bool true)]::s.sm,tm:=tm,last:=s.last++[(m,c)]} (L.next d')) s.nx c m=iq (s.v L) s.nx c m:=λ_=>rfl
 have hpN:∀tm,ie (Sg.v {s with nx:=s.nx+1#32,sm:= .agg (pX LS LB) [.raw (.string (mE m)),.raw (.bool true)]::s.sm,tm:=tm,last:=s.last++[(m,c)]} (L.next d')) s.nx.toNat=ie (s.v L) s.nx.toNat:=λ_=>rfl
 generalize E3 s.o.toNat ⟨s.id,s.nx⟩ c m=ds at*
 generalize hPP:pT s.o.toNat=P at*
 refine bx P (λi env rs=>has env [(60,.raw (it (i:Int))),(59,.raw (it (P:Int))),(58,.sl LI R6.length [] 0 P false),(0,.ptr ik L.r [0]),(8,.raw (u32 s.nx)),(4,.ptr (.ar 32 L8) rows.length [0]),(2,d)]/\
  oc rs (L.next d') {s with nx:=s.nx+1#32,sm:= .agg (pX LS LB) [.raw (.string (mE m)),.raw (.bool true)]::s.sm,tm:=Gl s.nx ds s.tm i,last:=s.last++[(m,c)]}/\
  live rs R6.length=some ⟨LI,ds.map yq⟩/\live rs rows.length=some ⟨.ar 32 L8,[.agg (.ar 32 L8) (bs c)]⟩/\qz rs d m/\(∀q row,live rows q=some row->uY rows L s q->live rs q=some row)/\rows.length<rs.length) ?_ ?_
  ⟨?_,hS6.push _,hSd,bG hcr6,hm6.push _,λq row hq he=>bG (hF6 q row hq he),by rw[aap];omega⟩
 ·rintro i hi env rs ⟨hw,hSi,hdi,hci,hmi,hFi,hNi⟩ R hR
  simp only[has]at hw
  have g0:((i:Int)<(P:Int))=True:=aas (by omega)
  have b0:∀n:Nat,((0:Int)<=(n:Int))=True:=λn=>aas (by omega)
  have g1:=cG i (by omega)
  have g2:(ds.map yq)[i]?=some (.raw (it ((ds.getD i 0:Nat):Int))):=by
   have:i<ds.length:=by omega
   simp[List.getD,this,yq]
  have hSai:=hSi.a
  have hSti:=hSi.t
  simp only[E9,vQ.next]at hSai
  have hsp:D.agg S15 [.raw (u32 s.nx),.raw (it (i:Int))]=V2 s.nx (i:Int):=rfl
  have spf:(V2 s.nx (i:Int)).fits QQ=true:=rfl
  have hT:=hSi.setT (Gl s.nx ds s.tm (i+1))
  have htk:Gl s.nx ds s.tm (i+1)= .agg (pX QQ LI) [V2 s.nx (i:Int),.raw (it ((ds.getD i 0:Nat):Int))]::Gl s.nx ds s.tm i:=rfl
  have hmt:(L.next d').mt=L.mt:=rfl
  rw[hmt]at hSti
  simp only[↓ag,ah,simprocAttr,aK,hw,g0,g1,g2,b0,hdi,hSai,hsp,spf,hSti]
  rw[hmt,htk]at hT
  refine hR _ _ ⟨by simp only[has,↓ag,ah,simprocAttr,hw],?_,?_,?_,?_,?_,?_⟩
  ·rw[htk];exact hT
  ·rw[aA (gB hSti hdi (by decide))];exact hdi
  ·rw[aA (gB hSti hci (by decide))];exact hci
  ·exact hmi.Uw hSti (by decide) _
  ·exact λq row hq he=>by rw[aA (abh he.2.2.2.1)];exact hFi q row hq he
  ·rw[abe];exact hNi
 ·rintro env rs ⟨hw,hSi,hdi,hci,hmi,hFi,hNi⟩ R
  simp only[has]at hw
  have g0:((P:Int)<(P:Int))=False:=aaw (by omega)
  have hpi:=OH hSi iv ri uO TY hn yV
  have kFo:=λk'=>kForceV rs k' _ d _ s.nx c m hSi.rd hmi.bs hpi ho hc hml K6
  rw[hrL]at kFo
  simp only[↓ag,ah,simprocAttr,aK,hw,g0,hci,h.frc,kFo]
  have Bj:pT (Sg.v {s with nx:=s.nx+1#32,sm:= .agg (pX LS LB) [.raw (.string (mE m)),.raw (.bool true)]::s.sm,tm:=Gl s.nx ds s.tm P,last:=s.last++[(m,c)]} (L.next d')).o.toNat=P:=hPP
  rw[hsF,hpN,Bj,<-abO]
  refine hk _ d' rs.length (hSi.push _) (by rw[a9];rfl) (by omega) (λq row hq he=>bG (hFi q row hq he)) hdr (by rw[aap];omega)
 ·simp only[has,↓ag,ah,simprocAttr]
end kj
end Go.Am
namespace Go.Am
namespace kj
open Go.Am.F
structure Whole (s:qV):Prop where
 t:KA s.t.toNat=true
 t10:hT s.t.toNat<=10
 o:vi s.o.toNat=true
 id:s.id.length=16
 sd:s.aM.length=32
 ns:s.ns=mr s.o s.id s.aM (hH s.t)
 ld:bb s.ld=false
theorem hH_ge{t:BitVec 32}(h:KA t.toNat=true):2<=hH t:=by
 have:2^1<=2^hT t.toNat:=abK (by decide) (Hh h)
 exact this
theorem hH_le{t:BitVec 32}(h:hT t.toNat<=10):hH t<=1024:=by
 have:2^hT t.toNat<=2^10:=abK (by decide) h
 exact this
theorem Whole.len{s:qV}(h:Whole s):s.ns.length=2*hH s.t:=by rw[h.ns];exact Dt _ _ _ _ _
theorem Whole.lv{s:qV}(h:Whole s):jq s=hH s.t:=by unfold jq;rw[h.len];omega
theorem Whole.ok{s:qV}(h:Whole s):ob s=true:=by
 have h1:=hH_ge h.t
 have h2:=hH_le h.t10
 have h3:=h.len
 refine fy.2 ⟨h.id,h.sd,?_,by omega,by omega,by omega,h.ld⟩
 rw[h.ns]
 exact T6 _ _ _ _ _
theorem Whole.pn{s:qV}(h:Whole s){q:Nat}(hq:q<hH s.t):ie s q=hT s.t.toNat:=by
 have h1:=hH_ge h.t
 have e:hH s.t=2^hT s.t.toNat:=rfl
 unfold ie
 rw[h.lv]
 refine(Nat.log2_eq_iff (by omega)).2 ⟨by omega,?_⟩
 rw[ad2];omega
theorem sB(x:BitVec 32)(l:List (BitVec 8)):dZ (bz x++l)=x:=by
 rw[<-qR _ 4 (by decide)]
 show dZ (bz x)=x
 exact Jl x
section
variable {s:qV} (h:Whole s) {q:BitVec 32} (hq:q.toNat<hH s.t) (c m:List (BitVec 8)) (hc:c.length=32)
theorem sf_q:zk (iq s q c m)=q:=by
 rw[zk,iq]
 simp only[aaB]
 exact sB _ _
theorem sf_4:(iq s q c m).drop 4=nh s.o ⟨s.id,q⟩ s.aM c m++(bz s.t++(nU s q.toNat).flatten):=by
 rw[iq]
 simp only[aaB]
 rfl
theorem sf_o:VX (iq s q c m)=s.o:=by
 rw[VX,sf_4,nh]
 simp only[aaB]
 exact sB _ _
theorem sf_p:pQ (iq s q c m)=pT s.o.toNat:=by rw[pQ,sf_o]
include hc
theorem sf_40:(iq s q c m).drop (40+32*pT s.o.toNat)=bz s.t++(nU s q.toNat).flatten:=by
 have hl:=uP s.o ⟨s.id,q⟩ s.aM c m hc
 rw[show 40+32*pT s.o.toNat=4+(nh s.o ⟨s.id,q⟩ s.aM c m).length by omega,<-abr,sf_4,aa9]
theorem sf_one:pR (iq s q c m)=nh s.o ⟨s.id,q⟩ s.aM c m:=by
 have hl:=uP s.o ⟨s.id,q⟩ s.aM c m hc
 rw[pR,sf_p,sf_4,<-hl,aaW]
theorem sf_t:Oh (iq s q c m)=s.t:=by rw[Oh,sf_p,sf_40 c m hc];exact sB _ _
theorem sf_h:pq (iq s q c m)=hT s.t.toNat:=by rw[pq,sf_t c m hc]
include h hq
theorem sf_path:ku (iq s q c m) (hT s.t.toNat)=nU s q.toNat:=by
 have hl:=uS s q.toNat
 have hn:=h.pn hq
 refine ac7 (by rw[Mw,hl,hn]) λi h1 h2=>?_
 have e:(ku (iq s q c m) (hT s.t.toNat))[i]=pcS (iq s q c m) i:=by simp[ku]
 have e44:(iq s q c m).drop (44+32*pT s.o.toNat)=(nU s q.toNat).flatten:=by
  rw[show 44+32*pT s.o.toNat=(40+32*pT s.o.toNat)+4 by omega,<-abr,sf_40 c m hc]
  rfl
 rw[e,pcS,sf_p,<-abr,e44]
 exact Jm (Jt h.ok (by rw[h.lv];exact hq)) i h2
theorem sf_E:eA (iq s q c m)=0:=by
 have hl:=yB h.ok (by rw[h.lv];exact hq) c m hc
 rw[h.pn hq]at hl
 have hsh:q.toNat>>>hT s.t.toNat=0:=by rw[abq];exact acN hq
 have h1:=Hh h.t
 unfold eA
 rw[sf_o,sf_p,sf_t c m hc,sf_h c m hc,sf_q,aaC (by omega),aaC (by rw[h.o];decide),aaC (by omega),aaC (by rw[h.t];decide),aaC]
 rintro(e|e)
 ·exact e hl
 ·exact e hsh
end
theorem WE(r:BitVec 32)(i:Nat):(r>>>i).toNat=r.toNat/2^i:=by simp[abq]
theorem q_top{t:BitVec 32}(ht:hT t.toNat<=10){q:BitVec 32}(hq:q.toNat<hH t):(q+1#32<<<hT t.toNat).toNat=hH t+q.toNat:=by
 have h2:=hH_le ht
 have e:(1#32<<<hT t.toNat).toNat=hH t:=by
  rw[acq,acC]
  show 1*hH t %4294967296=hH t
  omega
 rw[acA,e]
 omega
theorem Rp(x:BitVec 32)(n:Nat)(h:x.toNat=n):BitVec.ofNat 32 n=x:=by
 rw[<-h];simp
theorem Rq{s:qV}(h:Whole s){q:BitVec 32}(hq:q.toNat<hH s.t){x:List (BitVec 8)}(hx:x=s.ns.getD (hH s.t+q.toNat) []):
  ∀i,i<=hT s.t.toNat->dI s.id (q+1#32<<<hT s.t.toNat) x (nU s q.toNat) i=s.ns.getD ((hH s.t+q.toNat)/2^i) []
 |0,_=>by rw[dI,hx,Nat.pow_zero,Nat.div_one]
 | i + 1, hi => by
  have ih:=Rq h hq hx i (by omega)
  have hHe:hH s.t=2^hT s.t.toNat:=rfl
  have ht:=q_top h.t10 hq
  have hr:((q+1#32<<<hT s.t.toNat)>>>i).toNat=(hH s.t+q.toNat)/2^i:=by rw[WE,ht]
  have hr1:(((q+1#32<<<hT s.t.toNat)>>>i)>>>1).toNat=(hH s.t+q.toNat)/2^i/2:=by rw[WE,hr]
  have hge:2<=(hH s.t+q.toNat)/2^i:=by
   rw[Nat.le_div_iff_mul_le (aet i)]
   have:2^(i+1)<=2^hT s.t.toNat:=abK (by decide) hi
   rw[ad2]at this
   omega
  have hle:(hH s.t+q.toNat)/2^i<2*hH s.t:=Nat.lt_of_le_of_lt (adB _ _) (by omega)
  have hp:(nU s q.toNat).getD i []=s.ns.getD ((hH s.t+q.toNat)/2^i^^^1) []:=by
   have hl:=uS s q.toNat
   have hn:=h.pn hq
   have:i<(nU s q.toNat).length:=by omega
   simp only[List.getD,aao this,adt]
   simp[nU,qg,h.lv,List.getD]
  have hd:(hH s.t+q.toNat)/2^(i+1)=(hH s.t+q.toNat)/2^i/2:=by rw[ad2,Nat.div_div_eq_div_mul]
  rw[dI,ih,hp,hd]
  generalize (hH s.t+q.toNat)/2^i=r at*
  have DX:=T8 s.o s.id s.aM (hH s.t) (r/2) (by omega) (by omega)
  rw[<-h.ns,Rp _ _ hr1]at DX
  rw[DX]
  unfold Gi
  have rq:=xor1 r
  have hb:((q+1#32<<<hT s.t.toNat)>>>i&&&1#32=1#32)=(r %2=1):=by
   rw[<-and1]
   apply propext
   constructor
   ·intro e
    have:=ach BitVec.toNat e
    rw[abC,hr]at this
    exact this
   ·intro e
    apply aaL
    rw[abC,hr]
    exact e
  by_cases c:r %2=1
  ·rw[aaJ (by rw[hb];exact c)]
   rw[aaC (by omega)]at rq
   rw[rq,show 2*(r/2)=r-1 by omega,show r-1+1=r by omega]
  ·rw[aaC (by rw[hb];exact c)]
   rw[aaJ (by omega)]at rq
   rw[rq,show 2*(r/2)=r by omega]
theorem leaf_at{s:qV}(h:Whole s){q:BitVec 32}(hq:q.toNat<hH s.t):pP s.id (q+1#32<<<hT s.t.toNat) (GW s.o.toNat ⟨s.id,q⟩ s.aM)=s.ns.getD (hH s.t+q.toNat) []:=by
 have h1:=hH_ge h.t
 rw[h.ns,T7 _ _ _ _ _ (by omega) (by omega),lfS,Rp _ _ (q_top h.t10 hq),show hH s.t+q.toNat-hH s.t=q.toNat by omega]
 simp
theorem UO{s:qV}(h:Whole s){q:BitVec 32}(hq:q.toNat<hH s.t):Be s.id q (pP s.id (q+1#32<<<hT s.t.toNat) (GW s.o.toNat ⟨s.id,q⟩ s.aM)) (nU s q.toNat)=s.ns.getD 1 []:=by
 have e:=Rq h hq (leaf_at h hq) (hT s.t.toNat) (aax _)
 have hl:=uS s q.toNat
 rw[h.pn hq]at hl
 rw[Be,hl,e]
 have h1:hH s.t=2^hT s.t.toNat:=rfl
 rw[show(hH s.t+q.toNat)/2^hT s.t.toNat=1 by rw[<-h1];exact Nat.div_eq_of_lt_le (by omega) (by omega)]
theorem pub_t(s:qV):dZ (dP s)=s.t:=by
 rw[dP];simp only[aaB];exact sB _ _
theorem pub_o(s:qV):dZ ((dP s).drop 4)=s.o:=by
 rw[dP];simp only[aaB];exact sB s.o (s.id++s.ns.getD 1 [])
theorem pub_8(s:qV):(dP s).drop 8=s.id++s.ns.getD 1 []:=by
 rw[dP];simp only[aaB];rfl
theorem pub_id{s:qV}(h:s.id.length=16):((dP s).drop 8).take 16=s.id:=by
 rw[pub_8,<-h,aaW]
theorem pub_root{s:qV}(h:s.id.length=16):(dP s).drop 24=s.ns.getD 1 []:=by
 rw[show 24=8+s.id.length by omega,<-abr,pub_8,aa9]
theorem J8{s:qV}(h:Whole s):fc (dP s)=(⟨s.t,s.o,s.id,s.ns.getD 1 []⟩,0):=by
 unfold fc
 simp only[o5 h.ok,pub_t,pub_o,h.t,h.o,aaD,adz,aaU,keyOf,pub_id h.id,pub_root h.id]
theorem rt_any{s z:qV}(h:Whole s)(hz:Whole z)(ht:z.t=s.t)(ho:z.o=s.o)(hi:z.id=s.id){q:BitVec 32}(hq:q.toNat<hH s.t)(c m m2:List (BitVec 8))(hc:c.length=32):O7 (dP z) (iq s q c m)=0/\
  rtS (dP z) m2 (iq s q c m)=Be s.id q (pP s.id (q+1#32<<<hT s.t.toNat) (sq ⟨s.id,q⟩ (nh s.o ⟨s.id,q⟩ s.aM c m) m2)) (nU s q.toNat):=by
 constructor
 ·rw[O7,J8 hz,sf_E h hq c m hc,sf_t c m hc,sf_o]
  simp[ht,ho]
 ·rw[rtS,J8 hz,sf_q,sf_h c m hc,sf_one c m hc,sf_path h hq c m hc]
  simp only[hi]
theorem rt_own{s z:qV}(h:Whole s)(hz:Whole z)(ht:z.t=s.t)(ho:z.o=s.o)(hi:z.id=s.id){q:BitVec 32}(hq:q.toNat<hH s.t)(c m:List (BitVec 8))(hc:c.length=32):rtS (dP z) m (iq s q c m)=s.ns.getD 1 []:=by
 rw[(rt_any h hz ht ho hi hq c m m hc).2,TZ s.o ⟨s.id,q⟩ s.aM c m hc h.o]
 exact UO h hq
theorem ver_own{s z:qV}(h:Whole s)(hz:Whole z)(ht:z.t=s.t)(ho:z.o=s.o)(hi:z.id=s.id){q:BitVec 32}(hq:q.toNat<hH s.t)(c m:List (BitVec 8))(hc:c.length=32):wY (dP z) m (iq s q c m)=if s.ns.getD 1 []=z.ns.getD 1 []then 0 else 5:=by
 rw[wY,(rt_any h hz ht ho hi hq c m m hc).1,rt_own h hz ht ho hi hq c m hc,J8 hz]
 simp
theorem oc.els{rows:Rows}{L:vQ}{s:Sg}(h:oc rows L s){q:Nat}{l:List D}(hq:live rows q=some ⟨L8,l⟩):uY rows L s q:=
 ⟨(gB h.a hq (by decide)).symm,(gB h.n hq (by decide)).symm,(gB h.m hq (by decide)).symm,(gB h.t hq (by decide)).symm,ia h.l hq (by decide)⟩
theorem MV{R:Rows}{L:vQ}{t o:BitVec 32}{id aM:List (BitVec 8)}(h:oc R L (uX t o id aM (mr o id aM (hH t))))(ht:KA t.toNat=true)(h10:hT t.toNat<=10)(ho:vi o.toNat=true)(iv:id.length=16)(ri:aM.length=32):Whole ((uX t o id aM (mr o id aM (hH t))).v L):=
 ⟨ht,h10,ho,iv,ri,rfl,Sg.Jv h⟩
theorem J9{R':Rows}{L:vQ}{s:Sg}{d:D}{c m:List (BitVec 8)}(h:Whole (s.v L))(h':oc R' (L.next d) (s.next c m)):Whole ((s.next c m).v (L.next d)):=
 ⟨h.t,h.t10,h.o,h.id,h.sd,h.ns,Sg.Jv h'⟩
end kj
end Go.Am
namespace Go.Am
attribute [local congr] cJ bI cK bJ bK b6 bw bN bO b7 bi b8 bP cI
namespace kj
open Go.Am.F
def cH(k:Nat)(p:List (BitVec 8)):List (BitVec 8):=p.take (min p.length k/4*4)++[0#8,0#8,0#8,0#8]
theorem sC(k:Nat)(p:List (BitVec 8)):(cH k p).length=min p.length k/4*4+4:=by
 rw[cH,aap,aau]
 show min _ _+4=_
 omega
def okY(y:List (BitVec 8)):Prop:=y.length %4=0/\4<=y.length/\y.length<=2048
theorem DQ(k:Nat)(p:List (BitVec 8))(hk:k<=200):okY (cH k p):=by
 have:=sC k p
 exact⟨by omega,by omega,by omega⟩
def dE(v:Nat)(y:List (BitVec 8)):Bo:=ofS v 0 y
def wZ(v:Nat):List (BitVec 8):=sO.set 0 (BitVec.ofInt 8 (v:Int))
theorem Bk(v:Nat){y:List (BitVec 8)}(hv:v<=255)(h:okY y):cT (dE v y)=true:=by
 obtain⟨h,h1,h2⟩:=h
 have e:∀n:Nat,n %4=0->((n:Int).tmod 4=0):=λn hn=>by
  have:(n:Int).tmod 4=((n %4:Nat):Int):=rfl
  rw[this,hn];rfl
 have e1:=e y.length h
 generalize hn:y.length=n at*
 have hm:dE v y=⟨v,n,0,eY y⟩:=by rw[dE,ofS,hn]
 rw[hm]
 simp only[cT,aan,aaq]
 refine⟨⟨⟨⟨⟨⟨⟨by omega,by omega⟩,by omega⟩,by omega⟩,e1⟩,by decide⟩,by omega⟩,by decide⟩
theorem WG{rows:Rows}{d:D}{p:List (BitVec 8)}(h:aY rows d p)(n:Int)(hp:p.length<=9223372036854775807)(hn:n<=1099511627776)(k:D->Rows->Prop):aG XY rows k [d,.raw (it n)]=k (.sl L8 (0+rows.length) [] 0 (p.take n.toNat).length false) (rows++[some ⟨L8,bs (p.take n.toNat)⟩]):=by
 refine(lY (.bs h) (.int n) (by rw[aan,abD,abD,aau];unfold most;omega) (by simp[eR,cv,bf,Sh.pure]) k).trans ?_
 simp[eR,shift,af,Sh.pure]
theorem zq{rows:Rows}{L:vQ}{s:Sg}(h:oc rows L s){R:Rows}{q:Nat}(hq:rows.length<=q):uY R L s q:=by
 have a:=aR h.a
 have b:=aR h.n
 have c:=aR h.m
 have d:=aR h.t
 refine⟨by omega,by omega,by omega,by omega,λex n e=>?_⟩
 rcases h.l with⟨e',e''⟩|⟨r,uh,e',hl⟩
 ·first|(rw[e]at e';cases e')|(rw[e]at e'';cases e'')
 ·rw[e]at e'
  injection e' with _ e'
  have:=aR hl
  omega
theorem pT_le(t:Nat):pT t<=265:=by
 unfold pT
 repeat' split
 all_goals omega
structure ImC (C:aU):Prop where
 cu:C.fn 59=some XY
 jo:C.fn 29=some Dg
 of:C.fn 60=some fOf
 bo:C.fn 61=some vU
 s0:C.fn 28=none
 s1:∃C1,C.cV 28=some (aB C1 3 gf fZ)/\LmS C1
 im:C.fn 62=some Ow
theorem Zf(C:aU)(H:ImC C){rows:Rows}{L:vQ}{s:Sg}{d:D}{p:List (BitVec 8)}(v:Nat)(hv:v<=255)(hS:oc rows L s)(hW:Whole (s.v L))(K6:s.nx.toNat<hH s.t)(hla:s.last.length<=1000)(hd:∀more,aY (rows++more) d p)(mH:dW d=some p.length)(hp:p.length<=9223372036854775807){K:D->Rows->Prop}
  (hk:∀aa Hq r' n,oc aa (L.next Hq) (s.next (wZ v) (ci (dE v (cH 120 p))))->n=(jV (dE v (cH 120 p)) (iq (s.v L) s.nx (wZ v) (ci (dE v (cH 120 p)))) (cH 120 p)).length->live aa r'=some ⟨L8,bs (jV (dE v (cH 120 p)) (iq (s.v L) s.nx (wZ v) (ci (dE v (cH 120 p)))) (cH 120 p))⟩->rows.length<=r'->
   (∀q row,live rows q=some row->uY rows L s q->live aa q=some row)->(∀q ex n,Hq= .sl lq q [] 0 n ex->rows.length<=q)->K (.sl L8 r' [] 0 n false) aa):
  aB C 4 pI pH [.ptr ik L.r [0],.raw (it (v:Int)),d,.raw (it (-1))] rows K:=by
 refine ae rfl ?_
 unfold pH pI
 simp only[-List.reduceReplicate,vV]
 simp only[-List.reduceReplicate,eu]
 obtain⟨C1,r1,hL⟩:=H.s1
 have qo:=hd []
 rw[aaS]at qo
 have w0:min ((p.length:Nat):Int) 120=((min p.length 120:Nat):Int):=by omega
 have w1:wz ((((min p.length 120:Nat):Int)).tdiv 4)=((min p.length 120/4:Nat):Int):=by
  rw[show(4:Int)=((4:Nat):Int)from rfl,<-aev,bh (by omega)]
 have w2:wz (((min p.length 120/4:Nat):Int)*4)=((min p.length 120/4*4:Nat):Int):=by rw[bh (by omega)];omega
 have kC:=λk=>WG qo ((min p.length 120/4*4:Nat):Int) (by omega) (by omega) k
 rw[aaz]at kC
 have hz4:[D.raw (u8 0#8),.raw (u8 0#8),.raw (u8 0#8),.raw (u8 0#8)]=bs [0#8,0#8,0#8,0#8]:=rfl
 have qm:=sC 120 p
 have hyo:=DQ 120 p (by decide)
 have kJ:∀k,aG Dg (rows++[some ⟨L8,bs (p.take (min p.length 120/4*4))⟩,some ⟨L8,[.raw (u8 0#8),.raw (u8 0#8),.raw (u8 0#8),.raw (u8 0#8)]⟩,some ⟨.ref,[.sl L8 rows.length [] 0 (p.take (min p.length 120/4*4)).length false,.sl L8 (rows.length+1) [] 0 4 true]⟩]) k [.sl .ref (rows.length+2) [] 0 2 true]=_:=λk=>
  VG _ k (rows.length+2) 2 true [.sl L8 rows.length [] 0 (p.take (min p.length 120/4*4)).length false,.sl L8 (rows.length+1) [] 0 4 true] [p.take (min p.length 120/4*4),[0#8,0#8,0#8,0#8]] (bg rows _ 2) rfl (.cons (aY.own (a9 rows _) _ rfl) (.cons (aY.own (bg rows _ 1) _ rfl) .nil)) (by simp) (by simp;omega)
 have qj:[p.take (min p.length 120/4*4),[0#8,0#8,0#8,0#8]].flatten=cH 120 p:=by simp[cH]
 rw[qj]at kJ
 have kO:=λr ex R k (hl:live R r=some ⟨L8,bs (cH 120 p)⟩)=>kOf R k v 0 (.sl L8 r [] 0 (cH 120 p).length ex) (cH 120 p) (aY.own hl _ rfl) (by omega)
 have Ku:ofS v 0 (cH 120 p)=dE v (cH 120 p):=rfl
 simp only[Ku]at kO
 have hR:=Bk v hv hyo
 have zH:(dE v (cH 120 p)).dg.length=32:=dk _
 have kB:=λrows k=>Ov rows k (dE v (cH 120 p)) zH hR
 have mf:=fI
 have hz0:∀x,(bs sO).set 0 (.raw (u8 x))=bs (sO.set 0 x):=λx=>by rw[bs,bs,acr]
 simp only[↓ag,ah,simprocAttr,aK,mH,w0,w1,w2,H.cu,kC,H.jo,kJ,H.of,kO,mf,H.bo,kB,H.s0,r1,hz0]
 have P0:=pW (dE v (cH 120 p)) zH
 have hlv:jq (s.v L)=hH s.t:=hW.lv
 have hpn:=hW.pn K6
 refine J7 C1 hL (hS.push _) hW.ok hW.o (c:=wZ v) (m:=ci (dE v (cH 120 p))) (by rw[wZ,abe];rfl) (.inr ⟨_,false,by rw[P0],bg rows _ 5⟩) (by omega) (by rw[hlv];exact K6) (by omega) λaa Hq r' g1 g2 g3 g4 g5 g6=>?_
 have e3:=g4 _ _ (bg rows _ 3) (zq hS (by omega))
 have e4:=g4 _ _ (bg rows _ 4) (zq hS (by omega))
 have hsl':(iq (s.v L) s.nx (wZ v) (ci (dE v (cH 120 p)))).length=44+(32*pT s.o.toNat+32*hT s.t.toNat):=by
  rw[yB hW.ok (by rw[hlv];exact K6) (wZ v) (ci (dE v (cH 120 p))) (by rw[wZ,abe];rfl),hpn,abO]
  rfl
 have ht9:hT s.t.toNat<=10:=hW.t10
 have hp9:=pT_le s.o.toNat
 have kI:=λk=>kImage aa k (dE v (cH 120 p)) _ _ (iq (s.v L) s.nx (wZ v) (ci (dE v (cH 120 p)))) (cH 120 p) zH (aY.own (ex:=false) g2 _ rfl) (aY.own (ex:=false) e3 _ rfl) (by omega) (by omega) (by
  simp only[qy,hR,ab8,aan,aaq]
  exact⟨rfl,by omega⟩)
 rw[hsl']at kI
 have hpn':44+32*pT s.o.toNat+32*ie (s.v L) s.nx.toNat=44+32*pT s.o.toNat+32*hT s.t.toNat:=by rw[hpn];rfl
 simp only[↓ag,ah,simprocAttr,aK,e4,hpn',H.im,kI]
 rw[aap]at g6
 refine hk _ Hq aa.length _ (g1.push _) rfl (a9 aa _) (by omega) (λq row hq he=>ab (g4 q row (ab hq _) he) _) λq ex n hd=>?_
 have:=g5 q ex n hd
 rw[aap]at this
 omega
def ZN:Lh:=List.replicate 8 (0,sO)
def oh:List (BitVec 8):=List.replicate 8192 0#8
theorem ram0_len:oh.length=8192:=aaN ..
def Rr:D:= .agg (.ar 64 L8) (List.replicate 64 (.raw (u8 0#8)))
theorem Zg(C:aU){rows:Rows}{K:D->Rows->Prop}(hk:K (.ptr xc rows.length [0]) (rows++[some ⟨xc,[gH ZN]⟩])):aB C 0 rS rQ [] rows K:=by
 refine ae rfl ?_
 unfold rQ rS
 have zs:List.replicate 8 (D.agg SPl [.raw (it 0),.agg (.ar 32 L8) (bs sO)])=ZN.map plD:=rfl
 have sf:D.fits (.agg xc [.agg (.ar 8 SPl) (ZN.map plD),.raw (.bool false),.raw (.bool false)]) xc=true:=rfl
 simp only[eu,zs]
 simp only[↓ag,ah,simprocAttr,aK,sf]
 exact hk
theorem Zh(C:aU){rows:Rows}{f q:Nat}{K:D->Rows->Prop}(hk:K (.ptr du rows.length [0]) (rows++[some ⟨du,[jU 0 oh Rr f q]⟩])):aB C 2 iQ iP [.ptr SF f [0],.ptr Kz q [0]] rows K:=by
 refine ae rfl ?_
 unfold iP iQ
 have z1:List.replicate 8192 (D.raw (u8 0#8))=bs oh:=by rw[bs,oh,ad6]
 have z2:D.agg (.ar 64 L8) (List.replicate 64 (.raw (u8 0#8)))=Rr:=rfl
 have sf:∀l,D.fits (.agg du l) du=true:=λ_=>rfl
 rw[z1]
 rw[z2]
 simp only[↓ag,ah,simprocAttr,aK,sf]
 exact hk
structure EnC (C:aU):Prop where
 s0:C.fn 194=none
 s1:∃C1,C.cV 194=some (aB C1 0 rS rQ)
 ms:C.fn 195=some JT
theorem enew_run(C:aU)(H:EnC C){rows:Rows}{K:D->Rows->Prop}(hk:K (.ptr Sf (rows.length+1) [0]) (rows++[some ⟨xc,[gH ZN]⟩,some ⟨Sf,[.agg Sf [.ptr xc rows.length [0],jm zR,.agg (.ar 32 L8) (bs sO),.raw (it 0)]]⟩])):aB C 0 nJ nI [] rows K:=by
 refine ae rfl ?_
 unfold nI nJ
 obtain⟨C1,r1⟩:=H.s1
 have kM:=λrows k=>kMsNew rows k
 have sf:∀l,D.fits (.agg Sf l) Sf=true:=λ_=>rfl
 have mf:(jm zR).fits SMea=true:=rfl
 simp only[eu]
 simp only[↓ag,ah,simprocAttr,aK,H.s0,r1]
 refine Zg C1 ?_
 simp only[↓ag,ah,simprocAttr,aK,H.ms,kM,sf,mf]
 exact hk
structure NmC (C:aU):Prop where
 s0:C.fn 138=none
 s1:∃C1,C.cV 138=some (aB C1 2 iQ iP)
 e0:C.fn 139=none
 e1:∃C1,C.cV 139=some (aB C1 0 nJ nI)/\EnC C1
 p0:C.fn 70=none
 p1:∃C1,C.cV 70=some (aB C1 0 oS oR)
 co:C.fn 11=some Fl
theorem nm_run(C:aU)(H:NmC C){rows:Rows}{f m q a w:Nat}{x:List (BitVec 8)}{c:pj}(hF:fW rows f m x)(hx:x.length=10240)(hc:oe rows q a w c){K:D->Rows->Prop}
  (hk:∀aa L pp,dz rows aa->L.f=f->L.m=m->L.q=q->L.a=a->L.w=w->(∀x∈[L.M,L.s,L.e,L.sl],rows.length<=x)->jd aa L ⟨0,oh,x,c,gI 0#32,pp,Rr⟩->Fm aa L zR ZN->K (.ptr fq L.M [0]) aa):
  aB C 2 gj gh [.ptr SF f [0],.ptr Kz q [0]] rows K:=by
 refine ae rfl ?_
 unfold gh gj
 obtain⟨C1,r1⟩:=H.s1
 obtain⟨C2,r2,hE⟩:=H.e1
 obtain⟨C3,r3⟩:=H.p1
 have cf:∀a,(gI a).fits DI=true:=λ_=>rfl
 have sf:∀l,D.fits (.agg fq l) fq=true:=λ_=>rfl
 simp only[↓ag,ah,simprocAttr,aK,H.s0,r1]
 refine Zh C1 ?_
 simp only[↓ag,ah,simprocAttr,aK,H.e0,r2]
 refine enew_run C2 hE ?_
 simp only[↓ag,ah,simprocAttr,aK,H.co,UF,cf,H.p0,r3,ii,oR,oS,sf]
 exact hk _ ⟨rows.length+4,rows.length,rows.length+2,rows.length+1,f,m,q,a,w⟩ _ (dz.app _ _) rfl rfl rfl rfl rfl (by simp)
  ⟨bg rows _ 4,a9 rows _,ram0_len,hF.push _,hx,hc.push _⟩ ⟨⟨_,_,bg rows _ 2⟩,bg rows _ 1,rfl,rfl⟩
theorem Rs(C:aU){rows:Rows}{K:D->Rows->Prop}(hk:K (.ptr jN rows.length [0]) (rows++[some ⟨jN,[ml OE]⟩])):aB C 0 oQ oP [] rows K:=by
 refine ae rfl ?_
 unfold oP oQ
 have sf:∀l,D.fits (.agg jN l) jN=true:=λ_=>rfl
 simp only[-List.reduceReplicate,vV]
 simp only[↓ag,ah,simprocAttr,aK,sf]
 exact hk
end kj
end Go.Am
namespace Go.Am
namespace kj
open Go.Am.F
theorem Fo(x:List Wd)(P Q:List Wr):∀n,n<=P.length->mj x (P++Q) n=mj x P n
 |0,_=>rfl
 |n+1,h=>by
  rw[mj,mj,Fo x P Q n (by omega),aaM (by omega)]
def yH(x:List Wd)(f:Nat)(l:List (BitVec 32)):Nat->List Wd
 |0=>x
 |n+1=>match(yH x f l n)[f+n]? with
  |some o=>(yH x f l n).set (f+n) (o.1|||l.getD n 0#32,o.2)
  |none=>yH x f l n
theorem DR(x:List Wd)(f:Nat)(l:List (BitVec 32)):∀n,(yH x f l n).length=x.length
 |0=>rfl
 |n+1=>by
  rw[yH]
  split
  ·rw[abe,DR x f l n]
  ·exact DR x f l n
theorem DS(x:List Wd)(f:Nat)(l:List (BitVec 32))(k:Nat):∀n,k<f\/f+n<=k->(yH x f l n)[k]?=x[k]?
 |0,_=>rfl
 |n+1,h=>by
  rw[yH]
  split
  ·rw[ab7 (by omega),DS x f l k n (by omega)]
  ·exact DS x f l k n (by omega)
theorem or_not(a b:BitVec 32):a&&&~~~(a|||b)=0#32:=by
 ext i hi;simp;intro h;simp[h]
theorem or_self(a b:BitVec 32):a|||(a|||b)=a|||b:=by
 ext i hi;simp
theorem MW(x:List Wd)(f:Nat)(l:List (BitVec 32)):∀n,f+n<=x.length->Uc x (pO (x.map (·.1)) f l n)/\mj x (pO (x.map (·.1)) f l n) (pO (x.map (·.1)) f l n).length=yH x f l n
 |0,_=>⟨λj p h=>by simp[pO]at h,rfl⟩
 | n + 1, h => by
  obtain⟨h1,h2⟩:=MW x f l n (by omega)
  have hx:f+n<x.length:=by omega
  have ho:=DS x f l (f+n) n (by omega)
  rw[aao hx]at ho
  have hg:(x.map (·.1)).getD (f+n) 0#32=(x[f+n]).1:=by simp[List.getD,hx]
  have hs:yH x f l (n+1)=(yH x f l n).set (f+n) ((x[f+n]).1|||l.getD n 0#32,(x[f+n]).2):=by
   rw[yH,ho]
  rw[pO,Mr,hg,hs]
  generalize pO (x.map (·.1)) f l n=P at*
  by_cases c:(x[f+n]).1|||l.getD n 0#32=(x[f+n]).1
  ·rw[aaJ c,aaS,c]
   refine⟨h1,h2.trans ?_⟩
   have hl:f+n<(yH x f l n).length:=by rw[DR];exact hx
   have hv:(yH x f l n)[f+n]=x[f+n]:=by rw[aao hl]at ho;exact abd ho
   rw[show((x[f+n]).1,(x[f+n]).2)=x[f+n]from rfl,<-hv,adO]
  ·rw[aaC c]
   have hlen:(P++[(f+n,(x[f+n]).1|||l.getD n 0#32)]).length=P.length+1:=by simp
   have hp:mj x (P++[(f+n,(x[f+n]).1|||l.getD n 0#32)]) P.length=yH x f l n:=by rw[Fo _ _ _ _ (aax _),h2]
   refine⟨λj p hj=>?_,?_⟩
   ·by_cases c2:j<P.length
    ·rw[aaM c2]at hj
     obtain⟨o,g1,g2⟩:=h1 j p hj
     exact⟨o,by rw[Fo _ _ _ _ (by omega)];exact g1,g2⟩
    ·have hj2:=(acR.1 hj).1
     have e:j=P.length:=by rw[hlen]at hj2;omega
     subst e
     rw[aaO (aax _),acj]at hj
     cases hj
     exact⟨x[f+n],by rw[hp];exact ho,or_not _ _⟩
   ·rw[hlen,mj,aaO (aax _),acj,hp]
    simp only[abG,ho,or_self]
theorem orAt_w(x:List Wd)(f:Nat)(l:List (BitVec 32)):∀n,n<=l.length->f+n<=x.length->(∀k,f<=k->k<f+n->(x.map (·.1)).getD k 0#32=0#32)->(yH x f l n).map (·.1)=(x.map (·.1)).take f++l.take n++(x.map (·.1)).drop (f+n)
 |0,_,_,_=>by simp[yH]
 | n + 1, h1, h2, h3 => by
  have ih:=orAt_w x f l n (by omega) (by omega) λk a b=>h3 k a (by omega)
  have hx:f+n<x.length:=by omega
  have ho:=DS x f l (f+n) n (by omega)
  rw[aao hx]at ho
  have hz:=h3 (f+n) (by omega) (by omega)
  have hg:(x.map (·.1)).getD (f+n) 0#32=(x[f+n]).1:=by simp[List.getD,hx]
  rw[hg]at hz
  rw[yH,ho]
  simp only[hz,BitVec.zero_or,acr,ih]
  have ll:l.getD n 0#32=l[n]'(by omega):=by simp[List.getD,(by omega:n<l.length)]
  have t1:l.take (n+1)=l.take n++[l[n]'(by omega)]:=by rw[aaX (by omega)]
  have t2:(x.map (·.1)).drop (f+n)=(x[f+n]).1::(x.map (·.1)).drop (f+(n+1)):=by
   rw[abp (by simpa using hx)]
   simp[abO]
  have e1:((x.map (·.1)).take f++l.take n).length=f+n:=by simp;omega
  rw[t1,t2,ll,acg _ _ (by rw[e1];exact aax _),e1,acj]
  simp only[List.set_cons_zero,aaB,abu,aaZ]
theorem Bl(c:pj)(f:Nat)(l:List (BitVec 32))(h:f+l.length<=c.ws.length)(hz:∀k,f<=k->k<f+l.length->c.w.getD k 0#32=0#32):
  Uc c.ws (jP c.w f l)/\(mj c.ws (jP c.w f l) (jP c.w f l).length).length=c.ws.length/\(mj c.ws (jP c.w f l) (jP c.w f l).length).map (·.1)=c.w.take f++l++c.w.drop (f+l.length):=by
 obtain⟨h1,h2⟩:=MW c.ws f l l.length h
 have h3:=orAt_w c.ws f l l.length (aax _) h hz
 rw[aa8]at h3
 exact⟨h1,by rw[show jP c.w f l=pO (c.ws.map (·.1)) f l l.length from rfl,h2,DR],by rw[show jP c.w f l=pO (c.ws.map (·.1)) f l l.length from rfl,h2];exact h3⟩
theorem lifeW:∀m,m<4->Dp (255#32<<<(8*m)) 4=m+1:=by decide
theorem cntW_ctr:∀n,n<256->TX (oZ n)=n:=by decide+kernel
theorem UP(n:Nat)(d:List (BitVec 8))(h:d.length=4*n):mo (words n d)=d:=by
 have key:∀n,4*n<=d.length->mo (words n d)=d.take (4*n):=by
  intro n
  induction n with
  |zero=>intro _;rfl
  | succ n ih =>
   intro hn
   rw[Bc,Qy,ih (by omega),show 4*(n+1)=4*n+4 by omega,aef]
   congr 1
   obtain⟨a,b,c,e,hq⟩:∃a b c e,(d.drop (4*n)).take 4=[a,b,c,e]:=by
    have hl:((d.drop (4*n)).take 4).length=4:=by rw[aau,aat];omega
    match(d.drop (4*n)).take 4,hl with
    |[a,b,c,e],_=>exact⟨a,b,c,e,rfl⟩
   rw[hq]
   simp only[mo,abm,adJ,abZ,acb,aaS]
   exact word_num a b c e
 rw[key n (by omega),aar (by omega)]
def Rt(c:pj)(f:Nat)(l:List (BitVec 32)):pj:=⟨mj c.ws (jP c.w f l) (jP c.w f l).length,c.e,c.s⟩
def Fp(id bA:List (BitVec 8)):List (BitVec 32):=words 14 bA++words 4 id
theorem sD(id bA:List (BitVec 8)):(Fp id bA).length=18:=by simp[Fp,fH]
def yI(id bA:List (BitVec 8)):pj:=Rt tP 9 (Fp id bA)
def OI(id bA:List (BitVec 8))(n:Nat):pj:=Rt (yI id bA) 1 (oZ n)
def uZ(id bA:List (BitVec 8))(n m:Nat):pj:=Rt (OI id bA n) 0 [255#32<<<(8*m)]
theorem Ru{c:pj}{f:Nat}{l:List (BitVec 32)}(h:f+l.length<=c.ws.length)(hz:∀k,f<=k->k<f+l.length->c.w.getD k 0#32=0#32):(Rt c f l).ws.length=c.ws.length:=(Bl c f l h hz).2.1
theorem UQ{c:pj}{f:Nat}{l:List (BitVec 32)}(h:f+l.length<=c.ws.length)(hz:∀k,f<=k->k<f+l.length->c.w.getD k 0#32=0#32):(Rt c f l).w=c.w.take f++l++c.w.drop (f+l.length):=(Bl c f l h hz).2.2
theorem OJ:tP.w=List.replicate 64 0#32:=by simp[tP,pj.w]
theorem OK(k:Nat):tP.w.getD k 0#32=0#32:=by
 rw[OJ,aay,ac8]
 split<;>rfl
theorem sE:tP.ws.length=64:=by simp[tP]
theorem sF(id bA:List (BitVec 8)):(yI id bA).ws.length=64:=(Ru (by rw[sD,sE];decide) λk _ _=>OK k).trans sE
theorem OL(id bA:List (BitVec 8)):(yI id bA).w=List.replicate 9 0#32++Fp id bA++List.replicate 37 0#32:=by
 rw[yI,UQ (by rw[sD,sE];decide) λk _ _=>OK k,sD,OJ]
 rfl
theorem OM(id bA:List (BitVec 8))(k:Nat)(h:k<9):(yI id bA).w.getD k 0#32=0#32:=by
 rw[OL,aay,aaB,aaM (by simpa using h),ac8,aaJ h]
 rfl
theorem Ka(id bA:List (BitVec 8))(n:Nat):(OI id bA n).ws.length=64:=(Ru (by rw[jM,sF];decide) λk _ h=>OM id bA k (by rw[jM]at h;omega)).trans (sF id bA)
theorem ON(id bA:List (BitVec 8))(n:Nat):(OI id bA n).w=0#32::(oZ n++(Fp id bA++List.replicate 37 0#32)):=by
 rw[OI,UQ (by rw[jM,sF];decide) λk _ h=>OM id bA k (by rw[jM]at h;omega),jM,OL]
 have e:(List.replicate 9 0#32++Fp id bA++List.replicate 37 0#32).drop (1+8)=Fp id bA++List.replicate 37 0#32:=by
  rw[aaB];exact adC (by simp)
 rw[e,aaB,aaB]
 rfl
theorem UR(id bA:List (BitVec 8))(n m:Nat):(uZ id bA n m).w=255#32<<<(8*m)::(oZ n++(Fp id bA++List.replicate 37 0#32)):=by
 rw[uZ,UQ (by rw[Ka];exact abE rfl) λk _ h=>by
  have:k=0:=by simpa using h
  subst this
  rw[ON];rfl,ON]
 rfl
theorem Zi(id bA:List (BitVec 8))(n m:Nat)(h:m<4):eB (uZ id bA n m)=m+1:=by
 unfold eB
 rw[UR]
 exact lifeW m h
theorem chpL_ctr(id bA:List (BitVec 8))(n m:Nat)(h:n<256):mO (uZ id bA n m)=n:=by
 unfold mO
 rw[UR]
 have e:((255#32<<<(8*m)::(oZ n++(Fp id bA++List.replicate 37 0#32))).drop 1).take 8=oZ n:=acS (jM n)
 rw[e,cntW_ctr n h]
 omega
theorem chpL_key(id bA:List (BitVec 8))(n m:Nat)(h:bA.length=56):oa (uZ id bA n m)=bA:=by
 unfold oa
 rw[UR]
 have e:((255#32<<<(8*m)::(oZ n++(Fp id bA++List.replicate 37 0#32))).drop 9).take 14=words 14 bA:=by
  rw[show(9:Nat)=8+1 from rfl,List.drop_succ_cons,adC (jM n),Fp,aaB]
  exact acS (fH 14 bA)
 rw[e,UP 14 bA (by omega)]
theorem WH(W:List (BitVec 32))(f:Nat)(l:List (BitVec 32))(h:∀x∈l,x=0#32):∀n,pO W f l n=[]
 |0=>rfl
 | n + 1 => by
  rw[pO,WH W f l h n,Mr]
  have:l.getD n 0#32=0#32:=by
   rw[aay]
   cases c:l[n]? with
   |none=>rfl
   |some x=>exact h x (aaG c)
  rw[aay]at this
  simp[this]
theorem cntW_0:∀x∈oZ 0,x=0#32:=by
 intro x hx
 unfold oZ at hx
 obtain⟨j,-,rfl⟩:=acL.1 hx
 rw[Nat.zero_sub,Nat.zero_min]
theorem chpN_0(id bA:List (BitVec 8)):OI id bA 0=yI id bA:=by
 have e:=WH (yI id bA).w 1 (oZ 0) cntW_0 (oZ 0).length
 unfold OI Rt
 generalize yI id bA=c at*
 have e':jP c.w 1 (oZ 0)=[]:=e
 rw[e']
 rfl
end kj
end Go.Am
namespace Go.Am
attribute [local congr] cJ bI cK bJ bK b6 bw bN bO b7 bi b8 bP cI
namespace kj
open Go.Am.F
def sP:List (BitVec 8):=List.replicate 10240 255#8
noncomputable def l9(p0 p1:List (BitVec 8)):List (BitVec 8):=Ok (Ok sP 0 (p0.take 4096)) 4096 (p1.take 4096)
def Rv:List (BitVec 8):=List.replicate 16 0#8
theorem Kb:List.replicate 16 (D.raw (u8 0#8))=bs Rv:=rfl
theorem z16_set:(bs Rv).set 0 (.raw (u8 2#8))=bs Sd:=rfl
structure DT (n:Nat) (rows R:Rows) (x:List (BitVec 8)) (c:pj):Prop where
 k:dz rows R
 f:fW R (n+3) (n+2) x
 c:oe R (n+6) (n+5) (n+4) c
theorem DT.push{n:Nat}{rows R:Rows}{x:List (BitVec 8)}{c:pj}(h:DT n rows R x c)(l:Rows):DT n rows (R++l) x c:=⟨h.k.trans (dz.app _ _),h.f.push l,h.c.push l⟩
theorem DT.wr{rows R R':Rows}{x y:List (BitVec 8)}{c:pj}(h:DT rows.length rows R x c)(U:Upd R R' (rows.length+3) (rows.length+2) y):DT rows.length rows R' y c:=
 ⟨λq row hq=>U.frame q row (h.k q row hq) (by have:=aR hq;omega),U.fl,h.c.keep λp row hp hq=>U.frame p row hp (by omega)⟩
theorem DT.pr{rows R R':Rows}{x:List (BitVec 8)}{c c':pj}(h:DT rows.length rows R x c)(hc:oe R' (rows.length+6) (rows.length+5) (rows.length+4) c')(f:∀p row,live R p=some row->p≠rows.length+4->live R' p=some row):DT rows.length rows R' x c':=by
 obtain⟨⟨e,g1⟩,g2⟩:=h.f
 exact⟨λq row hq=>f q row (h.k q row hq) (by have:=aR hq;omega),⟨⟨e,f _ _ g1 (by omega)⟩,f _ _ g2 (by omega)⟩,hc⟩
structure LayC (C:aU):Prop where
 f0:C.fn 17=none
 f1:C.cV 17=some (aB CF 1 lH lG)
 o0:C.fn 18=none
 o1:∃C1 C2,C.cV 18=some (aB C1 0 oM oL)/\C1.fn 56=none/\C1.cV 56=some (aB C2 1 gA gz)
 cu:C.fn 59=some XY
 w0:C.fn 19=none
 w1:C.cV 19=some (aB CF 3 dO dN)
 ke:C.fn 21=some Jj
 ct:C.fn 116=some Oc
 li:C.fn 25=some Dq
 d0:C.fn 24=none
 d1:∃C1 C2 C3,C.cV 24=some (aB C1 2 kY kU)/\PrgC C3 C2 C1
 n0:C.fn 79=none
 n1:∃C1,C.cV 79=some (aB C1 2 gj gh)/\NmC C1
theorem lay4_run(C:aU)(H:LayC C){rows:Rows}{d s0 s1:D}{bA p0 p1:List (BitVec 8)}(n m:Nat)(hn:n<=255)(hm:m<4)(hd:∀R,dz rows R->aY R d bA)(hpub:bA.length=56)(h0:∀R,dz rows R->aY R s0 p0)(h1:∀R,dz rows R->aY R s1 p1)(l0:p0.length<=9223372036854775807)(l1:p1.length<=9223372036854775807)
  (hf0:s0.fits .ref=true)(hf1:s1.fits .ref=true){K:D->Rows->Prop}
  (hk:∀aa L pp,dz rows aa->(∀x∈[L.M,L.s,L.m,L.e,L.sl,L.q,L.w],rows.length<=x)->jd aa L ⟨0,oh,l9 p0 p1,uZ Sd bA n m,gI 0#32,pp,Rr⟩->Fm aa L zR ZN->K (.ptr fq L.M [0]) aa):
  aB C 4 um uk [d,.agg (.ar 2 .ref) [s0,s1],.raw (it (n:Int)),.raw (it ((m+1:Nat):Int))] rows K:=by
 refine ae rfl ?_
 unfold uk um
 obtain⟨C1,C2,o1,o2,o3⟩:=H.o1
 obtain⟨D1,D2,D3,dd,hP⟩:=H.d1
 obtain⟨N1,nn,hN⟩:=H.n1
 simp only[-List.reduceReplicate,Kb]
 simp only[↓ag,ah,simprocAttr,aK,H.f0,H.f1]
 have e40:(40:Int)=((40:Nat):Int):=rfl
 rw[e40]
 refine QW 40 (by decide) ?_
 have hx0:sP.length=10240:=aaN ..
 rw[show List.replicate (256*40) 255#8=sP from rfl]
 have UL:fW (rows++[some ⟨.ar 2 .ref,[.agg (.ar 2 .ref) [s0,s1]]⟩,some ⟨L8,[.raw (u8 255#8)]⟩,some ⟨L8,bs sP⟩,some ⟨SF,[.agg SF [.sl L8 (rows.length+2) [] 0 10240 false]]⟩]) (rows.length+3) (rows.length+2) sP:=⟨⟨false,by rw[hx0];exact bg rows _ 3⟩,bg rows _ 2⟩
 have Q9:=dz.app rows [some ⟨.ar 2 .ref,[.agg (.ar 2 .ref) [s0,s1]]⟩,some ⟨L8,[.raw (u8 255#8)]⟩,some ⟨L8,bs sP⟩,some ⟨SF,[.agg SF [.sl L8 (rows.length+2) [] 0 10240 false]]⟩]
 have OO:=a9 rows [some ⟨.ar 2 .ref,[.agg (.ar 2 .ref) [s0,s1]]⟩,some ⟨L8,[.raw (u8 255#8)]⟩,some ⟨L8,bs sP⟩,some ⟨SF,[.agg SF [.sl L8 (rows.length+2) [] 0 10240 false]]⟩]
 simp only[↓ag,ah,simprocAttr,aK,H.o0,o1]
 refine Jx C1 C2 o2 o3 λR2 MQ hC2=>?_
 have hsl2:=MQ _ _ OO
 have hI2:DT rows.length rows R2 sP tP:=by
  obtain⟨⟨e,g1⟩,g2⟩:=UL
  exact⟨Q9.trans MQ,⟨⟨e,MQ _ _ g1⟩,MQ _ _ g2⟩,by simpa using hC2⟩
 clear hC2 UL Q9 OO
 have kC0:=λk=>WG (h0 R2 hI2.k) 4096 l0 (by decide) k
 simp only[↓ag,ah,simprocAttr,aK,hsl2]
 refine dQ 3 ?_
 simp only[↓ag,ah,simprocAttr,aK,H.cu,kC0,H.w0,H.w1]
 refine Ug (hI2.f.push _) (a9 R2 _) (by rw[hx0];decide) (by rw[aau];omega) 0 λR3 U3=>?_
 have hI3:=(hI2.push _).wr U3
 have kC1:=λk=>WG (h1 R3 hI3.k) 4096 l1 (by decide) k
 simp only[↓ag,ah,simprocAttr,aK,H.cu,kC1,H.w0,H.w1]
 have rq:(Ok sP 0 (p0.take 4096)).length=10240:=by rw[mJ];exact hx0
 refine Ug (hI3.f.push _) (a9 R3 _) (by rw[rq];decide) (by rw[aau];omega) 4096 λR4 U4=>?_
 have hI4:DT rows.length rows R4 (l9 p0 p1) tP:=(hI3.push _).wr U4
 have kK:=λk=>kToKey (n:=Sd) rfl (hI4.c.rd) sE (hd R4 hI4.k) hpub (by decide) (λw hw=>by rw[OJ]at hw;exact abt (abQ hw)) k
 simp only[-List.reduceReplicate,↓ag,ah,simprocAttr,aK,z16_set,H.ke,kK,H.d0,dd]
 have Bb:=Bl tP 9 (Fp Sd bA) (by rw[sD,sE];decide) λk _ _=>OK k
 refine Du D1 D2 D3 hP (hI4.push _).c (a9 R4 _) rfl (aa3 (oY _ _ _ _) (by rw[sD];decide)) Bb.1 λR5 hC5 hF5=>?_
 have hI5:DT rows.length rows R5 (l9 p0 p1) (yI Sd bA):=(hI4.push _).pr hC5 hF5
 have lf0:eB (OI Sd bA n)=0:=by unfold eB;rw[ON];show Dp 0#32 4=0;decide
 have ct0:mO (yI Sd bA)<=n:=by
  unfold mO
  have e:((yI Sd bA).w.drop 1).take 8=List.replicate 8 0#32:=by
   rw[OL,aaB,ada (by simp),acf (by simp)]
   rfl
  rw[e]
  exact aa3 (by decide) (acm n)
 have kN:=λk=>kToCtr (hI5.c.rd) (sF Sd bA) n hn ct0 k
 simp only[↓ag,ah,simprocAttr,aK,H.ct,kN,H.d0,dd]
 have qL:=Bl (yI Sd bA) 1 (oZ n) (by rw[jM,sF];decide) λk _ h=>OM Sd bA k (by rw[jM]at h;omega)
 refine Du D1 D2 D3 hP (hI5.push _).c (a9 R5 _) rfl (aa3 (oY _ _ _ _) (by rw[jM];decide)) qL.1 λR6 hC6 hF6=>?_
 have hI6:DT rows.length rows R6 (l9 p0 p1) (OI Sd bA n):=(hI5.push _).pr hC6 hF6
 have kL:=λk=>VV (hI6.c.rd) (Ka Sd bA n) m hm (by rw[lf0];omega) k
 simp only[↓ag,ah,simprocAttr,aK,H.li,kL,H.d0,dd]
 have hp3:=Bl (OI Sd bA n) 0 [255#32<<<(8*m)] (by rw[Ka];exact abE rfl) λk _ h=>by
  have:k=0:=by simpa using h
  subst this
  rw[ON];rfl
 refine Du D1 D2 D3 hP (hI6.push _).c (a9 R6 _) rfl (aa3 (oY _ _ _ _) (abE rfl)) hp3.1 λR7 hC7 hF7=>?_
 have hI7:DT rows.length rows R7 (l9 p0 p1) (uZ Sd bA n m):=(hI6.push _).pr hC7 hF7
 simp only[↓ag,ah,simprocAttr,aK,H.n0,nn]
 have FG:(l9 p0 p1).length=10240:=by rw[l9,mJ];exact rq
 refine nm_run N1 hN hI7.f FG hI7.c λR8 L pp hK8 e1 e2 e3 e4 e5 e6 hM hE=>?_
 simp only[↓ag,ah,simprocAttr,aK]
 have hgr:rows.length<=R7.length:=by
  have:=hI7.f.lt.2
  omega
 simp only[aaI,aa1,acd,ac9,ael]at e6
 exact hk R8 L pp (hI7.k.trans hK8) (by simp only[aaI,aa1,acd,ac9,ael];omega) hM hE
end kj
end Go.Am
namespace Go.Am
namespace kj
open Go.Am.F
theorem Zj{q r:List (BitVec 8)}(h:(dD q).2.2.2=0):dD (q++r)=dD q:=by
 have h50:=Wm h
 obtain⟨-,s,hs,-,-,-,hn⟩:=Fh h
 have t48:(q++r).take 48=q.take 48:=acf (by omega)
 have g:∀i,i<q.length->(q++r).getD i 0#8=q.getD i 0#8:=λi hi=>by
  rw[aay,aay,aaM hi]
 have hsg:fX (q++r)=fX q:=by unfold fX;rw[g 48 (by omega),g 49 (by omega)]
 revert h hs
 unfold dD
 rw[t48,hsg,aap]
 cases d1:decide (q.length<50)
 ·have e1:decide (q.length+r.length<50)=false:=aa7 (by omega)
  rw[e1]
  cases d2:decide ((dJ (q.take 48)).2≠0)
  ·cases d3:decide ((q.length:Int)<50+fX q+(dJ (q.take 48)).1.s)
   ·intro _ hs
    simp only[aaK]at hs⊢
    have d3:=of_decide_eq_false d3
    have e3:decide (((q.length+r.length:Nat):Int)<50+fX q+(dJ (q.take 48)).1.s)=false:=aa7 (by omega)
    rw[e3,hs,aaz]
    simp only[aaK]
    have f1:((q++r).drop 50).take (fX q)=(q.drop 50).take (fX q):=by
     rw[ada (by omega),acf (by rw[aat];omega)]
    have f2:((q++r).drop (50+fX q)).take s=(q.drop (50+fX q)).take s:=by
     rw[ada (by omega),acf (by rw[aat];omega)]
    rw[f1,f2]
   ·intro h;simp at h
  ·intro h
   simp only[aaK,aaU]at h
   exact absurd h (acs d2)
 ·intro h;simp at h
def xd(n:Nat):List (BitVec 8):=List.replicate n 255#8
theorem Kc(n:Nat)(p:List (BitVec 8))(h:p.length<=n):clears (xd n) p:=by
 rw[Uf]
 simp only[Ol,aa4,adq,aaq]
 intro i hi
 have:(xd n).getD i 0#8=255#8:=by
  rw[xd,aay,ac8,aaJ (by omega)];rfl
 rw[this]
 have e: ~~~(255#8)=0#8:=rfl
 rw[e,BitVec.and_zero]
theorem WI(p0 p1:List (BitVec 8)):l9 p0 p1=p0.take 4096++xd (4096-(p0.take 4096).length)++(p1.take 4096++xd (6144-(p1.take 4096).length)):=by
 have h0:(p0.take 4096).length<=4096:=acI ..
 have h1:(p1.take 4096).length<=4096:=acI ..
 unfold l9
 generalize p0.take 4096=q0 at*
 generalize p1.take 4096=q1 at*
 have hf:sP=xd 10240:=rfl
 have l1:∀n,(xd n).length=n:=λn=>aaN ..
 have w0:=wr_ok (x:=sP) (p:=q0) (a:=0) (by rw[hf,l1];omega) (by rw[abz,hf];exact Kc _ _ (by omega))
 have s0:aP sP 0 q0=q0++xd (4096-q0.length)++xd 6144:=by
  rw[aP,hf,acF,aaZ,abk,xd,adX,aaB,xd,xd,acw]
  congr 2
  omega
 have e0:Ok sP 0 q0=q0++xd (4096-q0.length)++xd 6144:=w0.2.trans s0
 rw[e0]
 have l2:(q0++xd (4096-q0.length)).length=4096:=by rw[aap,l1];omega
 have w1:=wr_ok (x:=q0++xd (4096-q0.length)++xd 6144) (p:=q1) (a:=4096) (by rw[aap,l2,l1];omega) (by rw[adC l2];exact Kc _ _ (by omega))
 refine w1.2.trans ?_
 have dr:(xd 6144).drop q1.length=xd (6144-q1.length):=adX ..
 rw[aP,acS l2,<-abr,adC l2,dr,aaB]
theorem lay_sub0(p0 p1:List (BitVec 8)):sub (l9 p0 p1) 0 4096=p0.take 4096++xd (4096-(p0.take 4096).length):=by
 have h0:(p0.take 4096).length<=4096:=acI ..
 rw[WI,sub,abz]
 exact acS (by rw[aap,xd,aaN];omega)
theorem lay_hi(p0 p1:List (BitVec 8))(a n:Nat)(h:8192<=a)(hn:a+n<=10240):sub (l9 p0 p1) a n=xd n:=by
 have h0:(p0.take 4096).length<=4096:=acI ..
 have h1:(p1.take 4096).length<=4096:=acI ..
 rw[WI,sub]
 have e:xd (6144-(p1.take 4096).length)=xd (a-4096-(p1.take 4096).length)++xd (10240-a):=by
  rw[xd,xd,xd,acw];congr 1;omega
 rw[e,<-aaB,<-aaB,adC (by simp only[aap,xd,aaN];omega),xd,adY,xd]
 congr 1
 omega
theorem WJ(p0 p1:List (BitVec 8)):(l9 p0 p1).length=10240:=by rw[l9,mJ,mJ];exact aaN ..
theorem lay_read(p0 p1:List (BitVec 8))(e:Bool):nj (some (l9 p0 p1,e))=(gW,-1):=by
 rw[JQ _ e (by rw[WJ];decide)]
 unfold refJ
 rw[aaC (by rw[WJ];decide),lay_hi _ _ _ _ (by decide) (by decide),lay_hi _ _ _ _ (by decide) (by decide)]
 have:(cU (xd 32)).2=false:=by decide+kernel
 rw[this]
 rfl
theorem imgOk_T(v:Nat){y sig:List (BitVec 8)}(hv:v<=255)(hy:okY y)(hs:sig.length<=65535):qy (dE v y) sig y=true:=by
 simp only[qy,Bk v hv hy,ab8,aan,aaq]
 exact⟨rfl,hs⟩
theorem look_img{x bA sig y:List (BitVec 8)}{least:Int}{j v n:Nat}(hv:v<=255)(hy:okY y)(hs:sig.length<=65535)(hx:sub x (4096*j) 4096=jV (dE v y) sig y++xd n)(Fq:wY bA (ci (dE v y)) sig=0):
  mF x bA least j=(if(v:Int)<least then 15 else 0)/\gG x j=(dE v y,sig,y,0):=by
 have zH:(dE v y).dg.length=32:=dk _
 have hr:=read_img (dE v y) sig y zH (imgOk_T v hv hy hs)
 have YP:dD (jV (dE v y) sig y++xd n)=(dE v y,sig,y,0):=by rw[Zj (by rw[hr]),hr]
 have P0:=pW (dE v y) zH
 have ht:(jV (dE v y) sig y++xd n).take 48=ci (dE v y):=by
  rw[jV,aaB]
  exact acS P0
 unfold mF gG JP
 rw[hx,YP,ht]
 refine⟨?_,rfl⟩
 have hd:eY y=(dE v y).dg:=rfl
 have hvv:(dE v y).v=(v:Int):=rfl
 simp only[Fq,hd,hvv,ne_eq,acZ,abP]
theorem lay_at0(q0 q1:List (BitVec 8))(h:q0.length<=4096):sub (l9 q0 q1) (4096*0) 4096=q0++xd (4096-q0.length):=by
 have:=lay_sub0 q0 q1
 rwa [aar h]at this
end kj
end Go.Am
namespace Go.Am
attribute [local congr] cJ bI cK bJ bK b6 bw bN bO b7 bi b8 bP cI
namespace kj
open Go.Am.F
def vX:aj->aj
 | .block _ (.loop a)=>a
 |c=>c
noncomputable def tG:aj:=vX (og (gX (gX cC)))
theorem Zk:cC= .seq (og cC) (.seq (og (gX cC)) (.seq (.block 0 (.loop tG)) (gX (gX (gX cC))))):=rfl
def Ev(L:Ly)(b most i:Nat)(env:Env):Prop:=has env [(7,.raw (it (i:Int))),(2,.raw (it (most:Int))),(0,.ptr jN b [0]),(1,.ptr fq L.M [0])]
structure RnC (C C1:aU):Prop where
 t0:C.fn 117=none
 t1:C.cV 117=some (aB C1 2 cz cx)
 tk:Sj C1
section
variable {C C1:aU} {rows:Rows} {env:Env} {L:Ly} {b most i n:Nat} {B:Bt} {Z:Bool->Rows->Prop} {Q:gF->Env->Rows->Prop}
theorem run_step(H:RnC C C1)(hh:Ev L b most i env)(hi:i<most)(hm:most<=100000)(hb:cO rows b B)(hp:B.ph<8)(ht:Tk C1 L b rows Z)(hn:∀v env' aa,Ev L b most (i+1) env'->Z v aa->qX (aw C tG) Q n env' aa):qX (aw C tG) Q (n+1) env rows:=by
 simp only[Ev,has]at hh
 have e0:((i:Int)<(most:Int))=True:=aas (by omega)
 have e1:(B.ph<8)=True:=aas hp
 have w:=cG i (by omega)
 simp only[cO,ml]at hb
 rw[lp_s]
 unfold tG at*
 generalize hX:kLp C (vX (og (gX (gX cC)))) Q n=X
 simp only[cC,og,gX,vX,↓ag,ah,simprocAttr,aK,hh,e0,e1,hb,H.t0,H.t1]
 refine ht _ λd aa hd=>?_
 obtain⟨v,rfl,hz⟩:=hd
 simp only[↓ag,ah,simprocAttr,aK,hh,w]
 subst hX
 exact hn v _ _ (by simp only[Ev,has,↓ag,ah,simprocAttr,hh]) hz
theorem run_stop(hh:Ev L b most i env)(hb:cO rows b B)(hp:¬B.ph<8)(hq:∀env',Ev L b most i env'->Q (.exit 0) env' rows):qX (aw C tG) Q (n+1) env rows:=by
 simp only[Ev,has]at hh
 have e1:(B.ph<8)=False:=aaw hp
 simp only[cO,ml]at hb
 rw[lp_s]
 unfold tG at*
 by_cases c:i<most
 ·have e0:((i:Int)<(most:Int))=True:=aas (by omega)
  simp only[cC,og,gX,vX,↓ag,ah,simprocAttr,aK,hh,e0,e1,hb]
  exact hq _ (by simp only[Ev,has,↓ag,ah,simprocAttr,hh])
 ·have e0:((i:Int)<(most:Int))=False:=aaw (by omega)
  simp only[cC,og,gX,vX,↓ag,ah,simprocAttr,aK,hh,e0,e1,hb]
  exact hq _ (by simp only[Ev,has,↓ag,ah,simprocAttr,hh])
theorem run_drv(H:RnC C C1){S:zp}(hm:100<=most)(KJ:most<=100000):Drv C1 L S b (λi rows=>∀F env,F+i=100->Ev L b most i env->qX (aw C tG) Q F env rows) (λi rows=>∀F env,F+i=100->Ev L b most i env->qX (aw C tG) Q F env rows):=
 ⟨λi rows B S' R l hi hR hS hp t F env hF hh=>by
  obtain⟨n,rfl⟩:∃n,F=n+1:=⟨F-1,by omega⟩
  refine run_step H hh (by omega) KJ hR.b hp t λv env' aa hh' hz=>?_
  cases v<;>exact hz.2 n env' (by omega) hh'⟩
theorem brun_run(H:RnC C C1)(Ku:100<=most)(hm:most<=100000){S:zp}{R:List (List (BitVec 8))}{l:Lh}(hR:Aw rows L S b OE R l)(hst:S.st=0)(G9:(l.getD 0 (0,[])).1=0)(zw:(l.getD 1 (0,[])).1=0)(hlf:1<=eB S.c/\eB S.c<=3)(hci:(zI S).i=0)(hcc:(zI S).c=false)(e0:mF S.x (oa S.c) (mO S.c) 0=0){z:Nat}(xa:(gG S.x 0).1.s=z)(hz:z<=2048){K:D->Rows->Prop}
  (hk:∀aa B',Fr (L.all b) rows aa->cO aa b B'->B'.ph=8->K (.raw (it ((38+(z+63)/64:Nat):Int))) aa):
  aB C 3 j7 cC [.ptr jN b [0],.ptr fq L.M [0],.raw (it (most:Int))] rows K:=by
 refine ae rfl ?_
 rw[Zk]
 simp only[cC,og,gX,j7,↓ag,ah,simprocAttr]
 have hQ:∀(env:Env) (aa:Rows) (i:Nat),Ev L b most i env->K (.raw (it (i:Int))) aa->SN 0 (kSeq C (.seq (.region false [⟨some 31,.mv (.tmp 7),none⟩,⟨some 6,.mv (.tmp 31),none⟩]) .ret) (BS [.tmp 6] K)) (.exit 0) env aa:=by
  intro env aa i hh hk
  simp only[Ev,has]at hh
  simp only[↓ag,ah,simprocAttr,hh]
  exact hk
 have D9:Ev L b most 0 [(7,.raw (it 0)),(6,.raw (it 0)),(0,.ptr jN b [0]),(1,.ptr fq L.M [0]),(2,.raw (it (most:Int)))]:=by simp only[Ev,has,↓ag,ah,simprocAttr]
 generalize SN 0 _=Q at*
 refine dQ 100 ?_
 refine OF H.tk (run_drv (Q:=Q) H Ku hm) hR hst G9 zw hlf hci hcc e0 xa (λaa c' B' hw hF hM hB p1 p2 p3 p4 F env Y9 hh=>?_) 100 _ rfl D9
 obtain⟨n,rfl⟩:∃n,F=n+1:=⟨F-1,by omega⟩
 exact run_stop hh hB (by rw[p1];decide) λenv5 hh5=>hQ _ _ _ hh5 (hk aa B' hF hB p1)
end
def id1:List (BitVec 8):=Rv.set 0 1#8
theorem id1_set:(bs Rv).set 0 (.raw (u8 1#8))=bs id1:=rfl
def jQ:List (BitVec 8):=sO.set 0 1#8
theorem MX:(bs sO).set 0 (.raw (u8 1#8))=bs jQ:=rfl
def Rw(aM:List (BitVec 8)):Sg:=uX 3758096385#32 3#32 id1 aM (mr 3#32 id1 aM (hH 3758096385#32))
theorem Kd(m:Bo)(sig y:List (BitVec 8))(h:m.dg.length=32):(jV m sig y).length=50+sig.length+y.length:=by
 have h3:=pW m h
 rw[jV,aap,aap,aap,h3]
 have:(n2I sig.length).length=2:=rfl
 omega
theorem WK{s:qV}(hW:Whole s)(ho:s.o=3#32){n:Nat}{t:BitVec 32}(h0:s.t=t)(ht:hT t.toNat=n){q:BitVec 32}(hq:q.toNat<hH s.t)(c m:List (BitVec 8))(hc:c.length=32):(iq s q c m).length=2188+32*n:=by
 have h1:=yB hW.ok (by rw[hW.lv];exact hq) c m hc
 rw[hW.pn hq,ho,h0]at h1
 subst ht
 exact h1
theorem Ke{s:qV}(h:Whole s){q:BitVec 32}(hq:q.toNat<hH s.t)(c m:List (BitVec 8))(hc:c.length=32):wY (dP s) m (iq s q c m)=0:=by
 rw[ver_own h h rfl rfl rfl hq c m hc,aaJ rfl]
theorem Rx{S:zp}{id bA sig OP y:List (BitVec 8)}{v:Nat}(hx:S.x=l9 OP [])(hc:S.c.w=(uZ id bA 0 1).w)(hp:bA.length=56)(hv:v<=255)(hy:okY y)(hs:sig.length<=65535)(himg:jV (dE v y) sig y=OP)(hl:OP.length<=4096)(Fq:wY bA (ci (dE v y)) sig=0):
  (1<=eB S.c/\eB S.c<=3)/\(zI S).i=0/\(zI S).c=false/\(zI S).t=false/\mF S.x (oa S.c) (mO S.c) 0=0/\gG S.x 0=(dE v y,sig,y,0):=by
 have hf:eB S.c=2:=(show eB S.c=eB (uZ id bA 0 1) by unfold eB;rw[hc]).trans (Zi id bA 0 1 (by decide))
 have hc0:mO S.c=0:=(show mO S.c=mO (uZ id bA 0 1) by unfold mO;rw[hc]).trans (chpL_ctr id bA 0 1 (by decide))
 have hk:oa S.c=bA:=(show oa S.c=oa (uZ id bA 0 1) by unfold oa;rw[hc]).trans (chpL_key id bA 0 1 hp)
 have hA0:=look_img (x:=l9 OP []) (bA:=bA) (sig:=sig) (y:=y) (least:=((0:Nat):Int)) (j:=0) (v:=v) (n:=4096-OP.length) hv hy hs (by rw[himg];exact lay_at0 OP [] hl) Fq
 rw[<-hx,aaC (by omega)]at hA0
 have hr:nj (some (S.x,false))=(gW,-1):=by rw[hx];exact lay_read _ _ _
 have hcho:zI S=⟨0,gW,false,false,0⟩:=by
  unfold zI
  rw[hf,hc0,hk,hr,hA0.1]
  generalize mF S.x bA ((0:Nat):Int) 1=y
  simp[Lb,Wn,gW]
 refine⟨by omega,by rw[hcho],by rw[hcho],by rw[hcho],by rw[hk,hc0];exact hA0.1,hA0.2⟩
structure WkC (C:aU):Prop where
 nw0:C.fn 16=none
 nw1:∃C1,C.cV 16=some (aB C1 4 qQ qP)/\LmC C1
 pu:C.fn 22=some uR
 im0:C.fn 45=none
 im1:∃C1,C.cV 45=some (aB C1 4 pI pH)/\ImC C1
 la0:C.fn 44=none
 la1:∃C1,C.cV 44=some (aB C1 4 um uk)/\LayC C1
 bn0:C.fn 46=none
 bn1:∃C1,C.cV 46=some (aB C1 0 oQ oP)
 rn0:C.fn 47=none
 rn1:∃C1 C2,C.cV 47=some (aB C1 3 j7 cC)/\RnC C1 C2
theorem Zl(C:aU)(H:WkC C){rows:Rows}{K:D->Rows->Prop}(hk:∀aa,dz rows aa->K (.raw (.bool true)) aa):aB C 0 pG pF [] rows K:=by
 refine ae rfl ?_
 unfold pF pG
 obtain⟨C1,n1,hL⟩:=H.nw1
 obtain⟨C2,i1,hI⟩:=H.im1
 obtain⟨C3,l1,hY⟩:=H.la1
 obtain⟨C4,b1⟩:=H.bn1
 obtain⟨C5,C6,r1,hR⟩:=H.rn1
 simp only[-List.reduceReplicate,Kb,eu]
 simp only[-List.reduceReplicate,↓ag,ah,simprocAttr,aK,id1_set,MX,H.nw0,n1]
 refine Ro C1 hL (t:=3758096385#32) (o:=3#32) (id:=id1) (aM:=jQ) (by decide) (by decide) (by decide) (by decide) (by decide) λR1 A hS Q9 e1 e2 e3 e4 e5=>?_
 have hW:=MV hS (by decide) (by decide) (by decide) (by decide) (by decide)
 change oc R1 A (Rw jQ)at hS
 change Whole ((Rw jQ).v A)at hW
 have kP:=λk=>QR R1 k _ _ hS.rd hW.ok
 simp only[-List.reduceReplicate,↓ag,ah,simprocAttr,aK,H.pu,kP,H.im0,i1]
 have hS2:=hS.push [some ⟨L8,bs (dP ((Rw jQ).v A))⟩]
 refine Zf C2 hI (d:= .raw (.slice none 0 0)) (p:=[]) 1 (by decide) hS2 hW (by decide) (by decide) (λmore=>eC.to (.inl ⟨rfl,rfl⟩)) rfl (by decide) λR2 dl r n hS3 hn hr yx hel tR=>?_
 simp only[-List.reduceReplicate,↓ag,ah,simprocAttr,aK,H.la0,l1]
 have qm:(dP ((Rw jQ).v A)).length=56:=o5 hW.ok
 have hpu:=hel _ _ (a9 R1 [some ⟨L8,bs (dP ((Rw jQ).v A))⟩]) (zq hS (aax _))
 have hq0:(Rw jQ).nx.toNat<hH ((Rw jQ).v A).t:=(by decide:(0#32).toNat<hH 3758096385#32)
 have OO:=WK hW rfl (n:=1) (t:=3758096385#32) rfl rfl hq0 (wZ 1) (ci (dE 1 (cH 120 []))) (by decide)
 have pY:=Kd (dE 1 (cH 120 [])) (iq ((Rw jQ).v A) (Rw jQ).nx (wZ 1) (ci (dE 1 (cH 120 [])))) (cH 120 []) (dk _)
 rw[sC]at pY
 have OO:(iq ((Rw jQ).v A) (Rw jQ).nx (wZ 1) (ci (dE 1 (cH 120 [])))).length=2220:=OO
 rw[OO]at pY
 have Fq:=Ke hW hq0 (wZ 1) (ci (dE 1 (cH 120 []))) (by decide)
 change wY (dP ((Rw jQ).v A)) (ci (dE 1 (cH 120 []))) (iq ((Rw jQ).v A) (Rw jQ).nx (wZ 1) (ci (dE 1 (cH 120 []))))=0 at Fq
 generalize hsig:iq ((Rw jQ).v A) (Rw jQ).nx (wZ 1) (ci (dE 1 (cH 120 [])))=sig at*
 generalize hpub:dP ((Rw jQ).v A)=bA at*
 generalize himg:jV (dE 1 (cH 120 [])) sig (cH 120 [])=OP at*
 refine lay4_run C3 hY (bA:=bA) (p0:=OP) (p1:=[]) 0 1 (by decide) (by decide) (λR hK=>aY.own (hK _ _ hpu) _ qm.symm) qm (λR hK=>aY.own (hK _ _ hr) _ hn) (λR hK=>eC.to (.inl ⟨rfl,rfl⟩)) (by rw[pY];decide) (by decide) rfl rfl λR3 L pp hK3 hMx hM hE=>?_
 simp only[↓ag,ah,simprocAttr,aK,H.bn0,b1]
 refine Rs C4 ?_
 simp only[↓ag,ah,simprocAttr,aK,H.rn0,r1]
 generalize hx:l9 OP []=X at hM
 generalize hc:uZ Sd bA 0 1=ch at hM
 generalize oh=rm at hM
 have hil4:OP.length<=4096:=by rw[pY];decide
 obtain⟨w1,w2,w3,w4,w5,w6⟩:=Rx (S:=⟨0,rm,X,ch,gI 0#32,pp,Rr⟩) hx.symm (ach pj.w hc.symm) qm (by decide) (DQ 120 [] (by decide)) (by omega) himg hil4 Fq
 have hRd:Aw (R3++[some ⟨jN,[ml OE]⟩]) L ⟨0,rm,X,ch,gI 0#32,pp,Rr⟩ R3.length OE zR ZN:=⟨hM.keep λq row hq _=>ab hq _,hE.keep λq row hq _=>ab hq _,a9 R3 [some ⟨jN,[ml OE]⟩]⟩
 refine brun_run hR (most:=100) (by decide) (by decide) hRd rfl rfl rfl w1 w2 w3 w5 (z:=4) (by rw[w6];rfl) (by decide) λR4 B' hF hB4 p1=>?_
 simp only[cO,ml,p1]at hB4
 simp only[↓ag,ah,simprocAttr,aK,hB4]
 refine hk _ λq row hq=>?_
 have hl:=aR hq
 have zw:=aR (Q9 _ _ hq)
 have g1:=hel _ _ (ab (Q9 _ _ hq) [some ⟨L8,bs bA⟩]) ⟨by omega,by omega,by omega,by omega,λex n e=>by rw[e5]at e;cases e⟩
 have g2:=hK3 _ _ g1
 simp only[aaI,aa1,acd,ac9,ael]at hMx
 have hg:=aR g2
 have Ea:=aR hpu
 refine hF _ _ (ab g2 _) ?_
 simp only[Ly.all,aaI,aa1,acd,ad5]
 omega
def wO(C:aU)(o:Nat)(Z:Rows->Prop):Nat->Rows->Prop
 |0,rows=>Z rows
 |n+1,rows=>∀K:D->Rows->Prop,(∀aa,wO C o Z n aa->K (.cd []) aa)->aB C 1 fS fR [.ptr mG o [0]] rows K
noncomputable def OQ:aj:=vX (gX (og (gX (gX cB))))
theorem ti_split:cB= .seq (og cB) (.seq (og (gX cB)) (.seq (.seq (og (og (gX (gX cB)))) (.block 1 (.loop OQ))) (gX (gX (gX cB))))):=rfl
def Et(o r N i:Nat)(env:Env):Prop:=has env [(21,.raw (it (i:Int))),(20,.raw (it (N:Int))),(0,.ptr mG o [0]),(4,.ptr S7 r [0])]
structure TisC (C C1:aU):Prop where
 s0:C.fn 82=none
 s1:C.cV 82=some (aB C1 1 fS fR)
theorem ti_loop{C C1:aU}(H:TisC C C1){o r N:Nat}(hN:N<=200){Z:Rows->Prop}{Q:gF->Env->Rows->Prop}(hq:∀env rows,Et o r N N env->Z rows->Q (.exit 1) env rows):∀(n i:Nat) (env:Env) (rows:Rows),i+n=N->Et o r N i env->wO C1 o Z n rows->qX (aw C OQ) Q (n+1) env rows:=by
 intro n
 induction n with
 |zero=>
  intro i env rows hi hh hz
  obtain rfl:i=N:=by omega
  have D9:=hh
  simp only[Et,has]at hh
  have e0:((i:Int)<(i:Int))=False:=aaw (by omega)
  rw[lp_s]
  unfold OQ at*
  simp only[cB,og,gX,vX,↓ag,ah,simprocAttr,aK,hh,e0]
  exact hq _ _ (by simp only[Et,has,↓ag,ah,simprocAttr,hh]) hz
 |succ n ih=>
  intro i env rows hi hh hz
  simp only[Et,has]at hh
  have e0:((i:Int)<(N:Int))=True:=aas (by omega)
  have w:=cG i (by omega)
  rw[lp_s]
  unfold OQ at*
  generalize hX:kLp C (vX (gX (og (gX (gX cB))))) Q (n+1)=X
  simp only[cB,og,gX,vX,↓ag,ah,simprocAttr,aK,hh,e0,H.s0,H.s1]
  refine hz _ λaa Gs=>?_
  simp only[↓ag,ah,simprocAttr,aK,hh,w]
  subst hX
  exact ih (i+1) _ _ (by omega) (by simp only[Et,has,↓ag,ah,simprocAttr,hh]) Gs
abbrev oo:D:= .agg S7 [.raw (it 0),.raw (it 0),.raw (.slice none 0 0)]
theorem Zm{C C1:aU}(H:TisC C C1){rows:Rows}{o N f q p b:Nat}{L:Ly}{k:D}(hN:N<=200)(jn:live rows o=some ⟨mG,[G6 f q p (.ptr fq L.M [0]) (.ptr jN b [0]) k]⟩){Z:Rows->Prop}(hs:wO C1 o Z N (rows++[some ⟨S7,[oo]⟩])){K:D->Rows->Prop}
  (hz:∀aa,Z aa->live aa rows.length=some ⟨S7,[oo]⟩/\K oo (aa.set rows.length (some ⟨S7,[oo]⟩))):aB C 2 j6 cB [.ptr mG o [0],.raw (it (N:Int))] rows K:=by
 refine ae rfl ?_
 rw[ti_split]
 have sA:=λl=>ab jn l
 have e0:((N:Int)<0)=False:=aaw (by omega)
 have e1:(200<(N:Int))=False:=aaw (by omega)
 simp only[cB,og,gX,j6,↓ag,ah,simprocAttr,aK,sA,sy,e0,e1]
 refine dQ (N+1) (ti_loop H hN (λenv aa hh hZ=>?_) N 0 _ _ (by omega) (by simp only[Et,has,↓ag,ah,simprocAttr];rfl) hs)
 obtain⟨h1,h2⟩:=hz _ hZ
 simp only[Et,has]at hh
 have h3:=λx=>aD (y:=x) h1
 simp only[↓ag,ah,simprocAttr,aK,hh,h1,h3]
 exact h2
end kj
end Go.Am
namespace Go.Am
namespace kj
open Go.Am.F
abbrev WL(o f q p:Nat)(L:Ly)(b:Nat)(mk:D)(rows:Rows):Prop:=live rows o=some ⟨mG,[G6 f q p (.ptr fq L.M [0]) (.ptr jN b [0]) mk]⟩
def GoS(C:aU)(o f q p:Nat)(L:Ly)(b:Nat)(eN:Rows)(N:Nat)(Z:Rows->Prop)(i:Nat)(rows:Rows):Prop:=WL o f q p L b ir rows->Fr (o::L.all b) eN rows->i<=N->wO C o Z (N-i) rows
def EoS(C:aU)(o f q p:Nat)(L:Ly)(b:Nat)(eN:Rows)(N:Nat)(Z:Rows->Prop)(i:Nat)(rows:Rows):Prop:=(∃B,cO rows b B/\B.ph=8/\B.tr=false)/\∀fb mk,WL o f q p L b mk fb->Fr [o] rows fb->Fr (o::L.all b) eN fb->i<=N->wO C o Z (N-i) fb
theorem WM{C C1 C2 C3:aU}(H:OG C C1 C2 C3)(h0:C2.fn 162=none)(h1:∃C1,C2.cV 162=some (aB C1 4 gV gU)){L:Ly}{S:zp}{b o f q p N:Nat}(ho:o∉L.all b){eN:Rows}{Z:Rows->Prop}
  (hz:∀rows B S' R l,Aw rows L S' b B R l->Rl S S'->B.ph<8->WL o f q p L b ir rows->Fr (o::L.all b) eN rows->N<100->Z rows):Drv C1 L S b (GoS C o f q p L b eN N Z) (EoS C o f q p L b eN N Z):=by
 refine⟨λi rows B S' R l hi hR hS hp t jn hF hiN=>?_⟩
 by_cases c:i=N
 ·subst c
  rw[acj]
  exact hz rows B S' R l hR hS hp jn hF hi
 obtain⟨n,hn⟩:∃n,N-i=n+1:=⟨N-i-1,by omega⟩
 have hn2:N-(i+1)=n:=by omega
 rw[hn]
 intro K hK
 have hm:∀x∈L.all b,x∈o::L.all b:=λx hx=>ab3 _ hx
 refine Ze C H jn hR.b hp t (λaa Gs=>hK _ ?_) λaa Gs K' Li=>?_
 ·have:=Gs.2 (Gs.1 _ _ jn ho) (hF.trans (Gs.1.mono hm)) (by omega)
  rwa [hn2]at this
 ·obtain⟨hf,⟨B',hB',h8,ht⟩,hE⟩:=Gs
  refine Zd C2 h0 h1 (hf _ _ jn ho) hB' h8 ht λfb mk h2 f2=>Li _ (hK _ ?_)
  have f3:Fr [o] aa fb:=λr row hr hq=>f2 _ _ hr (by simpa using hq)
  have:=hE fb mk h2 f3 (hF.trans ((hf.mono hm).trans (f3.mono (by simp)))) (by omega)
  rwa [hn2]at this
end kj
end Go.Am
namespace Go.Am
namespace kj
open Go.Am.F
variable {C C1 C2 C3:aU} {cs:List (Nat×Row)} {rows:Rows} {o p b x n:Nat} {L:Ly} {mk:D} {c:qH} {cD l outs:List (BitVec 8)} {t w:BitVec 32} {Z:Rows->Prop}
theorem WN(H:OG C C1 C2 C3)(HL:LiC C3)(h:Lv cs rows o p b L mk c cD l outs t)(ho:x+4<=4096)(Si:x %4=0)(hx:c.pc.toNat=536870912+x)(hw:(cD.drop x).take 4=lw w)(hww:w=1073742007#32\/w=109052179#32\/w=110100755#32\/w=111#32)
  (hn:∀aa l' t',Lv cs aa o p b L mk (c.doS (vT w)) cD l' outs t'->wO C o Z n aa):wO C o Z (n+1) rows:=by
 intro K hK
 obtain⟨B,hB,hp⟩:=h.bt
 exact MU C H h.so hB hp λK' Li=>live_run C3 HL h ho Si hx hw hww λaa h'=>Li _ (hK _ (hn _ _ _ h'))
theorem lsb(H:OG C C1 C2 C3)(HL:LiC C3)(h:Lv cs rows o p b L mk c cD l outs t)(ho:x+4<=4096)(Si:x %4=0)(hx:c.pc.toNat=536870912+x)(hw:(cD.drop x).take 4=lw 2129955#32)(rq:c.x1=1073741824#32)(RX:outs.length<=90)
  (hn:∀aa l' t',Lv cs aa o p b L mk c.nx cD l' (outs++[c.x2.setWidth 8]) t'->wO C o Z n aa):wO C o Z (n+1) rows:=by
 intro K hK
 obtain⟨B,hB,hp⟩:=h.bt
 exact MU C H h.so hB hp λK' Li=>Za C3 HL h ho Si hx hw rq RX λaa h'=>Li _ (hK _ (hn _ _ _ h'))
def MY:List (BitVec 8):=lw 1073742007#32++lw 109052179#32++lw 2129955#32++lw 110100755#32++lw 2129955#32++lw 111#32
theorem ljal(H:OG C C1 C2 C3)(HL:LiC C3)(hw:(cD.drop 20).take 4=lw 111#32)(hz:∀aa c' l' t',Lv cs aa o p b L mk c' cD l' outs t'->Z aa):∀(n:Nat) (rows:Rows) (c:qH) (l:List (BitVec 8)) (t:BitVec 32),c.pc=536870932#32->Lv cs rows o p b L mk c cD l outs t->wO C o Z n rows:=by
 intro n
 induction n with
 |zero=>exact λrows c l t hc h=>hz _ _ _ _ h
 |succ n ih=>
  intro rows c l t hc h
  refine WN H HL h (x:=20) (by decide) (by decide) (by rw[hc];rfl) hw (.inr (.inr (.inr rfl))) λaa l' t' h'=>ih aa _ l' t' ?_ h'
  show c.pc+0#32=_
  rw[hc];rfl
theorem hi_run(H:OG C C1 C2 C3)(HL:LiC C3)(hr:cD.take 24=MY)(h:Lv cs rows o p b L mk ⟨0#32,0#32,536870912#32,0#32⟩ cD l [] t)(n:Nat)(hz:∀aa c' l' t',Lv cs aa o p b L mk c' cD l' [104#8,105#8] t'->Z aa):wO C o Z (n+5) rows:=by
 have e:∀x,x+4<=24->(cD.drop x).take 4=(MY.drop x).take 4:=λx hx=>by
  rw[<-hr,ad3,aco,abI (by omega)]
 refine WN H HL h (x:=0) (by decide) (by decide) rfl (e 0 (by decide)) (.inl rfl) λjl l1 t1 h1=>?_
 refine WN H HL h1 (x:=4) (by decide) (by decide) rfl (e 4 (by decide)) (.inr (.inl rfl)) λfb l2 t2 h2=>?_
 refine lsb H HL h2 (x:=8) (by decide) (by decide) rfl (e 8 (by decide)) rfl (by decide) λmy l3 t3 h3=>?_
 refine WN H HL h3 (x:=12) (by decide) (by decide) rfl (e 12 (by decide)) (.inr (.inr (.inl rfl))) λAx l4 t4 h4=>?_
 refine lsb H HL h4 (x:=16) (by decide) (by decide) rfl (e 16 (by decide)) rfl (by decide) λDP l5 t5 h5=>?_
 exact ljal H HL (e 20 (by decide)) hz n _ _ _ _ rfl h5
end kj
end Go.Am
namespace Go.Am
attribute [local congr] cJ bI cK bJ bK b6 bw bN bO b7 bi b8 bP cI
namespace kj
open Go.Am.F
theorem Kf{rows:Rows}{q:Nat}{row:Row}(h:live rows q=some row):rows.set q (some row)=rows:=by
 have hl:=aR h
 have:rows[q]=some row:=by
  rw[live,aao hl]at h
  revert h
  cases rows[q]with
  |none=>exact λh=>by cases h
  |some r=>exact λh=>h
 rw[<-this,adO]
def Fs(k:BitVec 8)(N:Int)(a:BitVec 32)(d:D):D:= .agg S1 [.raw (u8 k),.raw (it N),.raw (u32 a),d]
structure Do2C (C C1 C2:aU):Prop where
 t0:C.fn 32=none
 t1:C.cV 32=some (aB C1 2 j6 cB)
 ti:TisC C1 C2
theorem WO{C C1 C2:aU}(H:Do2C C C1 C2){rows:Rows}{o N f q p b:Nat}{L:Ly}{k d:D}{a:BitVec 32}(hN:N<=200)(jn:WL o f q p L b k rows){Z:Rows->Prop}(hs:wO C2 o Z N (rows++[some ⟨S1,[Fs 2#8 N a d]⟩,some ⟨S7,[oo]⟩,some ⟨S7,[oo]⟩])){K:D->Rows->Prop}
  (hz:∀aa,Z aa->live aa (rows.length+1)=some ⟨S7,[oo]⟩/\live aa (rows.length+2)=some ⟨S7,[oo]⟩/\K oo aa):aB C 2 dG dF [.ptr mG o [0],Fs 2#8 N a d] rows K:=by
 refine ae rfl ?_
 unfold dF dG
 simp only[Fs]at*
 simp only[↓ag,ah,simprocAttr,simprocAttr,aK,H.t0,H.t1]
 refine Zm H.ti hN (ab jn _) (Z:=Z) (by simpa using hs) λaa hZ=>?_
 obtain⟨h1,h2,h3⟩:=hz _ hZ
 have e:(rows++[some (⟨S1,[.agg S1 [.raw (u8 2#8),.raw (it N),.raw (u32 a),d]]⟩:Row),some (⟨S7,[oo]⟩:Row)]).length=rows.length+2:=by simp
 rw[e]
 refine⟨h2,?_⟩
 rw[Kf h2]
 have h4:=Kf h1
 simp only[↓ag,ah,simprocAttr,simprocAttr,aK,h1,h4]
 exact h3
end kj
end Go.Am

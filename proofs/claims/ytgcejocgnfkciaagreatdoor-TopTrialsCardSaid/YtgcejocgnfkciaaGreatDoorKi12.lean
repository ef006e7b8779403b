import Derived.Test.YtgcejocgnfkciaaGreatDoorKi11
set_option linter.unusedSimpArgs false
set_option linter.unusedVariables false
set_option maxRecDepth 10000
set_option maxHeartbeats 4000000
namespace Go.Am
namespace iZ
open Go.Am.F
section
variable {C C1:aX} {L:Ly} {S:yT} {R:List (List (BitVec 8))} {l:M7} {b most:Nat} {Q:fE->Env->Rows->Prop}
theorem ID.ne{rows:Rows}{B:Bt}(h:ID rows L S b B R l):L.e∉[b,L.m]/\L.sl∉[b,L.m]/\L.e∉[b,L.s]/\L.sl∉[b,L.s]/\b≠L.m/\b≠L.s:=by
 obtain⟨h1,h2,h3⟩:=h
 obtain⟨k,n,he⟩:=h2.e
 obtain⟨pt,hs⟩:=h1.sp
 have hm:=h1.fl.dat
 have a1:=Ss h3 he (by intro h;cases h)
 have a2:=Ss h3 h2.s (by intro h;cases h)
 have a3:=gM he hm (by intro h;cases h)
 have a4:=gM h2.s hm (by intro h;cases h)
 have a5:=gM he hs (by intro h;cases h)
 have a6:=gM h2.s hs (by intro h;cases h)
 exact⟨by simp[a1,a3],by simp[a2,a4],by simp[a1,a5],by simp[a2,a6],gM h3 hm (by intro h;cases h),gM h3 hs (by intro h;cases h)⟩
theorem go_write(H:XA C C1)(hm:most<=100000)(n j z ro q:Nat)(s:JS)(hj:j<=1)(hz:z<=2048){rows:Rows}{env:Env}{i:Nat}{B:Bt}(hR:ID rows L S b B R l)(uS:B.ph=4)(j7:B.sl=j)(qW:B.mw.s=z)
  (ho:B.ops= .sl r9 ro [] 0 2 true)(hro:live rows ro=some ⟨r9,(jc (some (S.x,false)) s q).map JO.D⟩)(hq:live rows q=some ⟨L8,bs (dh (fF (some (S.x,false)) s))⟩)(hqm:q≠L.m)(hi:i+1<most)(hh:Ev L b most i env)
  (hn:∀env' aa d,Ev L b most (i+2) env'->Fr [b,L.m] rows aa->ID aa L {S with x:=uR S.x (jc (some (S.x,false)) s q)} b {B with ops:=d,FH:=(o5 (uR S.x (jc (some (S.x,false)) s q)) j:Int),at_:=0,ph:=5,left:=((z+63)/64:Nat)} R l->jO (aw C iC) Q n env' aa):jO (aw C iC) Q (n+2) env rows:=by
 obtain⟨C2,r2,HW⟩:=H.tk.w1
 obtain⟨ne1,ne2,-,-,nbm,-⟩:=hR.ne
 have hx:=hR.m.xl
 have hok:=Uo (K:=some (S.x,false)) (s:=s) (q:=q) (x:=S.x) (by omega)
 generalize hK:(some (S.x,false):FV)=K at*
 have h0:=hok 0 _ rfl
 have h1:=hok 1 _ rfl
 rw[<-hK]at hok
 have hb32:(dh (fF K s)).length=32:=fB _
 have qb:q≠b:=Ss hR.b hq (by intro h;cases h)
 have rb:ro≠b:=Ss hR.b hro (by intro h;cases h)
 have rm:ro≠L.m:=gM hro hR.m.fl.dat (by intro h;cases h)
 have dX:uR S.x (jc K s q)=lX (lX S.x (fa K) [] dH) (fa K) (dh (fF K s)) dH:=rfl
 rw[dX]at hn
 have t1:Tk C1 L b rows (λaa=>Fr [b,L.m] rows aa/\∃pA,ID aa L {S with x:=lX S.x (fa K) [] dH} b {B with ops:= .sl r9 ro [] 1 1 pA} R l):=by
  refine tick4 H.tk hR.b uS r2 λK' I2=>?_
  refine E0 C2 HW (o:=⟨1#8,fa K,.raw (.slice none 0 0),[]⟩) j z hj hz hR.m hR.b j7 qW ho hro (.inl ⟨rfl,rfl,rfl⟩) .er (by have:=h0.2.1;rw[hx]at this;exact this) h0.2.2 (λ_ aa pA hF hM hB=>I2 _ _ ⟨_,rfl,hF,pA,hM,hR.e.fr hF ne1 ne2,hB⟩) λh=>by cases h
 refine lK (n:=n+1) H hh (by omega) hm hR.b (by rw[uS];decide) t1 λenv1 qP FB Tj=>?_
 obtain⟨AK,pA,Ph⟩:=Tj
 have Va:=AK _ _ hq (by simp[qb,hqm])
 have hro1:=AK _ _ hro (by simp[rb,rm])
 have qV:(lX S.x (fa K) [] dH).length=S.x.length:=ng _ _ _ _
 have hO:FF qP L.m 2#8 (.sl L8 q [] 0 32 false) (dh (fF K s)):=by
  have:=FF.wr (rows:=qP) (m:=L.m) q (dh (fF K s)) false Va (by omega) (by omega) hqm
  rw[hb32]at this
  exact this
 have t2:Tk C1 L b qP (λaa=>Fr [b,L.m] qP aa/\∃d,ID aa L {S with x:=lX (lX S.x (fa K) [] dH) (fa K) (dh (fF K s)) dH} b {B with ops:=d,FH:=(o5 (lX (lX S.x (fa K) [] dH) (fa K) (dh (fF K s)) dH) j:Int),at_:=0,ph:=5,left:=((z+63)/64:Nat)} R l):=by
  refine tick4 H.tk Ph.b uS r2 λK' I2=>?_
  refine E0 C2 HW (o:=⟨2#8,fa K,.sl L8 q [] 0 32 false,dh (fF K s)⟩) j z hj hz Ph.m Ph.b j7 qW rfl hro1 (.inr ⟨rfl,rfl,rfl⟩) hO (by have:=h1.2.1;rw[hx]at this;exact this) h1.2.2 (λh=>by cases h) λ_ aa d hF hM hB=>I2 _ _ ⟨_,rfl,hF,d,hM,Ph.e.fr hF ne1 ne2,hB⟩
 exact lK H FB (by omega) hm Ph.b (by rw[show({B with ops:= .sl r9 ro [] 1 1 pA}:Bt).ph=B.ph from rfl,uS];decide) t2 λmL mN Wi ⟨yu,d,Vl⟩=>hn mL mN d Wi (AK.trans yu) Vl
theorem go_copy(H:XA C C1)(hm:most<=100000)(n z p:Nat)(hz:z<=2048)(hp:p+z<=10240)(hst:S.st=0):∀(m i0:Nat),i0+m+1=(z+63)/64->∀(rows:Rows) (env:Env) (i:Nat) (B:Bt),ID rows L {S with gT:=if i0=0 then S.gT else xL S.gT S.x p (64*i0)} b B R l->B.ph=5->B.FH=(p:Int)->B.mw.s=z->B.at_=((64*i0:Nat):Int)->B.left=((m+1:Nat):Int)->i+m<most->Ev L b most i env->
  (∀env' aa,Ev L b most (i+m+1) env'->Fr [b,L.s] rows aa->ID aa L {S with gT:=xL S.gT S.x p z} b {B with at_:=(z:Int),left:=1,ph:=6} R l->jO (aw C iC) Q n env' aa)->jO (aw C iC) Q (n+m+1) env rows:=by
 obtain⟨C2,r2,HC⟩:=H.tk.c1
 have step:∀(m i0:Nat) (rows:Rows) (B:Bt),64*i0<z->m<=100->ID rows L {S with gT:=if i0=0 then S.gT else xL S.gT S.x p (64*i0)} b B R l->B.ph=5->B.FH=(p:Int)->B.mw.s=z->B.at_=((64*i0:Nat):Int)->B.left=((m+1:Nat):Int)->
   Tk C1 L b rows (λaa=>Fr [b,L.s] rows aa/\ID aa L {S with gT:=xL S.gT S.x p (64*i0+min 64 (z-64*i0))} b {B with at_:=((64*i0+min 64 (z-64*i0):Nat):Int),left:=if m=0 then 1 else(m:Int),ph:=if m=0 then 6 else B.ph} R l):=by
  intro m i0 rows B hi hm100 hR uS Jv qW IX hl
  obtain⟨-,-,ne3,ne4,-,-⟩:=hR.ne
  refine tick5 H.tk hR.b uS r2 λK' I2=>?_
  refine So C2 HC (S:={S with gT:=if i0=0 then S.gT else xL S.gT S.x p (64*i0)}) z p i0 m hz hp hi hst hR.m hR.b Jv qW IX hl hm100 λaa hF hM hB=>I2 _ _ ⟨_,rfl,hF,?_,hR.e.fr hF ne3 ne4,hB⟩
  have hx:=hR.m.xl
  have e:a7 (if i0=0 then Ju (if i0=0 then S.gT else xL S.gT S.x p (64*i0))else(if i0=0 then S.gT else xL S.gT S.x p (64*i0))) (64*i0) (sub S.x (p+64*i0) (min 64 (z-64*i0)))=xL S.gT S.x p (64*i0+min 64 (z-64*i0)):=by
   rw[<-WO S.gT S.x p (64*i0) (min 64 (z-64*i0)) (by have:S.x.length=10240:=hx;omega)]
   by_cases c:i0=0
   ·subst c
    rw[aaM rfl,aaM rfl,ramC_0]
   ·rw[aaE c,aaE c]
  rw[<-e]
  exact hM
 intro m
 induction m with
 |zero=>
  intro i0 hi0 rows env i B hR uS Jv qW IX hl hi hh hn
  refine lK H hh (by omega) hm hR.b (by rw[uS];decide) (step 0 i0 rows B (by omega) (by omega) hR uS Jv qW IX hl) λenv' aa WT ⟨Xy,K2⟩=>?_
  rw[aaM rfl,aaM rfl,show 64*i0+min 64 (z-64*i0)=z by omega]at K2
  exact hn env' aa WT Xy K2
 |succ m ih=>
  intro i0 hi0 rows env i B hR uS Jv qW IX hl hi hh hn
  refine lK H hh (by omega) hm hR.b (by rw[uS];decide) (step (m+1) i0 rows B (by omega) (by omega) hR uS Jv qW IX hl) λenv' aa WT ⟨Xy,K2⟩=>?_
  rw[aaE (by omega),aaE (by omega),show 64*i0+min 64 (z-64*i0)=64*(i0+1) by omega]at K2
  refine ih (i0+1) (by omega) aa env' (i+1) {B with at_:=((64*(i0+1):Nat):Int),left:=((m+1:Nat):Int)} (by rw[aaE (by omega)];exact K2) uS Jv qW rfl rfl (by omega) WT λmL mN Wi yu hR2=>?_
  exact hn mL mN (by rw[show i+(m+1)+1=i+1+m+1 by omega];exact Wi) (Xy.trans yu) hR2
theorem go_check(H:XA C C1)(hm:most<=100000)(n z:Nat)(hz:z<=2048){rows:Rows}{env:Env}{i:Nat}{B:Bt}(hR:ID rows L S b B R l)(uS:B.ph=6)(hl:B.left=1)(qW:B.mw.s=z)(AI:B.mw.dg.length=32)(hsum:eu (S.gT.take z)=B.mw.dg)(hi:i<most)(hh:Ev L b most i env)
  (hn:∀env' aa,Ev L b most (i+1) env'->Fr [b] rows aa->ID aa L S b {B with left:=1,ph:=7} R l->jO (aw C iC) Q n env' aa):jO (aw C iC) Q (n+1) env rows:=by
 obtain⟨C2,r2,HC⟩:=H.tk.k1
 have hF:Fr [b] rows (rows.set b (some ⟨lc,[lz {B with left:=0}]⟩)):=(Fr.refl _ _).set (by simp) _
 have px:cC (rows.set b (some ⟨lc,[lz {B with left:=0}]⟩)) b {B with left:=0}:=aE hR.b
 have Ph:=hR.fr hF px
 have t:Tk C1 L b rows (λaa=>Fr [b] rows aa/\ID aa L S b {B with left:=1,ph:=7} R l):=by
  refine tick6 H.tk hR.b uS hl r2 λK' I2=>?_
  exact Pj C2 HC z hz Ph.m px qW AI (λh=>absurd hsum h) λ_ aa Xy hB=>I2 _ _ ⟨_,rfl,hF.trans Xy,Ph.fr Xy hB⟩
 exact lK H hh hi hm hR.b (by rw[uS];decide) t λenv' aa WT hz=>hn env' aa WT hz.1 hz.2
theorem go_lock(H:XA C C1)(hm:most<=100000)(n:Nat){rows:Rows}{env:Env}{i:Nat}{B:Bt}(hR:ID rows L S b B R l)(Er:(l.getD 0 (0,[])).1=0)(wG:(l.getD 1 (0,[])).1=0)(uS:B.ph=7)(hl:B.left=1)(hr:cL B.mw=true)(AI:B.mw.dg.length=32)(hi:i<most)(hh:Ev L b most i env)
  (hn:∀env' aa c',Ev L b most (i+1) env'->c'.w=S.c.w->Fr (L.all b) rows aa->gC aa L {S with st:=1,c:=c'}->cC aa b {B with left:=0,ph:=8}->jO (aw C iC) Q n env' aa):jO (aw C iC) Q (n+1) env rows:=by
 obtain⟨C2,r2,HC⟩:=H.tk.o1
 have hF:Fr [b] rows (rows.set b (some ⟨lc,[lz {B with left:=0}]⟩)):=(Fr.refl _ _).set (by simp) _
 have px:cC (rows.set b (some ⟨lc,[lz {B with left:=0}]⟩)) b {B with left:=0}:=aE hR.b
 have Ph:=hR.fr hF px
 have t:Tk C1 L b rows (λaa=>∃c':kY,c'.w=S.c.w/\Fr (L.all b) rows aa/\gC aa L {S with st:=1,c:=c'}/\cC aa b {B with left:=0,ph:=8}):=by
  refine tick7 H.tk hR.b uS hl r2 λK' I2=>?_
  exact Sr C2 HC Ph.m px Ph.e Er wG hr AI λaa c' hw Xy hM hB=>I2 _ _ ⟨rfl,c',hw,(hF.mono λx hx=>by simp only[abd]at hx;subst hx;exact adE ..).trans Xy,hM,hB⟩
 exact lK H hh hi hm hR.b (by rw[uS];decide) t λenv' aa WT ⟨c',h1,h2,h3,h4⟩=>hn env' aa c' WT h1 h2 h3 h4
end
end iZ
end Go.Am
namespace Go.Am
attribute [local congr] cN bP cO bQ bT ca bC bU bV cb bk cd bW cM
namespace iZ
open Go.Am.F
theorem sub_eq{x y:List (BitVec 8)}{a n:Nat}(hl:x.length=y.length)(h:∀t,a<=t->t<a+n->x.getD t 0#8=y.getD t 0#8):sub x a n=sub y a n:=by
 apply ack
 intro i
 simp only[sub,abA,abh]
 by_cases c:i<n
 ·rw[aaM c,aaM c]
  have:=h (a+i) (by omega) (by omega)
  by_cases c2:a+i<x.length
  ·simp only[aaD,aaw c2,aaw (hl▸c2:a+i<y.length),adj]at this⊢
   rw[this]
  ·rw[abk (by omega),abk (by omega)]
 ·rw[aaE c,aaE c]
theorem sub_sub{x:List (BitVec 8)}{a n b m:Nat}(h:b+m<=n):sub (sub x a n) b m=sub x (a+b) m:=by
 apply ack
 intro i
 simp only[sub,abA,abh]
 by_cases c:i<m
 ·rw[aaM c,aaM c,aaM (by omega),show a+(b+i)=a+b+i by omega]
 ·rw[aaE c,aaE c]
theorem IE{x bi:List (BitVec 8)}{least:Int}{j:Nat}(hx:x.length=10240)(hj:j<=1)(h:dG x bi least j=0):
  ∃z:Nat,(iI x j).1.s=z/\4<=z/\z<=2048/\cL (iI x j).1=true/\(iI x j).1.dg.length=32/\o5 x j+z<=4096*j+4096/\eu (sub x (o5 x j) z)=(iI x j).1.dg/\least<=(iI x j).1.v/\(iI x j).2.2.1=sub x (o5 x j) z/\vX bi ((sub x (4096*j) 4096).take 48) (iI x j).2.1=0/\(iI x j).2.2.2=0:=by
 unfold dG FE at h
 unfold iI o5
 have hl:(sub x (4096*j) 4096).length=4096:=jj (by omega)
 have Np:=λn m (h:n+m<=4096)=>(sub_sub (x:=x) (a:=4096*j) (n:=4096) (b:=n) (m:=m) h)
 generalize sub x (4096*j) 4096=q at*
 have AI:=Uh q
 by_cases c1:(cV q).2.2.2=0
 ·rw [aaE (by simp [c1])] at h
  by_cases c2:vX bi (q.take 48) (cV q).2.1=0
  ·rw [aaE (by simp [c2])] at h
   by_cases c3:(cV q).1.v<least
   ·rw[aaM c3]at h;exact absurd h (by decide)
   ·rw[aaE c3]at h
    by_cases c4:eu (cV q).2.2.1=(cV q).1.dg
    ·obtain⟨hr,s,hs,h4,h5,hp,hn⟩:=DY c1
     have e:sub q (50+fD q) s=sub x (4096*j+50+fD q) s:=by
      rw[acN];exact Np _ s (by omega)
     exact⟨s,hs,h4,h5,hr,AI,by omega,by rw[<-e,<-hp];exact c4,by omega,by rw[<-e];exact hp,c2,c1⟩
    ·rw[aaM c4]at h;exact absurd h (by decide)
  ·rw[aaM c2]at h;exact absurd h c2
 ·rw[aaM c1]at h;exact absurd h c1
def lA(S:yT):Cho:=ny (dF S.c) (cA (some (S.x,false))).1 (dG S.x (gR S.c) (gy S.c) 0) (dG S.x (gR S.c) (gy S.c) 1)
def XB(S:yT):Bool:=(lA S).c&&mu (some (S.x,false)) (lA S).s
def FI(S:yT):List (BitVec 8):=bif XB S then uR S.x (jc (some (S.x,false)) (lA S).s 0)else S.x
theorem MJ(S:yT):(FI S).length=S.x.length:=by
 unfold FI
 cases XB S
 ·rfl
 ·exact ku _ _
theorem UC(S:yT)(hx:S.x.length=10240)(a n:Nat)(h:a+n<=8192):sub (FI S) a n=sub S.x a n:=by
 refine sub_eq (MJ S) λt h1 h2=>?_
 unfold FI
 cases XB S
 ·rfl
 ·exact Ck (by omega) t (.inl (by rcases xJ (some (S.x,false))with e|e<;>rw[e]<;>omega))
theorem MK(S:yT)(hx:S.x.length=10240){j:Nat}(hj:j<=1):o5 (FI S) j=o5 S.x j:=by
 unfold o5
 rw[UC S hx _ _ (by omega)]
theorem selBad{l:Int}(h:¬(1<=l/\l<=3))(s:JS)(e0 e1:Int):(ny l s e0 e1).i=-1/\(ny l s e0 e1).e=(ny l cS 0 0).e:=by
 unfold ny
 by_cases h1:l=4
 ·rw[aaM h1,aaM h1];exact⟨rfl,rfl⟩
 ·rw[aaE h1,aaE h1,aaM (by omega),aaM (by omega)];exact⟨rfl,rfl⟩
theorem WV{gT x:List (BitVec 8)}{p z:Nat}(hp:p+z<=x.length):(xL gT x p z).take z=sub x p z:=by
 have hl:(sub x p z).length=z:=jj hp
 unfold xL a7
 rw[acq,abr]
 exact acV hl
theorem Pk(c:kY)(h:c.ws.length=64):(gR c).length=56:=by rw[gR,oH,aaF,aaB,aaC,h];rfl
def Su:Bt:=⟨0,-1,fu,false,0,1,0,0,.raw (.slice none 0 0),yS 0 fu (.raw (.slice none 0 0)),yS 0 fu (.raw (.slice none 0 0)),.raw (.slice none 0 0),0,0⟩
theorem all_s(L:Ly)(b:Nat):∀x∈[b,L.s],x∈L.all b:=by simp[Ly.all]
theorem all_m(L:Ly)(b:Nat):∀x∈[b,L.m],x∈L.all b:=by simp[Ly.all]
theorem all_b(L:Ly)(b:Nat):∀x∈[b],x∈L.all b:=by simp[Ly.all]
section
variable {C C1:aX} {L:Ly} {S:yT} {R:List (List (BitVec 8))} {l:M7} {b most:Nat}
theorem UD{Q:fE->Env->Rows->Prop}(H:XA C C1)(hm:most<=100000){z p F i:Nat}{rows:Rows}{env:Env}{B:Bt}(hF:40<=F)(hz4:4<=z)(hz:z<=2048)(hp:p+z<=10240)(hst:S.st=0)(hR:ID rows L S b B R l)(Er:(l.getD 0 (0,[])).1=0)(wG:(l.getD 1 (0,[])).1=0)
  (uS:B.ph=5)(Jv:B.FH=(p:Int))(qW:B.mw.s=z)(IX:B.at_=0)(hlf:B.left=((z+63)/64:Nat))(AI:B.mw.dg.length=32)(hr:cL B.mw=true)(hsum:eu (sub S.x p z)=B.mw.dg)(hi:i+(z+63)/64+2<=most)(hh:Ev L b most i env)
  (hq:∀env' aa c' B',Ev L b most (i+(z+63)/64+2) env'->c'.w=S.c.w->Fr (L.all b) rows aa->gC aa L {S with st:=1,gT:=xL S.gT S.x p z,c:=c'}->cC aa b B'->B'.ph=8->B'.sl=B.sl->B'.mw=B.mw->Q (.exit 0) env' aa):jO (aw C iC) Q F env rows:=by
 obtain⟨m,rA⟩:∃m,(z+63)/64=m+1:=⟨(z+63)/64-1,by omega⟩
 obtain⟨f,rfl⟩:∃f,F=(f+1+1+1)+m+1:=⟨F-(m+4),by omega⟩
 have hx:=hR.m.xl
 refine go_copy (S:=S) H hm (f+1+1+1) z p hz hp hst m 0 (by omega) rows env i B (by rw[aaM rfl];exact hR) uS Jv qW IX (by rw[hlf,rA]) (by omega) hh λenv1 qP FB AK Ph=>?_
 refine go_check H hm (f+1+1) z hz Ph rfl rfl qW AI (by rw[WV (by omega)];exact hsum) (by omega) FB λmL mN Wi yu hR2=>?_
 refine go_lock H hm (f+1) hR2 Er wG rfl rfl hr AI (by omega) Wi λYz l9 c' hh3 hw MI hM hB=>?_
 refine IC hh3 hB (show¬((8:Int)<8) by decide) λenv4 hh4=>?_
 refine hq env4 l9 c' _ ?_ hw (((AK.mono (all_s L b)).trans (yu.mono (all_b L b))).trans MI) hM hB rfl rfl rfl
 rw[rA]
 exact hh4
theorem Pm(H:XA C C1)(KZ:73<=most)(hm:most<=100000){rows:Rows}(hR:ID rows L S b Su R l)(hst:S.st=0)(Er:(l.getD 0 (0,[])).1=0)(wG:(l.getD 1 (0,[])).1=0){K:D->Rows->Prop}
  (h9:(lA S).i=-1->∀aa (n:Nat) B',n<=36->Fr [b] rows aa->cC aa b B'->B'.ph=9->B'.e=(lA S).e->gC aa L S->K (.raw (it (n:Int))) aa)
  (h8:∀(j z:Nat),j<=1->(lA S).i=j->dG S.x (gR S.c) (gy S.c) j=0->(iI S.x j).1.s=z->∀aa c' B',c'.w=S.c.w->Fr (L.all b) rows aa->gC aa L {st:=1,gT:=xL S.gT (FI S) (o5 S.x j) z,x:=FI S,c:=c'}->cC aa b B'->B'.ph=8->B'.sl=j->B'.mw=(iI S.x j).1->
   K (.raw (it ((38+(z+63)/64+(bif XB S then 2 else 0):Nat):Int))) aa):
  aG C 3 gf bX [.ptr lc b [0],.ptr jN L.M [0],.raw (it (most:Int))] rows K:=by
 refine ae rfl ?_
 rw[WU]
 simp only[bX,pG,j6,gf,↓ag,ah,simprocAttr]
 have hQ:∀(env:Env) (aa:Rows) (i:Nat),Ev L b most i env->K (.raw (it (i:Int))) aa->Qu 0 (YG C (.seq (.region false [⟨some 31,.mv (.tmp 7),none⟩,⟨some 6,.mv (.tmp 31),none⟩]) .ret) (I9 [.tmp 6] K)) (.exit 0) env aa:=by
  intro env aa i hh hk
  simp only[Ev,has]at hh
  simp only[↓ag,ah,simprocAttr,hh]
  exact hk
 have Ei:Ev L b most 0 [(7,.raw (it 0)),(6,.raw (it 0)),(0,.ptr lc b [0]),(1,.ptr jN L.M [0]),(2,.raw (it (most:Int)))]:=by simp only[Ev,has,↓ag,ah,simprocAttr]
 generalize Qu 0 _=Q at*
 refine gL 100 ?_
 have hx:=hR.m.xl
 have M0:=Pk S.c hR.m.ch.len
 obtain⟨Cs,rs,HS⟩:=H.tk.s1
 have hF0:Fr [b] rows (rows.set b (some ⟨lc,[lz {Su with left:=0}]⟩)):=(Fr.refl _ _).set (by simp) _
 have px:cC (rows.set b (some ⟨lc,[lz {Su with left:=0}]⟩)) b {Su with left:=0}:=aE hR.b
 have Ph:=hR.fr hF0 px
 have t0:Tk C1 L b rows (λaa=>((1<=dF S.c/\dF S.c<=3)->Fr [b] rows aa/\∃p,live aa p=some ⟨L8,bs (gR S.c)⟩/\cC aa b {Su with ph:=1,left:=17,jk:=dF S.c,least:=gy S.c,bi:= .sl L8 p [] 0 56 false})/\
   (¬(1<=dF S.c/\dF S.c<=3)->Fr [b] rows aa/\∃d,cC aa b {Su with ph:=9,left:=0,e:=(ny (dF S.c) cS 0 0).e,jk:=dF S.c,least:=gy S.c,bi:=d})):=by
  refine tick0 H.tk hR.b rfl rfl rs λK' I2=>?_
  exact WK Cs HS Ph.m px (λc aa p hF hp hl hB=>I2 _ _ ⟨_,rfl,λ_=>⟨hF0.trans hF,p,hl,hB⟩,λh=>absurd c h⟩) (λc aa d hF hB=>I2 _ _ ⟨_,rfl,λh=>absurd h c,λ_=>⟨hF0.trans hF,d,hB⟩⟩)
 refine lK (n:=99) H Ei (by omega) hm hR.b (show(0:Int)<8 by decide) t0 λenv1 qP FB Tj=>?_
 by_cases c:1<=dF S.c/\dF S.c<=3
 ·obtain⟨AK,p,hlp,hB1⟩:=Tj.1 c
  have hR2:=hR.fr AK hB1
  have hP1:KP qP {Su with ph:=1,left:=17,jk:=dF S.c,least:=gy S.c,bi:= .sl L8 p [] 0 56 false} (gR S.c):=⟨p,by rw[M0],hlp⟩
  refine UB (bi:=gR S.c) H hm (by omega) 0 (by omega) 82 16 (by omega) qP env1 1 _ hR2 hP1 rfl rfl (by omega) FB λmL mN q2 Wi yu hB2=>?_
  have hR3:=hR2.fr yu hB2
  have hP2:=hP1.fr (B':={({Su with ph:=1,left:=17,jk:=dF S.c,least:=gy S.c,bi:= .sl L8 p [] 0 56 false}:Bt).Iv 0 (Xz S.x (gR S.c) (gy S.c) 0 q2)with ph:=((0:Nat):Int)+2,left:=if 0=0 then 17 else 1}) hB1 yu rfl
  refine UB (bi:=gR S.c) H hm (by omega) 1 (by omega) 65 16 (by omega) mN mL 18 _ hR3 hP2 rfl rfl (by omega) Wi λYz l9 q3 hh3 MI hB3=>?_
  have hR4:=hR3.fr MI hB3
  have JX:Fr [b] rows l9:=(AK.trans yu).trans MI
  obtain⟨B3,hB,p1,p2,p3,p4,p5,p6⟩:∃B3:Bt,cC l9 b B3/\B3.ph=3/\B3.left=1/\B3.v0=Xz S.x (gR S.c) (gy S.c) 0 q2/\B3.v1=Xz S.x (gR S.c) (gy S.c) 1 q3/\B3.ops= .raw (.slice none 0 0)/\B3.jk=dF S.c:=⟨_,hB3,rfl,rfl,rfl,rfl,rfl,rfl⟩
  replace hR4:ID l9 L S b B3 R l:=⟨hR4.m,hR4.e,hB⟩
  clear hB3 hR3 hP2 hR2 hP1 Tj t0 hB2 hB1
  obtain⟨Ch,rh,HCh⟩:=H.tk.h1
  have hF4:Fr [b] l9 (l9.set b (some ⟨lc,[lz {B3 with left:=0}]⟩)):=(Fr.refl _ _).set (by simp) _
  have hb4:cC (l9.set b (some ⟨lc,[lz {B3 with left:=0}]⟩)) b {B3 with left:=0}:=aE hB
  have hR5:=hR4.fr hF4 hb4
  have U2:∀j,dG S.x (gR S.c) (gy S.c) j=0->Ux S.x (gR S.c) (gy S.c) j=(iI S.x j).1:=λj h=>aaM h
  have hzz:∀j,j<=1->dG S.x (gR S.c) (gy S.c) j=0->∃z:Nat,(Ux S.x (gR S.c) (gy S.c) j).s=z/\z<=2048:=λj hj h=>by
   obtain⟨z,Tj,-,Vl,-⟩:=IE hx hj h
   exact⟨z,by rw[U2 j h];exact Tj,Vl⟩
  have t3:Tk C1 L b l9 (λaa=>((lA S).i=-1/\Fr [b] l9 aa/\∃B',cC aa b B'/\B'.ph=9/\B'.e=(lA S).e)\/
    (∃j z:Nat,j<=1/\(lA S).i=j/\dG S.x (gR S.c) (gy S.c) j=0/\(iI S.x j).1.s=z/\XB S=false/\Fr [b] l9 aa/\∃B',cC aa b B'/\B'.ph=5/\B'.sl=j/\B'.mw=(iI S.x j).1/\B'.FH=(o5 S.x j:Int)/\B'.at_=0/\B'.left=((z+63)/64:Nat))\/
    (∃j ro q:Nat,j<=1/\(lA S).i=j/\dG S.x (gR S.c) (gy S.c) j=0/\XB S=true/\Fr [b] l9 aa/\l9.length<=q/\live aa ro=some ⟨r9,(jc (some (S.x,false)) (lA S).s q).map JO.D⟩/\live aa q=some ⟨L8,bs (dh (fF (some (S.x,false)) (lA S).s))⟩/\
     ∃B',cC aa b B'/\B'.ph=4/\B'.sl=j/\B'.mw=(iI S.x j).1/\B'.ops= .sl r9 ro [] 0 2 true)):=by
   refine tick3 H.tk hB p1 p2 rh λK' I2=>?_
   refine Sn Ch HCh (c:=lA S) hR5.m hb4 p3 p4 p5 ⟨hzz 0 (by omega),hzz 1 (by omega)⟩ (by rw[show({B3 with left:=0}:Bt).jk=dF S.c from p6];rfl) ?_ ?_ ?_
   ·intro hi aa hF XC
    exact I2 _ _ ⟨_,rfl,.inl ⟨hi,hF4.trans hF,_,XC,rfl,rfl⟩⟩
   ·intro j z m o hj hi he hmj qW EX aa hF XC
    have he':dG S.x (gR S.c) (gy S.c) j=0:=by rcases(by omega:j=0\/j=1)with rfl|rfl<;>exact he
    have hm':m=(iI S.x j).1:=by rw[<-U2 j he',hmj];rcases(by omega:j=0\/j=1)with rfl|rfl<;>rfl
    exact I2 _ _ ⟨_,rfl,.inr (.inl ⟨j,z,hj,hi,he',by rw[<-hm'];exact qW,EX,hF4.trans hF,_,XC,rfl,rfl,hm',rfl,rfl,rfl⟩)⟩
   ·intro j m ro q hj hi he hmj EX aa hF hro hq h1 h2 XC
    have he':dG S.x (gR S.c) (gy S.c) j=0:=by rcases(by omega:j=0\/j=1)with rfl|rfl<;>exact he
    have hm':m=(iI S.x j).1:=by rw[<-U2 j he',hmj];rcases(by omega:j=0\/j=1)with rfl|rfl<;>rfl
    exact I2 _ _ ⟨_,rfl,.inr (.inr ⟨j,ro,q,hj,hi,he',EX,hF4.trans hF,by rw[abb]at hq;exact hq,h1,h2,_,XC,rfl,rfl,hm',rfl⟩)⟩
  refine lK (n:=64) H hh3 (by omega) hm hB (by rw[p1];decide) t3 λenv4 rows4 hh4 hz4=>?_
  rcases hz4 with⟨hi,hF,B',XC,e1,e2⟩|⟨j,z,hj,hi,he,qW,EX,hF,B',XC,e1,e2,e3,e4,e5,e6⟩|⟨j,ro,q,hj,hi,he,EX,hF,hql,hro,hq,B',XC,e1,e2,e3,e4⟩
  ·refine IC (n:=63) hh4 XC (by rw[e1];decide) λenv5 hh5=>hQ _ _ _ hh5 ?_
   exact h9 hi rows4 _ _ (by omega) (JX.trans hF) XC e1 e2 (hR.m.fr hR.b (JX.trans hF))
  ·have hR6:=hR4.fr hF XC
   obtain⟨z',k1,k2,k3,k4,k5,k6,k7,-⟩:=IE hx hj he
   have hzz':z'=z:=by rw[k1]at qW;omega
   subst hzz'
   have my:FI S=S.x:=by unfold FI;rw[EX];rfl
   refine UD (F:=64) H hm (by decide) k2 k3 (by omega) hst hR6 Er wG e1 e4 (by rw[e3];exact k1) e5 e6 (by rw[e3];exact k5) (by rw[e3];exact k4) (by rw[e3];exact k7) (by omega) hh4 λenv5 rows5 c' B5 hh5 hw hF5 hM hB5 f1 f2 f3=>hQ _ _ _ hh5 ?_
   have:=h8 j z' hj hi he k1 rows5 c' B5 hw (((JX.trans hF).mono (all_b L b)).trans hF5) (by rw[my];exact hM) hB5 f1 (f2.trans e2) (f3.trans e3)
   rw[EX]at this
   rw[show 18+16+1+1+(z'+63)/64+2=38+(z'+63)/64+0 by omega]
   exact this
  ·have hR6:=hR4.fr hF XC
   obtain⟨z,k1,k2,k3,k4,k5,k6,k7,-⟩:=IE hx hj he
   have my:FI S=uR S.x (jc (some (S.x,false)) (lA S).s q):=by unfold FI;rw[EX];rfl
   have hlen3:=hR4.m.fl.lt
   refine go_write H hm 62 j z ro q (lA S).s hj k3 hR6 e1 e2 (by rw[e3];exact k1) e4 hro hq (by omega) (by omega) hh4 λenv5 rows5 d hh5 hF5 hR7=>?_
   rw[<-my]at hR7
   have zY:(FI S).length=10240:=by rw[MJ];exact hx
   refine UD (F:=62) (S:={S with x:=FI S}) (p:=o5 (FI S) j) H hm (by decide) k2 k3 (by rw[MK S hx hj];omega) hst hR7 Er wG rfl rfl (by rw[show({B' with ops:=d,FH:=(o5 (FI S) j:Int),at_:=0,ph:=5,left:=((z+63)/64:Nat)}:Bt).mw=B'.mw from rfl,e3];exact k1) rfl rfl (by rw[show({B' with ops:=d,FH:=(o5 (FI S) j:Int),at_:=0,ph:=5,left:=((z+63)/64:Nat)}:Bt).mw=B'.mw from rfl,e3];exact k5) (by rw[show({B' with ops:=d,FH:=(o5 (FI S) j:Int),at_:=0,ph:=5,left:=((z+63)/64:Nat)}:Bt).mw=B'.mw from rfl,e3];exact k4) ?_ (by omega) hh5 λenv6 rows6 c' B6 WS hw hF6 hM hB6 f1 f2 f3=>hQ _ _ _ WS ?_
   ·rw[show({B' with ops:=d,FH:=(o5 (FI S) j:Int),at_:=0,ph:=5,left:=((z+63)/64:Nat)}:Bt).mw=B'.mw from rfl,e3,MK S hx hj,<-k7]
    exact abt eu (UC S hx _ _ (by omega))
   ·have:=h8 j z hj hi he k1 rows6 c' B6 hw ((((JX.trans hF).mono (all_b L b)).trans (hF5.mono (all_m L b))).trans hF6) (by rw[MK S hx hj]at hM;exact hM) hB6 f1 (f2.trans e2) (f3.trans e3)
    rw[EX]at this
    rw[show 18+16+1+1+2+(z+63)/64+2=38+(z+63)/64+2 by omega]
    exact this
 ·obtain⟨AK,d,hB1⟩:=Tj.2 c
  have hbad:=selBad (l:=dF S.c) (by omega) (cA (some (S.x,false))).1 (dG S.x (gR S.c) (gy S.c) 0) (dG S.x (gR S.c) (gy S.c) 1)
  refine IC (n:=98) FB hB1 (show¬((9:Int)<8) by decide) λmL Wi=>hQ _ _ _ Wi ?_
  exact h9 hbad.1 qP 1 _ (by omega) AK hB1 rfl hbad.2.symm (hR.m.fr hR.b AK)
end
structure LmC (C:aX):Prop where
 hei:C.fn 36=some yj
 par:C.fn 37=some ko
 lvs:C.fn 38=some rX
 sit:C.fn 40=some Ib
 bi:C.fn 39=some B0
 lea:C.fn 41=some Kz
 nod:C.fn 42=some KA
def tU(t o:BitVec 32)(id aI:List (BitVec 8))(N:List (List (BitVec 8))):Sg:=⟨t,o,id,aI,N,0#32,[],[],[]⟩
def hH(t:BitVec 32):Nat:=2^hT t.toNat
theorem ML{rows:Rows}{L:v9}{s:Sg}(h:nO rows L s)(h1:s.id.length=16)(h2:s.aI.length=32)(h3:∀x∈s.ns,x.length=32)(h4:4<=s.ns.length)(h5:s.ns.length<=2048)(h6:s.ns.length %2=0):mA (s.v L)=true:=
 fp.2 ⟨h1,h2,h3,h4,h5,h6,Sg.Ie h⟩
theorem dz{rows:Rows}{a b:Nat}{s s':Sh}{l l':List D}(h:live rows a=some ⟨s,l⟩)(h':live rows b=some ⟨s',l'⟩)(hs:s≠s'):a≠b:=by
 rintro rfl
 rw[h]at h'
 injection h' with h'
 injection h' with h' _
 exact hs h'
theorem nO.setNs{rows:Rows}{L:v9}{s:Sg}(h:nO rows L s){N:List (List (BitVec 8))}(hN:N.length=s.ns.length):nO (rows.set L.nr (some ⟨.ar 32 L8,N.map aU⟩)) L {s with ns:=N}:=by
 have n1:=dz h.n h.a (by decide)
 have n2:=dz h.n h.m (by decide)
 have n3:=dz h.n h.t (by decide)
 refine⟨?_,aE h.n,?_,?_,?_⟩
 ·rw[aC n1,h.a];simp only[DU,hN]
 ·rw[aC n2];exact h.m
 ·rw[aC n3];exact h.t
 ·rcases h.l with e|⟨r,ex,e,hl⟩
  ·exact .inl e
  ·have n4:=dz h.n hl (by decide)
   exact .inr ⟨r,ex,e,by rw[aC n4];exact hl⟩
theorem Pn(C:aX)(h:LmC C){rows:Rows}{t o:BitVec 32}{id aI:List (BitVec 8)}(ht:I1 t.toNat=true)(ht2:hT t.toNat<=10)(ho:tM o.toNat=true)(iD:id.length=16)(sJ:aI.length=32){K:D->Rows->Prop}
  (hk:∀aa L,nO aa L (tU t o id aI (lu o id aI (hH t)))->bO rows aa->rows.length<=L.r->rows.length<=L.nr->rows.length<=L.ms->rows.length<=L.mt->L.dl= .raw (.slice none 0 0)->K (.cB [.ptr fC L.r [0],.raw (it 0)]) aa):
  aG C 4 td tc [.raw (u32 t),.raw (u32 o),.agg (.ar 16 L8) (bs id),.agg (.ar 32 L8) (bs aI)] rows K:=by
 refine ae rfl ?_
 unfold tc td
 have hz:D.agg qI [.raw (it 0),.raw (it 0),.raw (it 0)]=jx ⟨0,0,0⟩:=rfl
 have h1:=FZ ht
 have b0:∀n:Nat,((0:Int)<=(n:Int))=True:=λn=>aaz (by omega)
 have c1:((10:Int)<((hT t.toNat:Nat):Int))=False:=aaI (by omega)
 have uZ:=shl_it 2 (hT t.toNat) (by decide) (by omega)
 rw[show((2:Nat):Int)=2 from rfl]at uZ
 have hHd:2^hT t.toNat=hH t:=rfl
 have hH2:2<=hH t:=by
  have:2^1<=2^hT t.toNat:=abT (by decide) h1
  exact this
 have hH10:hH t<=1024:=by
  have:2^hT t.toNat<=2^10:=abT (by decide) ht2
  exact this
 rw[hHd]at uZ
 simp only[hz,eG]
 simp only[↓ag,ah,simprocAttr,aQ,h.hei,FY,h.par,oh,cY,ht,ho,c1,uZ,b0,abn]
 have z1:wz (((2*hH t:Nat):Int)-1)=((2*hH t-1:Nat):Int):=by rw[be (by omega)];omega
 refine⟨by omega,by omega,?_⟩
 rw[z1]
 generalize hHh:hH t=H at*
 obtain⟨L,lr,ln,lm,lt,le,ld⟩:∃L:v9,L.r=rows.length+6/\L.nr=rows.length+3/\L.ms=rows.length+4/\L.mt=rows.length+5/\L.ne=true/\L.dl= .raw (.slice none 0 0):=⟨⟨_,_,_,_,_,_⟩,rfl,rfl,rfl,rfl,rfl,rfl⟩
 have hz32:List.replicate (2*H) (D.agg (.ar 32 L8) (bs uc))=(ob o id aI H 0).map aU:=by simp[ob,aU]
 rw[hz32]
 have Qd:=Cb o id aI H
 have hn32:=Ry o id aI H
 refine bg (2*H-1) (λk env rs=>has env [(15,.raw (it ((2*H-1-k:Nat):Int))),(14,.ptr fC L.r [0]),(7,.ptr (.ar 32 L8) (rows.length+1) [0]),(6,.ptr (.ar 16 L8) rows.length [0]),(1,.raw (u32 o))]/\
  nO rs L (tU t o id aI (ob o id aI H k))/\bO rows rs/\live rs rows.length=some ⟨.ar 16 L8,[.agg (.ar 16 L8) (bs id)]⟩/\live rs (rows.length+1)=some ⟨.ar 32 L8,[.agg (.ar 32 L8) (bs aI)]⟩) ?_ ?_ ⟨?_,⟨?_,?_,?_,?_,.inl ⟨rfl,ld⟩⟩,bO.app _ _,?_,?_⟩
 ·rintro k Qc env rs ⟨hw,hS,hK,r0,r1⟩ R hR
  simp only[has]at hw
  have hok:mA ((tU t o id aI (ob o id aI H k)).v L)=true:=ML hS iD sJ (hn32 k) (by show 4<=(ob o id aI H k).length;rw[Qd];omega) (by show(ob o id aI H k).length<=2048;rw[Qd];omega) (by show(ob o id aI H k).length %2=0;rw[Qd];omega)
  have hlv:jb ((tU t o id aI (ob o id aI H k)).v L)=H:=by show(ob o id aI H k).length/2=H;rw[Qd];omega
  have kLv:=λk'=>Z9 rs k' _ _ hS.rd hok
  have kSt:=λq k'=>aaa rs k' _ _ q hS.rd hok
  rw[hlv]at kLv
  have hSa:=hS.a
  have hSn:=hS.n
  have hsgR:DU L (tU t o id aI (ob o id aI H k))= .agg fC [.raw (u32 t),.raw (u32 o),.agg (.ar 16 L8) (bs id),.agg (.ar 32 L8) (bs aI),.sl (.ar 32 L8) L.nr [] 0 (2*H) true,.raw (u32 0#32),.mp L.ms,.mp L.mt,.raw (.slice none 0 0)]:=by
   show D.agg fC [.raw (u32 t),.raw (u32 o),.agg (.ar 16 L8) (bs id),.agg (.ar 32 L8) (bs aI),.sl (.ar 32 L8) L.nr [] 0 (ob o id aI H k).length L.ne,.raw (u32 0#32),.mp L.ms,.mp L.mt,L.dl]=_
   rw[Qd,le,ld]
  rw[hsgR]at hSa
  have hns:(tU t o id aI (ob o id aI H k)).ns=ob o id aI H k:=rfl
  rw[hns]at hSn
  have hid2:((tU t o id aI (ob o id aI H k)).v L).id=id:=rfl
  rw[hid2]at kSt
  generalize hr:2*H-1-k=r at*
  have Tz:1<=r:=by omega
  have Xx:r<2*H:=by omega
  have EX:2*H-1-(k+1)=r-1:=by omega
  have hst:ob o id aI H (k+1)=(ob o id aI H k).set r (TV o id aI H (ob o id aI H k) r):=by rw[<-hr];rfl
  have f0:((0:Int)<(r:Int))=True:=aaz (by omega)
  have f1:((r:Int)<((2*H:Nat):Int))=True:=aaz (by omega)
  have f2:wz ((r:Int)-1)=((r-1:Nat):Int):=by rw[be (by omega)];omega
  have f3:wz ((r:Int)-(H:Int))=(r:Int)-(H:Int):=be (by omega)
  have f4:BitVec.ofInt 32 (r:Int)=BitVec.ofNat 32 r:=abp _ _
  have hgg:∀j,j<2*H->((ob o id aI H k).map aU)[j]?=some (.agg (.ar 32 L8) (bs ((ob o id aI H k).getD j [])))/\((ob o id aI H k).getD j []).length=32:=λj hj=>by
   have hj2:j<(ob o id aI H k).length:=by rw[Qd];exact hj
   have e:(ob o id aI H k).getD j []=(ob o id aI H k)[j]:=by simp[List.getD,hj2]
   rw[e]
   exact⟨by simp[aU,hj2],hn32 k _ (abQ hj2)⟩
  have hgr:=(hgg r Xx).1
  have hNl:(ob o id aI H (k+1)).length=(tU t o id aI (ob o id aI H k)).ns.length:=by rw[hns,Qd,Qd]
  by_cases hH:H<=r
  ·have f5:((0:Int)<=(r:Int)-(H:Int))=True:=aaz (by omega)
   have f6:BitVec.ofInt 32 ((r:Int)-(H:Int))=BitVec.ofNat 32 (r-H):=by
    rw[show(r:Int)-(H:Int)=((r-H:Nat):Int) by omega];exact abp _ _
   have kPb:=λaa k'=>kPublic aa k' o ⟨id,BitVec.ofNat 32 (r-H)⟩ aI iD sJ ho
   have pJ:(Fz o.toNat ⟨id,BitVec.ofNat 32 (r-H)⟩ aI).length=32:=du _
   have kLf:=λaa k'=>kLeaf aa k' id (BitVec.ofNat 32 r) (Fz o.toNat ⟨id,BitVec.ofNat 32 (r-H)⟩ aI) iD pJ
   have hlf:TV o id aI H (ob o id aI H k) r=oI id (BitVec.ofNat 32 r) (Fz o.toNat ⟨id,BitVec.ofNat 32 (r-H)⟩ aI):=by rw[TV,aaM hH];rfl
   rw[hlf]at hst
   have hSaA:=λL'=>aj hSa L'
   have hSnA:=λL'=>aj hSn L'
   have r0A:=λL'=>aj r0 L'
   simp only[↓ag,ah,simprocAttr,aQ,hw,f0,f1,f2,f3,f4,f5,f6,b0,h.lvs,kLv,h.sit,kSt,h.bi,r1,kPb,hSaA,hSnA,r0A,h.lea,kLf]
   have so:((ob o id aI H k).map aU).set r (.agg (.ar 32 L8) (bs (oI id (BitVec.ofNat 32 r) (Fz o.toNat ⟨id,BitVec.ofNat 32 (r-H)⟩ aI))))=(ob o id aI H (k+1)).map aU:=by rw[hst,acP];rfl
   simp only[hgr,so,↓ag,ah,simprocAttr]
   exact hR _ _ ⟨by simp only[has,↓ag,ah,simprocAttr,hw,EX],(hS.push _).setNs (N:=ob o id aI H (k+1)) hNl,(hK.trans (bO.app _ _)).set (by omega) _,by rw[aC (by omega)];exact bG r0,by rw[aC (by omega)];exact bG r1⟩
  ·have f5:((0:Int)<=(r:Int)-(H:Int))=False:=aaI (by omega)
   have a1:wz (2*(r:Int))=((2*r:Nat):Int):=by rw[be (by omega)];omega
   have a2:wz (((2*r:Nat):Int)+1)=((2*r+1:Nat):Int):=by rw[be (by omega)];omega
   have a3:(((2*r:Nat):Int)<((2*H:Nat):Int))=True:=aaz (by omega)
   have a4:(((2*r+1:Nat):Int)<((2*H:Nat):Int))=True:=aaz (by omega)
   have g1:=hgg (2*r) (by omega)
   have g2:=hgg (2*r+1) (by omega)
   have kNd:=λaa k'=>Z0 aa k' id (BitVec.ofNat 32 r) _ _ iD g1.2 g2.2
   have hlf:TV o id aI H (ob o id aI H k) r=tP id (BitVec.ofNat 32 r) ((ob o id aI H k).getD (2*r) []) ((ob o id aI H k).getD (2*r+1) []):=by rw[TV,aaE hH]
   rw[hlf]at hst
   simp only[↓ag,ah,simprocAttr,aQ,hw,f0,f1,f2,f3,f4,f5,a1,a2,a3,a4,b0,h.lvs,kLv,hSa,hSn,r0,g1.1,g2.1,h.nod,kNd]
   have so:((ob o id aI H k).map aU).set r (.agg (.ar 32 L8) (bs (tP id (BitVec.ofNat 32 r) ((ob o id aI H k).getD (2*r) []) ((ob o id aI H k).getD (2*r+1) []))))=(ob o id aI H (k+1)).map aU:=by rw[hst,acP];rfl
   simp only[hgr,so,↓ag,ah,simprocAttr]
   exact hR _ _ ⟨by simp only[has,↓ag,ah,simprocAttr,hw,EX],hS.setNs (N:=ob o id aI H (k+1)) hNl,hK.set (by omega) _,by rw[aC (by omega)];exact r0,by rw[aC (by omega)];exact r1⟩
 ·rintro env rs ⟨hw,hS,hK,r0,r1⟩ R
  simp only[has]at hw
  have f0:((0:Int)<((2*H-1-(2*H-1):Nat):Int))=False:=aaI (by omega)
  simp only[↓ag,ah,simprocAttr,aQ,hw,f0]
  exact hk rs L hS hK (by omega) (by omega) (by omega) (by omega) ld
 ·rw[lr,acO]
  simp only[has,↓ag,ah,simprocAttr]
 ·rw[lr,cg]
  have e:DU L (tU t o id aI (ob o id aI H 0))= .agg fC [.raw (u32 t),.raw (u32 o),.agg (.ar 16 L8) (bs id),.agg (.ar 32 L8) (bs aI),.sl (.ar 32 L8) (rows.length+3) [] 0 (2*H) true,.raw (u32 0#32),.mp (rows.length+4),.mp (rows.length+5),.raw (.slice none 0 0)]:=by
   show D.agg fC [.raw (u32 t),.raw (u32 o),.agg (.ar 16 L8) (bs id),.agg (.ar 32 L8) (bs aI),.sl (.ar 32 L8) L.nr [] 0 (ob o id aI H 0).length L.ne,.raw (u32 0#32),.mp L.ms,.mp L.mt,L.dl]=_
   rw[Qd,le,ld,ln,lm,lt]
  rw[e];rfl
 ·rw[ln,cg];rfl
 ·rw[lm,cg];rfl
 ·rw[lt,cg];rfl
 ·rw[bx];rfl
 ·rw[cg];rfl
structure LmS (C:aX):Prop where
 lef:C.fn 109=some TT
 sit:C.fn 40=some Ib
 mas:C.fn 111=some HY
 dig:C.fn 110=some uK
 frc:C.fn 54=some Mi
def pj(rows:Rows)(d:D)(m:List (BitVec 8)):Prop:=(∃e,d= .cD L8 (bs m) e)\/∃r e,d= .sl L8 r [] 0 m.length e/\live rows r=some ⟨L8,bs m⟩
theorem pj.bs{rows:Rows}{d:D}{m:List (BitVec 8)}(h:pj rows d m):bd rows d m:=by
 rcases h with⟨e,rfl⟩|⟨r,e,rfl,h⟩
 ·exact eB.to (.inr ⟨e,rfl⟩)
 ·exact bd.own h _ rfl
theorem pj.el{rows:Rows}{d:D}{m:List (BitVec 8)}(h:pj rows d m):fh L8 d=true/\elems rows d=some (Am.bs m)/\dP d=some m.length:=by
 rcases h with⟨e,rfl⟩|⟨r,e,rfl,h⟩
 ·exact⟨by simp[fh],rfl,by simp[dP,aB]⟩
 ·refine⟨by simp[fh],?_,rfl⟩
  simp only[elems,h]
  rw[abu,aay (by rw[aB];exact aaL _)]
theorem pj.keep{rows aa:Rows}{d:D}{m:List (BitVec 8)}(h:pj rows d m)(hk:∀q l,live rows q=some ⟨L8,l⟩->live aa q=some ⟨L8,l⟩):pj aa d m:=by
 rcases h with⟨e,rfl⟩|⟨r,e,rfl,h⟩
 ·exact .inl ⟨e,rfl⟩
 ·exact .inr ⟨r,e,rfl,hk _ _ h⟩
def xN(q:BitVec 32)(ds:List Nat)(tm:List D):Nat->List D
 |0=>tm
 |k+1=> .agg (pV KC LI) [zB q (k:Int),.raw (it ((ds.getD k 0:Nat):Int))]::xN q ds tm k
def sgnE(m:List (BitVec 8)):D:= .agg (pV LS LB) [.raw (.string (jE m)),.raw (.bool true)]
def Sg.next(s:Sg)(c m:List (BitVec 8)):Sg:={s with
 nx:=s.nx+1#32
 sm:=sgnE m::s.sm
 tm:=xN s.nx (zA s.o.toNat ⟨s.id,s.nx⟩ c m) s.tm (pT s.o.toNat)
 last:=s.last++[(m,c)]}
def v9.next(L:v9)(d:D):v9:={L with dl:=d}
def xO(rows:Rows)(L:v9)(s:Sg)(q:Nat):Prop:=q≠L.r/\q≠L.nr/\q≠L.ms/\q≠L.mt/\∀ex n,L.dl≠ .sl jL q [] 0 n ex
theorem nO.ne_r{rows:Rows}{L:v9}{s:Sg}(h:nO rows L s):L.r≠L.nr/\L.r≠L.ms/\L.r≠L.mt/\L.nr≠L.ms/\L.nr≠L.mt/\L.ms≠L.mt:=
 ⟨dz h.a h.n (by decide),dz h.a h.m (by decide),dz h.a h.t (by decide),dz h.n h.m (by decide),dz h.n h.t (by decide),dz h.m h.t (by decide)⟩
theorem jg.setL{s:Sh}{d:D}{rows:Rows}{els:List D}{q:Nat}{s':Sh}{l:List D}(h:jg s d rows els)(hq:live rows q=some ⟨s',l⟩)(hs:s'≠s)(x:Option Row):jg s d (rows.set q x) els:=by
 rcases h with e|⟨r,ex,e,hl⟩
 ·exact .inl e
 ·exact .inr ⟨r,ex,e,by rw[aC (dz hq hl hs)];exact hl⟩
theorem nO.setNx{rows:Rows}{L:v9}{s:Sg}(h:nO rows L s)(x:BitVec 32):nO (rows.set L.r (some ⟨fC,[DU L {s with nx:=x}]⟩)) L {s with nx:=x}:=by
 obtain⟨n1,n2,n3,n4,n5,n6⟩:=h.ne_r
 exact⟨aE h.a,by rw[aC n1];exact h.n,by rw[aC n2];exact h.m,by rw[aC n3];exact h.t,jg.setL h.l h.a (by decide) _⟩
theorem nO.setM{rows:Rows}{L:v9}{s:Sg}(h:nO rows L s)(x:List D):nO (rows.set L.ms (some ⟨B9,x⟩)) L {s with sm:=x}:=by
 obtain⟨n1,n2,n3,n4,n5,n6⟩:=h.ne_r
 exact⟨by rw[aC n2.symm];exact h.a,by rw[aC n4.symm];exact h.n,aE h.m,by rw[aC n6];exact h.t,jg.setL h.l h.m (by decide) _⟩
theorem nO.setT{rows:Rows}{L:v9}{s:Sg}(h:nO rows L s)(x:List D):nO (rows.set L.mt (some ⟨EV,x⟩)) L {s with tm:=x}:=by
 obtain⟨n1,n2,n3,n4,n5,n6⟩:=h.ne_r
 exact⟨by rw[aC n3.symm];exact h.a,by rw[aC n5.symm];exact h.n,by rw[aC n6.symm];exact h.m,aE h.t,jg.setL h.l h.t (by decide) _⟩
theorem pj.Iq{rows:Rows}{d:D}{m:List (BitVec 8)}(h:pj rows d m){q:Nat}{s':Sh}{l:List D}(hq:live rows q=some ⟨s',l⟩)(hs:s'≠L8)(x:Option Row):pj (rows.set q x) d m:=
 h.keep λp l' hp=>by rw[aC (dz hq hp hs)];exact hp
theorem pj.push{rows:Rows}{d:D}{m:List (BitVec 8)}(h:pj rows d m)(more:Rows):pj (rows++more) d m:=h.keep λ_ _ hp=>bG hp
theorem nO.app{rows aa:Rows}{L:v9}{s:Sg}(h:nO rows L s){d':D}{x:List (BitVec 8)×List (BitVec 8)}(hO:jg jL d' aa (s.last.map Ay++[Ay x]))
  (pI:∀r y,live rows r=some y->(∀ex n,L.dl≠ .sl jL r [] 0 n ex)->live aa r=some y):
  live aa L.r=some ⟨fC,[DU L s]⟩/\nO (aa.set L.r (some ⟨fC,[DU (L.next d') {s with last:=s.last++[x]}]⟩)) (L.next d') {s with last:=s.last++[x]}:=by
 obtain⟨n1,n2,n3,n4,n5,n6⟩:=h.ne_r
 have ga:=pI _ _ h.a (gQ h.l h.a (by decide))
 have gn:=pI _ _ h.n (gQ h.l h.n (by decide))
 have gm:=pI _ _ h.m (gQ h.l h.m (by decide))
 have gt:=pI _ _ h.t (gQ h.l h.t (by decide))
 refine⟨ga,aE ga,by rw[show(L.next d').nr=L.nr from rfl,aC n1];exact gn,by rw[show(L.next d').ms=L.ms from rfl,aC n2];exact gm,by rw[show(L.next d').mt=L.mt from rfl,aC n3];exact gt,?_⟩
 rw[acg]
 exact jg.setL hO ga (by decide) _
theorem sign_run(C:aX)(h:LmS C){rows:Rows}{L:v9}{s:Sg}{d:D}{c m:List (BitVec 8)}(hS:nO rows L s)(hp:mA (s.v L)=true)(ho:tM s.o.toNat=true)(hc:c.length=32)(hm:pj rows d m)(hml:m.length<=1099511627776)
  (EX:s.nx.toNat<jb (s.v L))(hla:s.last.length<=1000000){K:D->Rows->Prop}
  (hk:∀aa dl' r',nO aa (L.next dl') (s.next c m)->live aa r'=some ⟨L8,bs (gW (s.v L) s.nx c m)⟩->rows.length<=r'->(∀q row,live rows q=some row->xO rows L s q->live aa q=some row)->(∀q ex n,dl'= .sl jL q [] 0 n ex->rows.length<=q)->rows.length<=aa.length->
   K (.cB [.sl L8 r' [] 0 (44+32*pT s.o.toNat+32*iH (s.v L) s.nx.toNat) false,.raw (it 0)]) aa):
  aG C 3 ig ie [.ptr fC L.r [0],.agg (.ar 32 L8) (bs c),d] rows K:=by
 refine ae rfl ?_
 unfold ie ig
 have tV:=hS.push [some ⟨.ar 32 L8,[.agg (.ar 32 L8) (bs c)]⟩]
 have kLe:=λk'=>kLeftV _ k' _ _ tV.rd hp
 have hlv:jb (s.v L)<=1024:=by
  have:=(fp.1 hp).2.2.2.2.1
  unfold jb;omega
 have c0:((jb (s.v L):Int)-((s.v L).nx.toNat:Int)=0)=False:=aaI (by show¬((jb (s.v L):Int)-(s.nx.toNat:Int)=0);omega)
 have hSa:=tV.a
 simp only[DU]at hSa
 have hcr:live (rows++[some (⟨.ar 32 L8,[.agg (.ar 32 L8) (bs c)]⟩:Row)]) rows.length=some ⟨.ar 32 L8,[.agg (.ar 32 L8) (bs c)]⟩:=by rw[bx];rfl
 have rA:=hm.push [some ⟨.ar 32 L8,[.agg (.ar 32 L8) (bs c)]⟩]
 have AK:∀q row,live rows q=some row->xO rows L s q->live (rows++[some (⟨.ar 32 L8,[.agg (.ar 32 L8) (bs c)]⟩:Row)]) q=some row:=λq row hq _=>bG hq
 have hN1:rows.length<(rows++[some (⟨.ar 32 L8,[.agg (.ar 32 L8) (bs c)]⟩:Row)]).length:=by simp
 simp only[↓ag,ah,simprocAttr]
 generalize rows++[some (⟨.ar 32 L8,[.agg (.ar 32 L8) (bs c)]⟩:Row)]=R1 at*
 have E1:=tV.setNx (s.nx+1#32)
 have hne:=tV.ne_r
 have hcr2:live (R1.set L.r (some ⟨fC,[DU L {s with nx:=s.nx+1#32}]⟩)) rows.length=some ⟨.ar 32 L8,[.agg (.ar 32 L8) (bs c)]⟩:=by rw[aC (dz tV.a hcr (by decide))];exact hcr
 have M1:=rA.Iq tV.a (by decide) (some ⟨fC,[DU L {s with nx:=s.nx+1#32}]⟩)
 have yu:∀q row,live rows q=some row->xO rows L s q->live (R1.set L.r (some ⟨fC,[DU L {s with nx:=s.nx+1#32}]⟩)) q=some row:=λq row hq he=>by rw[aC (abZ he.1)];exact AK q row hq he
 have hN2:rows.length<(R1.set L.r (some ⟨fC,[DU L {s with nx:=s.nx+1#32}]⟩)).length:=by simpa using hN1
 have hSa2:=E1.a
 have hln2:(R1.set L.r (some (⟨fC,[DU L {s with nx:=s.nx+1#32}]⟩:Row))).length=R1.length:=abb
 simp only[DU]at hSa2 E1 hcr2 M1 yu hN2 hln2
 simp only[↓ag,ah,simprocAttr,aQ,h.lef,kLe,c0,hSa]
 generalize R1.set L.r (some (⟨fC,[.agg fC [.raw (u32 s.t),.raw (u32 s.o),.agg (.ar 16 L8) (bs s.id),.agg (.ar 32 L8) (bs s.aI),.sl (.ar 32 L8) L.nr [] 0 s.ns.length L.ne,.raw (u32 (s.nx+1#32)),.mp L.ms,.mp L.mt,L.dl]]⟩:Row))=R2 at*
 obtain⟨e1,e2,e3⟩:=M1.el
 have hby:=Tw m
 have hmv:(⟨(ub m).toArray⟩:ByteArray)=jE m:=rfl
 have WQ:=E1.m
 have hS3:=E1.setM (.agg (pV LS LB) [.raw (.string (jE m)),.raw (.bool true)]::s.sm)
 have hcr3:live (R2.set L.ms (some ⟨B9,.agg (pV LS LB) [.raw (.string (jE m)),.raw (.bool true)]::s.sm⟩)) rows.length=some ⟨.ar 32 L8,[.agg (.ar 32 L8) (bs c)]⟩:=by rw[aC (dz WQ hcr2 (by decide))];exact hcr2
 have hm3:=M1.Iq WQ (by decide) (some ⟨B9,.agg (pV LS LB) [.raw (.string (jE m)),.raw (.bool true)]::s.sm⟩)
 have MI:∀q row,live rows q=some row->xO rows L s q->live (R2.set L.ms (some ⟨B9,.agg (pV LS LB) [.raw (.string (jE m)),.raw (.bool true)]::s.sm⟩)) q=some row:=λq row hq he=>by rw[aC (abZ he.2.2.1)];exact yu q row hq he
 have hN3:rows.length<(R2.set L.ms (some ⟨B9,.agg (pV LS LB) [.raw (.string (jE m)),.raw (.bool true)]::s.sm⟩)).length:=by simpa using hN2
 have hln3:(R2.set L.ms (some (⟨B9,.agg (pV LS LB) [.raw (.string (jE m)),.raw (.bool true)]::s.sm⟩:Row))).length=R1.length:=by rw[abb,hln2]
 simp only[↓ag,ah,simprocAttr,aQ,hSa2,e1,e2,e3,aB,hby,hmv,WQ]
 generalize R2.set L.ms (some (⟨B9,.agg (pV LS LB) [.raw (.string (jE m)),.raw (.bool true)]::s.sm⟩:Row))=R3 at*
 have hSa3:=hS3.a
 simp only[DU]at hSa3
 obtain⟨f1,f2,f3⟩:=hm3.el
 have hSa3A:=λL'=>aj hSa3 L'
 have hcr3A:=λL'=>aj hcr3 L'
 have f2A:∀L',elems (R3++L') d=some (bs m):=λL'=>(hm3.push L').el.2.1
 simp only[↓ag,ah,simprocAttr,aQ,hSa3,f1,f2,f2A,f3,aB,hby,hmv,hcr3,hSa3A,hcr3A]
 have iE:live (R3++[some (⟨jL,[.agg jL [.raw (.string (jE m)),.agg (.ar 32 L8) (bs c)]]⟩:Row)]) R1.length=some ⟨jL,[.agg jL [.raw (.string (jE m)),.agg (.ar 32 L8) (bs c)]]⟩:=by
  rw[<-hln3,bx];rfl
 have hlet:D.agg jL [.raw (.string (jE m)),.agg (.ar 32 L8) (bs c)]=Ay (m,c):=rfl
 have hO3:=jg.push (more:=[some (⟨jL,[.agg jL [.raw (.string (jE m)),.agg (.ar 32 L8) (bs c)]]⟩:Row)]) hS3.l
 have hS3p:=hS3.push [some (⟨jL,[.agg jL [.raw (.string (jE m)),.agg (.ar 32 L8) (bs c)]]⟩:Row)]
 have hcr3p:=hcr3A [some (⟨jL,[.agg jL [.raw (.string (jE m)),.agg (.ar 32 L8) (bs c)]]⟩:Row)]
 have hm3p:=hm3.push [some (⟨jL,[.agg jL [.raw (.string (jE m)),.agg (.ar 32 L8) (bs c)]]⟩:Row)]
 have hF3p:∀q row,live rows q=some row->xO rows L s q->live (R3++[some (⟨jL,[.agg jL [.raw (.string (jE m)),.agg (.ar 32 L8) (bs c)]]⟩:Row)]) q=some row:=λq row hq he=>bG (MI q row hq he)
 have hN3p:rows.length<(R3++[some (⟨jL,[.agg jL [.raw (.string (jE m)),.agg (.ar 32 L8) (bs c)]]⟩:Row)]).length:=by rw[aax];omega
 simp only[↓ag,ah,simprocAttr,iE,List.take]
 generalize R3++[some (⟨jL,[.agg jL [.raw (.string (jE m)),.agg (.ar 32 L8) (bs c)]]⟩:Row)]=R4 at*
 rw[hlet]
 refine tG hO3 (by rw[aaC];simp[most];omega) (by rw[aaC];simp[most];omega) λR5 hl5 pI hlen5=>?_
 obtain⟨d',jP⟩:∃d',d'=D.sl jL R4.length [] 0 ((s.last.map Ay).length+[Ay (m,c)].length) false:=⟨_,rfl⟩
 rw[<-jP]
 have hO5:jg jL d' R5 (s.last.map Ay++[Ay (m,c)]):= .inr ⟨R4.length,false,by rw[jP,aax],hl5⟩
 obtain⟨hSa5,hS6⟩:=hS3p.app hO5 pI
 have hcr5:=pI _ _ hcr3p (gQ hO3 hcr3p (by decide))
 have hm5:pj R5 d m:=hm3p.keep λq l hq=>pI _ _ hq (gQ hO3 hq (by decide))
 have hF5:∀q row,live rows q=some row->xO rows L s q->live R5 q=some row:=λq row hq he=>pI _ _ (hF3p q row hq he) he.2.2.2.2
 have hcr6:live (R5.set L.r (some ⟨fC,[DU (L.next d') {s with nx:=s.nx+1#32,sm:= .agg (pV LS LB) [.raw (.string (jE m)),.raw (.bool true)]::s.sm,last:=s.last++[(m,c)]}]⟩)) rows.length=some ⟨.ar 32 L8,[.agg (.ar 32 L8) (bs c)]⟩:=by rw[aC (dz hSa5 hcr5 (by decide))];exact hcr5
 have hm6:=hm5.Iq hSa5 (by decide) (some ⟨fC,[DU (L.next d') {s with nx:=s.nx+1#32,sm:= .agg (pV LS LB) [.raw (.string (jE m)),.raw (.bool true)]::s.sm,last:=s.last++[(m,c)]}]⟩)
 have hF6:∀q row,live rows q=some row->xO rows L s q->live (R5.set L.r (some ⟨fC,[DU (L.next d') {s with nx:=s.nx+1#32,sm:= .agg (pV LS LB) [.raw (.string (jE m)),.raw (.bool true)]::s.sm,last:=s.last++[(m,c)]}]⟩)) q=some row:=λq row hq he=>by rw[aC (abZ he.1)];exact hF5 q row hq he
 have hN6:rows.length<(R5.set L.r (some (⟨fC,[DU (L.next d') {s with nx:=s.nx+1#32,sm:= .agg (pV LS LB) [.raw (.string (jE m)),.raw (.bool true)]::s.sm,last:=s.last++[(m,c)]}]⟩:Row))).length:=by rw[abb,hlen5];omega
 have hdf:D.fits d' .ref=true:=by rw[jP];rfl
 have hdr:∀q ex n,d'= .sl jL q [] 0 n ex->rows.length<=q:=λq ex n e=>by rw[jP]at e;injection e with _ e;omega
 simp only[DU]at hSa5
 have hR6:R5.set L.r (some (⟨fC,[DU (L.next d') {s with nx:=s.nx+1#32,sm:= .agg (pV LS LB) [.raw (.string (jE m)),.raw (.bool true)]::s.sm,last:=s.last++[(m,c)]}]⟩:Row))=R5.set L.r (some ⟨fC,[.agg fC [.raw (u32 s.t),.raw (u32 s.o),.agg (.ar 16 L8) (bs s.id),.agg (.ar 32 L8) (bs s.aI),.sl (.ar 32 L8) L.nr [] 0 s.ns.length L.ne,.raw (u32 (s.nx+1#32)),.mp L.ms,.mp L.mt,d']]⟩):=rfl
 rw[hR6]at hcr6 hm6 hN6 hS6
 have hF6:∀q row,live rows q=some row->xO rows L s q->live (R5.set L.r (some ⟨fC,[.agg fC [.raw (u32 s.t),.raw (u32 s.o),.agg (.ar 16 L8) (bs s.id),.agg (.ar 32 L8) (bs s.aI),.sl (.ar 32 L8) L.nr [] 0 s.ns.length L.ne,.raw (u32 (s.nx+1#32)),.mp L.ms,.mp L.mt,d']]⟩)) q=some row:=hF6
 clear hR6
 obtain⟨e1',e2',e3'⟩:=hm5.el
 simp only[↓ag,ah,simprocAttr,aQ,hSa5,hcr5,e1',e2',e3',aB,hby,hmv,hdf]
 generalize R5.set L.r (some (⟨fC,[.agg fC [.raw (u32 s.t),.raw (u32 s.o),.agg (.ar 16 L8) (bs s.id),.agg (.ar 32 L8) (bs s.aI),.sl (.ar 32 L8) L.nr [] 0 s.ns.length L.ne,.raw (u32 (s.nx+1#32)),.mp L.ms,.mp L.mt,d']]⟩:Row))=R6 at*
 have hSa6:=hS6.a
 simp only[DU,v9.next]at hSa6
 obtain⟨iD,sJ,rf,Rt,hn,yc,JU⟩:=fp.1 hp
 have hp6:mA (Sg.v {s with nx:=s.nx+1#32,sm:= .agg (pV LS LB) [.raw (.string (jE m)),.raw (.bool true)]::s.sm,last:=s.last++[(m,c)]} (L.next d'))=true:=ML hS6 iD sJ rf Rt hn yc
 have kSt:=λk'=>aaa R6 k' _ _ s.nx hS6.rd hp6
 have hrL:(L.next d').r=L.r:=rfl
 have hidE:(Sg.v {s with nx:=s.nx+1#32,sm:= .agg (pV LS LB) [.raw (.string (jE m)),.raw (.bool true)]::s.sm,last:=s.last++[(m,c)]} (L.next d')).id=s.id:=rfl
 rw[hrL,hidE]at kSt
 have kMa:=λk'=>ZJ R6 k' ⟨s.id,s.nx⟩ c m d hm6.bs iD hc
 have hml':(j4 s.id s.nx c m).length=32:=du _
 have kDi:=λk'=>L9 R6 k' s.o (j4 s.id s.nx c m) hml' ho
 have AI:fK s.o.toNat (j4 s.id s.nx c m)=zA s.o.toNat ⟨s.id,s.nx⟩ c m:=rfl
 rw[AI]at kDi
 have hpt:pT s.o.toNat<=265:=(lN ho).2.2.1
 simp only[↓ag,ah,simprocAttr,aQ,hSa6,h.sit,kSt,hcr6,h.mas,kMa,h.dig,kDi]
 have qZ:(zA s.o.toNat ⟨s.id,s.nx⟩ c m).length=pT s.o.toNat:=Me _ _ _ _
 have hSd:live (R6++[some (⟨LI,(zA s.o.toNat ⟨s.id,s.nx⟩ c m).map vW⟩:Row)]) R6.length=some ⟨LI,(zA s.o.toNat ⟨s.id,s.nx⟩ c m).map vW⟩:=by rw[bx];rfl
 have hSx:Sg.next s c m={s with nx:=s.nx+1#32,sm:= .agg (pV LS LB) [.raw (.string (jE m)),.raw (.bool true)]::s.sm,tm:=xN s.nx (zA s.o.toNat ⟨s.id,s.nx⟩ c m) s.tm (pT s.o.toNat),last:=s.last++[(m,c)]}:=rfl
 rw[hSx]at hk
 have hsF:∀tm,gW (Sg.v {s with nx:=s.nx+1#32,sm:= .agg (pV LS LB) [.raw (.string (jE m)),.raw (.bool true)]::s.sm,tm:=tm,last:=s.last++[(m,c)]} (L.next d')) s.nx c m=gW (s.v L) s.nx c m:=λ_=>rfl
 have hpN:∀tm,iH (Sg.v {s with nx:=s.nx+1#32,sm:= .agg (pV LS LB) [.raw (.string (jE m)),.raw (.bool true)]::s.sm,tm:=tm,last:=s.last++[(m,c)]} (L.next d')) s.nx.toNat=iH (s.v L) s.nx.toNat:=λ_=>rfl
 generalize zA s.o.toNat ⟨s.id,s.nx⟩ c m=ds at*
 generalize hPP:pT s.o.toNat=P at*
 refine bg P (λi env rs=>has env [(60,.raw (it (i:Int))),(59,.raw (it (P:Int))),(58,.sl LI R6.length [] 0 P false),(0,.ptr fC L.r [0]),(8,.raw (u32 s.nx)),(4,.ptr (.ar 32 L8) rows.length [0]),(2,d)]/\
  nO rs (L.next d') {s with nx:=s.nx+1#32,sm:= .agg (pV LS LB) [.raw (.string (jE m)),.raw (.bool true)]::s.sm,tm:=xN s.nx ds s.tm i,last:=s.last++[(m,c)]}/\
  live rs R6.length=some ⟨LI,ds.map vW⟩/\live rs rows.length=some ⟨.ar 32 L8,[.agg (.ar 32 L8) (bs c)]⟩/\pj rs d m/\(∀q row,live rows q=some row->xO rows L s q->live rs q=some row)/\rows.length<rs.length) ?_ ?_
  ⟨?_,hS6.push _,hSd,bG hcr6,hm6.push _,λq row hq he=>bG (hF6 q row hq he),by rw[aax];omega⟩
 ·rintro i hi env rs ⟨hw,hSi,hdi,hci,hmi,hFi,hNi⟩ R hR
  simp only[has]at hw
  have g0:((i:Int)<(P:Int))=True:=aaz (by omega)
  have b0:∀n:Nat,((0:Int)<=(n:Int))=True:=λn=>aaz (by omega)
  have g1:=cj i (by omega)
  have g2:(ds.map vW)[i]?=some (.raw (it ((ds.getD i 0:Nat):Int))):=by
   have:i<ds.length:=by omega
   simp[List.getD,this,vW]
  have hSai:=hSi.a
  have hSti:=hSi.t
  simp only[DU,v9.next]at hSai
  have hsp:D.agg S16 [.raw (u32 s.nx),.raw (it (i:Int))]=zB s.nx (i:Int):=rfl
  have spf:(zB s.nx (i:Int)).fits KC=true:=rfl
  have hT:=hSi.setT (xN s.nx ds s.tm (i+1))
  have htk:xN s.nx ds s.tm (i+1)= .agg (pV KC LI) [zB s.nx (i:Int),.raw (it ((ds.getD i 0:Nat):Int))]::xN s.nx ds s.tm i:=rfl
  have hmt:(L.next d').mt=L.mt:=rfl
  rw[hmt]at hSti
  simp only[↓ag,ah,simprocAttr,aQ,hw,g0,g1,g2,b0,hdi,hSai,hsp,spf,hSti]
  rw[hmt,htk]at hT
  refine hR _ _ ⟨by simp only[has,↓ag,ah,simprocAttr,hw],?_,?_,?_,?_,?_,?_⟩
  ·rw[htk];exact hT
  ·rw[aC (dz hSti hdi (by decide))];exact hdi
  ·rw[aC (dz hSti hci (by decide))];exact hci
  ·exact hmi.Iq hSti (by decide) _
  ·exact λq row hq he=>by rw[aC (abZ he.2.2.2.1)];exact hFi q row hq he
  ·rw[abb];exact hNi
 ·rintro env rs ⟨hw,hSi,hdi,hci,hmi,hFi,hNi⟩ R
  simp only[has]at hw
  have g0:((P:Int)<(P:Int))=False:=aaI (by omega)
  have hpi:=ML hSi iD sJ rf Rt hn yc
  have kFo:=λk'=>kForceV rs k' _ d _ s.nx c m hSi.rd hmi.bs hpi ho hc hml EX
  rw[hrL]at kFo
  simp only[↓ag,ah,simprocAttr,aQ,hw,g0,hci,h.frc,kFo]
  have hpo:pT (Sg.v {s with nx:=s.nx+1#32,sm:= .agg (pV LS LB) [.raw (.string (jE m)),.raw (.bool true)]::s.sm,tm:=xN s.nx ds s.tm P,last:=s.last++[(m,c)]} (L.next d')).o.toNat=P:=hPP
  rw[hsF,hpN,hpo,<-acN]
  refine hk _ d' rs.length (hSi.push _) (by rw[bx];rfl) (by omega) (λq row hq he=>bG (hFi q row hq he)) hdr (by rw[aax];omega)
 ·simp only[has,↓ag,ah,simprocAttr]
end iZ
end Go.Am
namespace Go.Am
namespace iZ
open Go.Am.F
structure Whole (s:lq):Prop where
 t:I1 s.t.toNat=true
 t10:hT s.t.toNat<=10
 o:tM s.o.toNat=true
 id:s.id.length=16
 sd:s.aI.length=32
 ns:s.ns=lu s.o s.id s.aI (hH s.t)
 ld:aT s.ld=false
theorem hH_ge{t:BitVec 32}(h:I1 t.toNat=true):2<=hH t:=by
 have:2^1<=2^hT t.toNat:=abT (by decide) (FZ h)
 exact this
theorem hH_le{t:BitVec 32}(h:hT t.toNat<=10):hH t<=1024:=by
 have:2^hT t.toNat<=2^10:=abT (by decide) h
 exact this
theorem Whole.len{s:lq}(h:Whole s):s.ns.length=2*hH s.t:=by rw[h.ns];exact Cb _ _ _ _ _
theorem Whole.lv{s:lq}(h:Whole s):jb s=hH s.t:=by unfold jb;rw[h.len];omega
theorem Whole.ok{s:lq}(h:Whole s):mA s=true:=by
 have h1:=hH_ge h.t
 have h2:=hH_le h.t10
 have h3:=h.len
 refine fp.2 ⟨h.id,h.sd,?_,by omega,by omega,by omega,h.ld⟩
 rw[h.ns]
 exact Ry _ _ _ _ _
theorem Whole.pn{s:lq}(h:Whole s){q:Nat}(hq:q<hH s.t):iH s q=hT s.t.toNat:=by
 have h1:=hH_ge h.t
 have e:hH s.t=2^hT s.t.toNat:=rfl
 unfold iH
 rw[h.lv]
 refine(Nat.log2_eq_iff (by omega)).2 ⟨by omega,?_⟩
 rw[ad8];omega
theorem qR(x:BitVec 32)(l:List (BitVec 8)):dt (bt x++l)=x:=by
 rw[<-pL _ 4 (by decide)]
 show dt (bt x)=x
 exact H6 x
section
variable {s:lq} (h:Whole s) {q:BitVec 32} (hq:q.toNat<hH s.t) (c m:List (BitVec 8)) (hc:c.length=32)
theorem sf_q:yl (gW s q c m)=q:=by
 rw[yl,gW]
 simp only[aaP]
 exact qR _ _
theorem sf_4:(gW s q c m).drop 4=mo s.o ⟨s.id,q⟩ s.aI c m++(bt s.t++(nf s q.toNat).flatten):=by
 rw[gW]
 simp only[aaP]
 rfl
theorem sf_o:TR (gW s q c m)=s.o:=by
 rw[TR,sf_4,mo]
 simp only[aaP]
 exact qR _ _
theorem sf_p:oJ (gW s q c m)=pT s.o.toNat:=by rw[oJ,sf_o]
include hc
theorem sf_40:(gW s q c m).drop (40+32*pT s.o.toNat)=bt s.t++(nf s q.toNat).flatten:=by
 have hl:=tO s.o ⟨s.id,q⟩ s.aI c m hc
 rw[show 40+32*pT s.o.toNat=4+(mo s.o ⟨s.id,q⟩ s.aI c m).length by omega,<-aby,sf_4,abi]
theorem sf_one:oK (gW s q c m)=mo s.o ⟨s.id,q⟩ s.aI c m:=by
 have hl:=tO s.o ⟨s.id,q⟩ s.aI c m hc
 rw[oK,sf_p,sf_4,<-hl,aa3]
theorem sf_t:Mh (gW s q c m)=s.t:=by rw[Mh,sf_p,sf_40 c m hc];exact qR _ _
theorem sf_h:oo (gW s q c m)=hT s.t.toNat:=by rw[oo,sf_t c m hc]
include h hq
theorem sf_path:jz (gW s q c m) (hT s.t.toNat)=nf s q.toNat:=by
 have hl:=tQ s q.toNat
 have hn:=h.pn hq
 refine ac1 (by rw[KB,hl,hn]) λi h1 h2=>?_
 have e:(jz (gW s q c m) (hT s.t.toNat))[i]=Z4 (gW s q c m) i:=by simp[jz]
 have e44:(gW s q c m).drop (44+32*pT s.o.toNat)=(nf s q.toNat).flatten:=by
  rw[show 44+32*pT s.o.toNat=(40+32*pT s.o.toNat)+4 by omega,<-aby,sf_40 c m hc]
  rfl
 rw[e,Z4,sf_p,<-aby,e44]
 exact H7 (Ic h.ok (by rw[h.lv];exact hq)) i h2
theorem sf_E:dN (gW s q c m)=0:=by
 have hl:=Ca h.ok (by rw[h.lv];exact hq) c m hc
 rw[h.pn hq]at hl
 have hsh:q.toNat>>>hT s.t.toNat=0:=by rw[abG];exact ac0 hq
 have h1:=FZ h.t
 unfold dN
 rw[sf_o,sf_p,sf_t c m hc,sf_h c m hc,sf_q,aaE (by omega),aaE (by rw[h.o];decide),aaE (by omega),aaE (by rw[h.t];decide),aaE]
 rintro(e|e)
 ·exact e hl
 ·exact e hsh
end
theorem UE(r:BitVec 32)(i:Nat):(r>>>i).toNat=r.toNat/2^i:=by simp[abG]
theorem q_top{t:BitVec 32}(ht:hT t.toNat<=10){q:BitVec 32}(hq:q.toNat<hH t):(q+1#32<<<hT t.toNat).toNat=hH t+q.toNat:=by
 have h2:=hH_le ht
 have e:(1#32<<<hT t.toNat).toNat=hH t:=by
  rw[acE,acL]
  show 1*hH t %4294967296=hH t
  omega
 rw[ach,e]
 omega
theorem Po(x:BitVec 32)(n:Nat)(h:x.toNat=n):BitVec.ofNat 32 n=x:=by
 rw[<-h];simp
theorem Pp{s:lq}(h:Whole s){q:BitVec 32}(hq:q.toNat<hH s.t){x:List (BitVec 8)}(hx:x=s.ns.getD (hH s.t+q.toNat) []):
  ∀i,i<=hT s.t.toNat->dI s.id (q+1#32<<<hT s.t.toNat) x (nf s q.toNat) i=s.ns.getD ((hH s.t+q.toNat)/2^i) []
 |0,_=>by rw[dI,hx,Nat.pow_zero,Nat.div_one]
 | i + 1, hi => by
  have ih:=Pp h hq hx i (by omega)
  have hHe:hH s.t=2^hT s.t.toNat:=rfl
  have ht:=q_top h.t10 hq
  have hr:((q+1#32<<<hT s.t.toNat)>>>i).toNat=(hH s.t+q.toNat)/2^i:=by rw[UE,ht]
  have Tz:(((q+1#32<<<hT s.t.toNat)>>>i)>>>1).toNat=(hH s.t+q.toNat)/2^i/2:=by rw[UE,hr]
  have hge:2<=(hH s.t+q.toNat)/2^i:=by
   rw[Nat.le_div_iff_mul_le (aez i)]
   have:2^(i+1)<=2^hT s.t.toNat:=abT (by decide) hi
   rw[ad8]at this
   omega
  have hle:(hH s.t+q.toNat)/2^i<2*hH s.t:=Nat.lt_of_le_of_lt (adD _ _) (by omega)
  have hp:(nf s q.toNat).getD i []=s.ns.getD ((hH s.t+q.toNat)/2^i^^^1) []:=by
   have hl:=tQ s q.toNat
   have hn:=h.pn hq
   have:i<(nf s q.toNat).length:=by omega
   simp only[List.getD,aaw this,adj]
   simp[nf,oY,h.lv,List.getD]
  have hd:(hH s.t+q.toNat)/2^(i+1)=(hH s.t+q.toNat)/2^i/2:=by rw[ad8,Nat.div_div_eq_div_mul]
  rw[dI,ih,hp,hd]
  generalize (hH s.t+q.toNat)/2^i=r at*
  have CN:=RC s.o s.id s.aI (hH s.t) (r/2) (by omega) (by omega)
  rw[<-h.ns,Po _ _ Tz]at CN
  rw[CN]
  unfold EU
  have qV:=xor1 r
  have hb:((q+1#32<<<hT s.t.toNat)>>>i&&&1#32=1#32)=(r %2=1):=by
   rw[<-and1]
   apply propext
   constructor
   ·intro e
    have:=abt BitVec.toNat e
    rw[acm,hr]at this
    exact this
   ·intro e
    apply aaS
    rw[acm,hr]
    exact e
  by_cases c:r %2=1
  ·rw[aaM (by rw[hb];exact c)]
   rw[aaE (by omega)]at qV
   rw[qV,show 2*(r/2)=r-1 by omega,show r-1+1=r by omega]
  ·rw[aaE (by rw[hb];exact c)]
   rw[aaM (by omega)]at qV
   rw[qV,show 2*(r/2)=r by omega]
theorem leaf_at{s:lq}(h:Whole s){q:BitVec 32}(hq:q.toNat<hH s.t):oI s.id (q+1#32<<<hT s.t.toNat) (Fz s.o.toNat ⟨s.id,q⟩ s.aI)=s.ns.getD (hH s.t+q.toNat) []:=by
 have h1:=hH_ge h.t
 rw[h.ns,Rz _ _ _ _ _ (by omega) (by omega),lfS,Po _ _ (q_top h.t10 hq),show hH s.t+q.toNat-hH s.t=q.toNat by omega]
 simp
theorem Sv{s:lq}(h:Whole s){q:BitVec 32}(hq:q.toNat<hH s.t):Ax s.id q (oI s.id (q+1#32<<<hT s.t.toNat) (Fz s.o.toNat ⟨s.id,q⟩ s.aI)) (nf s q.toNat)=s.ns.getD 1 []:=by
 have e:=Pp h hq (leaf_at h hq) (hT s.t.toNat) (aaL _)
 have hl:=tQ s q.toNat
 rw[h.pn hq]at hl
 rw[Ax,hl,e]
 have h1:hH s.t=2^hT s.t.toNat:=rfl
 rw[show(hH s.t+q.toNat)/2^hT s.t.toNat=1 by rw[<-h1];exact Nat.div_eq_of_lt_le (by omega) (by omega)]
theorem pub_t(s:lq):dt (ee s)=s.t:=by
 rw[ee];simp only[aaP];exact qR _ _
theorem pub_o(s:lq):dt ((ee s).drop 4)=s.o:=by
 rw[ee];simp only[aaP];exact qR s.o (s.id++s.ns.getD 1 [])
theorem pub_8(s:lq):(ee s).drop 8=s.id++s.ns.getD 1 []:=by
 rw[ee];simp only[aaP];rfl
theorem pub_id{s:lq}(h:s.id.length=16):((ee s).drop 8).take 16=s.id:=by
 rw[pub_8,<-h,aa3]
theorem pub_root{s:lq}(h:s.id.length=16):(ee s).drop 24=s.ns.getD 1 []:=by
 rw[show 24=8+s.id.length by omega,<-aby,pub_8,abi]
theorem IF{s:lq}(h:Whole s):eR (ee s)=(⟨s.t,s.o,s.id,s.ns.getD 1 []⟩,0):=by
 unfold eR
 simp only[pR h.ok,pub_t,pub_o,h.t,h.o,aaG,adu,aaY,keyOf,pub_id h.id,pub_root h.id]
theorem rt_any{s z:lq}(h:Whole s)(hz:Whole z)(ht:z.t=s.t)(ho:z.o=s.o)(hi:z.id=s.id){q:BitVec 32}(hq:q.toNat<hH s.t)(c m m2:List (BitVec 8))(hc:c.length=32):M5 (ee z) (gW s q c m)=0/\
  Z8 (ee z) m2 (gW s q c m)=Ax s.id q (oI s.id (q+1#32<<<hT s.t.toNat) (qK ⟨s.id,q⟩ (mo s.o ⟨s.id,q⟩ s.aI c m) m2)) (nf s q.toNat):=by
 constructor
 ·rw[M5,IF hz,sf_E h hq c m hc,sf_t c m hc,sf_o]
  simp[ht,ho]
 ·rw[Z8,IF hz,sf_q,sf_h c m hc,sf_one c m hc,sf_path h hq c m hc]
  simp only[hi]
theorem rt_own{s z:lq}(h:Whole s)(hz:Whole z)(ht:z.t=s.t)(ho:z.o=s.o)(hi:z.id=s.id){q:BitVec 32}(hq:q.toNat<hH s.t)(c m:List (BitVec 8))(hc:c.length=32):Z8 (ee z) m (gW s q c m)=s.ns.getD 1 []:=by
 rw[(rt_any h hz ht ho hi hq c m m hc).2,Rv s.o ⟨s.id,q⟩ s.aI c m hc h.o]
 exact Sv h hq
theorem ver_own{s z:lq}(h:Whole s)(hz:Whole z)(ht:z.t=s.t)(ho:z.o=s.o)(hi:z.id=s.id){q:BitVec 32}(hq:q.toNat<hH s.t)(c m:List (BitVec 8))(hc:c.length=32):vX (ee z) m (gW s q c m)=if s.ns.getD 1 []=z.ns.getD 1 []then 0 else 5:=by
 rw[vX,(rt_any h hz ht ho hi hq c m m hc).1,rt_own h hz ht ho hi hq c m hc,IF hz]
 simp
theorem nO.els{rows:Rows}{L:v9}{s:Sg}(h:nO rows L s){q:Nat}{l:List D}(hq:live rows q=some ⟨L8,l⟩):xO rows L s q:=
 ⟨(dz h.a hq (by decide)).symm,(dz h.n hq (by decide)).symm,(dz h.m hq (by decide)).symm,(dz h.t hq (by decide)).symm,gQ h.l hq (by decide)⟩
theorem KQ{R:Rows}{L:v9}{t o:BitVec 32}{id aI:List (BitVec 8)}(h:nO R L (tU t o id aI (lu o id aI (hH t))))(ht:I1 t.toNat=true)(h10:hT t.toNat<=10)(ho:tM o.toNat=true)(iD:id.length=16)(sJ:aI.length=32):Whole ((tU t o id aI (lu o id aI (hH t))).v L):=
 ⟨ht,h10,ho,iD,sJ,rfl,Sg.Ie h⟩
theorem IG{R':Rows}{L:v9}{s:Sg}{d:D}{c m:List (BitVec 8)}(h:Whole (s.v L))(h':nO R' (L.next d) (s.next c m)):Whole ((s.next c m).v (L.next d)):=
 ⟨h.t,h.t10,h.o,h.id,h.sd,h.ns,Sg.Ie h'⟩
end iZ
end Go.Am
namespace Go.Am
attribute [local congr] cN bP cO bQ bT ca bC bU bV cb bk cd bW cM
namespace iZ
open Go.Am.F
def lB(p:List (BitVec 8)):List (BitVec 8):=p.take (min p.length 120/4*4)++[0#8,0#8,0#8,0#8]
theorem Cq(p:List (BitVec 8)):(lB p).length=min p.length 120/4*4+4:=by
 rw[lB,aax,aaF]
 show min _ _+4=_
 omega
def fb(v:Nat)(p:List (BitVec 8)):zC:=ofS v 0 (lB p)
def D6(v:Nat):List (BitVec 8):=uc.set 0 (BitVec.ofInt 8 (v:Int))
theorem II(v:Nat)(p:List (BitVec 8))(hv:v<=255):cL (fb v p)=true:=by
 have h:=Cq p
 have e:∀n:Nat,n %4=0->((n:Int).tmod 4=0):=λn hn=>by
  have:(n:Int).tmod 4=((n %4:Nat):Int):=rfl
  rw[this,hn];rfl
 have e1:=e (lB p).length (by omega)
 generalize hn:(lB p).length=n at*
 have hm:fb v p=⟨v,n,0,eu (lB p)⟩:=by rw[fb,ofS,hn]
 rw[hm]
 simp only[cL,aav,aaA]
 refine⟨⟨⟨⟨⟨⟨⟨by omega,by omega⟩,by omega⟩,by omega⟩,e1⟩,by decide⟩,by omega⟩,by decide⟩
theorem kCutB{rows:Rows}{d:D}{p:List (BitVec 8)}(h:bd rows d p)(n:Int)(hp:p.length<=9223372036854775807)(hn:n<=1099511627776)(k:D->Rows->Prop):aK Ok rows k [d,.raw (it n)]=k (.sl L8 (0+rows.length) [] 0 (p.take n.toNat).length false) (rows++[some ⟨L8,bs (p.take n.toNat)⟩]):=by
 refine(kn (.bs h) (.int n) (by rw[aav,abP,abP,aaF];unfold most;omega) (by simp[eJ,b8,a8,Sh.pure]) k).trans ?_
 simp[eJ,shift,ab,Sh.pure]
theorem MM{rows:Rows}{L:v9}{s:Sg}(h:nO rows L s){R:Rows}{q:Nat}(hq:rows.length<=q):xO R L s q:=by
 have a:=a9 h.a
 have b:=a9 h.n
 have c:=a9 h.m
 have d:=a9 h.t
 refine⟨by omega,by omega,by omega,by omega,λex n e=>?_⟩
 rcases h.l with⟨e',e''⟩|⟨r,pA,e',hl⟩
 ·first|(rw[e]at e';cases e')|(rw[e]at e'';cases e'')
 ·rw[e]at e'
  injection e' with _ e'
  have:=a9 hl
  omega
theorem pT_le(t:Nat):pT t<=265:=by
 unfold pT
 repeat' split
 all_goals omega
structure ImC (C:aX):Prop where
 cu:C.fn 17=some Ok
 jo:C.fn 51=some Ol
 of:C.fn 52=some fOf
 bo:C.fn 31=some uQ
 s0:C.fn 53=none
 s1:∃C1,C.dO 53=some (aG C1 3 ig ie)/\LmS C1
 im:C.fn 55=some Mw
theorem D7(C:aX)(H:ImC C){rows:Rows}{L:v9}{s:Sg}{d:D}{p:List (BitVec 8)}(v:Nat)(hv:v<=255)(hS:nO rows L s)(hW:Whole (s.v L))(EX:s.nx.toNat<hH s.t)(hla:s.last.length<=1000)(hd:∀more,bd (rows++more) d p)(j7:dP d=some p.length)(hp:p.length<=9223372036854775807){K:D->Rows->Prop}
  (hk:∀aa dl' r' n,nO aa (L.next dl') (s.next (D6 v) (cG (fb v p)))->n=(jM (fb v p) (gW (s.v L) s.nx (D6 v) (cG (fb v p))) (lB p)).length->live aa r'=some ⟨L8,bs (jM (fb v p) (gW (s.v L) s.nx (D6 v) (cG (fb v p))) (lB p))⟩->rows.length<=r'->
   (∀q row,live rows q=some row->xO rows L s q->live aa q=some row)->(∀q ex n,dl'= .sl jL q [] 0 n ex->rows.length<=q)->K (.sl L8 r' [] 0 n false) aa):
  aG C 4 mh mg [.ptr fC L.r [0],.raw (it (v:Int)),d,.raw (it (-1))] rows K:=by
 refine ae rfl ?_
 unfold mg mh
 simp only[-List.reduceReplicate,xH]
 simp only[-List.reduceReplicate,eG]
 obtain⟨C1,r1,hL⟩:=H.s1
 have qY:=hd []
 rw[aa4]at qY
 have w0:min ((p.length:Nat):Int) 120=((min p.length 120:Nat):Int):=by omega
 have w1:wz ((((min p.length 120:Nat):Int)).tdiv 4)=((min p.length 120/4:Nat):Int):=by
  rw[show(4:Int)=((4:Nat):Int)from rfl,<-Int.ofNat_tdiv,be (by omega)]
 have w2:wz (((min p.length 120/4:Nat):Int)*4)=((min p.length 120/4*4:Nat):Int):=by rw[be (by omega)];omega
 have kC:=λk=>kCutB qY ((min p.length 120/4*4:Nat):Int) (by omega) (by omega) k
 rw[aaK]at kC
 have hz4:[D.raw (u8 0#8),.raw (u8 0#8),.raw (u8 0#8),.raw (u8 0#8)]=bs [0#8,0#8,0#8,0#8]:=rfl
 have pJ:=Cq p
 have kJ:∀k,aK Ol (rows++[some ⟨L8,bs (p.take (min p.length 120/4*4))⟩,some ⟨L8,[.raw (u8 0#8),.raw (u8 0#8),.raw (u8 0#8),.raw (u8 0#8)]⟩,some ⟨.ref,[.sl L8 rows.length [] 0 (p.take (min p.length 120/4*4)).length false,.sl L8 (rows.length+1) [] 0 4 true]⟩]) k [.sl .ref (rows.length+2) [] 0 2 true]=_:=λk=>
  kJoin _ k (rows.length+2) 2 true [.sl L8 rows.length [] 0 (p.take (min p.length 120/4*4)).length false,.sl L8 (rows.length+1) [] 0 4 true] [p.take (min p.length 120/4*4),[0#8,0#8,0#8,0#8]] (cg rows _ 2) rfl (.cons (bd.own (bx rows _) _ rfl) (.cons (bd.own (cg rows _ 1) _ rfl) .nil)) (by simp) (by simp;omega)
 have my:[p.take (min p.length 120/4*4),[0#8,0#8,0#8,0#8]].flatten=lB p:=by simp[lB]
 rw[my]at kJ
 have kO:=λr ex R k (hl:live R r=some ⟨L8,bs (lB p)⟩)=>kOf R k v 0 (.sl L8 r [] 0 (lB p).length ex) (lB p) (bd.own hl _ rfl) (by omega)
 have KZ:ofS v 0 (lB p)=fb v p:=rfl
 simp only[KZ]at kO
 have hR:=II v p hv
 have AI:(fb v p).dg.length=32:=du _
 have kB:=λrows k=>RT rows k (fb v p) AI hR
 have mf:=fW
 have hz0:∀x,(bs uc).set 0 (.raw (u8 x))=bs (uc.set 0 x):=λx=>by rw[bs,bs,acP]
 simp only[↓ag,ah,simprocAttr,aQ,j7,w0,w1,w2,H.cu,kC,H.jo,kJ,H.of,kO,mf,H.bo,kB,H.s0,r1,hz0]
 have QJ:=oN (fb v p) AI
 have hlv:jb (s.v L)=hH s.t:=hW.lv
 have hpn:=hW.pn EX
 refine sign_run C1 hL (hS.push _) hW.ok hW.o (c:=D6 v) (m:=cG (fb v p)) (by rw[D6,abb];rfl) (.inr ⟨_,false,by rw[QJ],cg rows _ 5⟩) (by omega) (by rw[hlv];exact EX) (by omega) λaa dl' r' g1 g2 g3 g4 g5 g6=>?_
 have e3:=g4 _ _ (cg rows _ 3) (MM hS (by omega))
 have e4:=g4 _ _ (cg rows _ 4) (MM hS (by omega))
 have hsl':(gW (s.v L) s.nx (D6 v) (cG (fb v p))).length=44+(32*pT s.o.toNat+32*hT s.t.toNat):=by
  rw[Ca hW.ok (by rw[hlv];exact EX) (D6 v) (cG (fb v p)) (by rw[D6,abb];rfl),hpn,acN]
  rfl
 have ht9:hT s.t.toNat<=10:=hW.t10
 have hp9:=pT_le s.o.toNat
 have kI:=λk=>kImage aa k (fb v p) _ _ (gW (s.v L) s.nx (D6 v) (cG (fb v p))) (lB p) AI (bd.own (ex:=false) g2 _ rfl) (bd.own (ex:=false) e3 _ rfl) (by omega) (by omega) (by
  simp only[qN,hR,acz,aav,aaA]
  exact⟨rfl,by omega⟩)
 rw[hsl']at kI
 have hpn':44+32*pT s.o.toNat+32*iH (s.v L) s.nx.toNat=44+32*pT s.o.toNat+32*hT s.t.toNat:=by rw[hpn];rfl
 simp only[↓ag,ah,simprocAttr,aQ,e4,hpn',H.im,kI]
 rw[aax]at g6
 refine hk _ dl' aa.length _ (g1.push _) rfl (bx aa _) (by omega) (λq row hq he=>aj (g4 q row (aj hq _) he) _) λq ex n hd=>?_
 have:=g5 q ex n hd
 rw[aax]at this
 omega
def sl8:M7:=List.replicate 8 (0,uc)
def xM:List (BitVec 8):=List.replicate 8192 0#8
theorem ram0_len:xM.length=8192:=aaV ..
def pt0:D:= .agg (.ar 64 L8) (List.replicate 64 (.raw (u8 0#8)))
theorem WW(C:aX){rows:Rows}{K:D->Rows->Prop}(hk:K (.ptr we rows.length [0]) (rows++[some ⟨we,[gD sl8]⟩])):aG C 0 qs qq [] rows K:=by
 refine ae rfl ?_
 unfold qq qs
 have zs:List.replicate 8 (D.agg SPl [.raw (it 0),.agg (.ar 32 L8) (bs uc)])=sl8.map plD:=rfl
 have sf:D.fits (.agg we [.agg (.ar 8 SPl) (sl8.map plD),.raw (.bool false),.raw (.bool false)]) we=true:=rfl
 simp only[eG,zs]
 simp only[↓ag,ah,simprocAttr,aQ,sf]
 exact hk
theorem WX(C:aX){rows:Rows}{f q:Nat}{K:D->Rows->Prop}(hk:K (.ptr mB rows.length [0]) (rows++[some ⟨mB,[wc 0 xM pt0 f q]⟩])):aG C 2 ij ii [.ptr SF f [0],.ptr Kt q [0]] rows K:=by
 refine ae rfl ?_
 unfold ii ij
 have z1:List.replicate 8192 (D.raw (u8 0#8))=bs xM:=by rw[bs,xM,List.map_replicate]
 have z2:D.agg (.ar 64 L8) (List.replicate 64 (.raw (u8 0#8)))=pt0:=rfl
 have sf:∀l,D.fits (.agg mB l) mB=true:=λ_=>rfl
 rw[z1]
 rw[z2]
 simp only[↓ag,ah,simprocAttr,aQ,sf]
 exact hk
structure EnC (C:aX):Prop where
 s0:C.fn 128=none
 s1:∃C1,C.dO 128=some (aG C1 0 qs qq)
 ms:C.fn 129=some It
theorem enew_run(C:aX)(H:EnC C){rows:Rows}{K:D->Rows->Prop}(hk:K (.ptr PR (rows.length+1) [0]) (rows++[some ⟨we,[gD sl8]⟩,some ⟨PR,[.agg PR [.ptr we rows.length [0],iJ zR,.agg (.ar 32 L8) (bs uc),.raw (it 0)]]⟩])):aG C 0 mV mU [] rows K:=by
 refine ae rfl ?_
 unfold mU mV
 obtain⟨C1,r1⟩:=H.s1
 have kM:=λrows k=>kMsNew rows k
 have sf:∀l,D.fits (.agg PR l) PR=true:=λ_=>rfl
 have mf:(iJ zR).fits SMea=true:=rfl
 simp only[eG]
 simp only[↓ag,ah,simprocAttr,aQ,H.s0,r1]
 refine WW C1 ?_
 simp only[↓ag,ah,simprocAttr,aQ,H.ms,kM,sf,mf]
 exact hk
structure NmC (C:aX):Prop where
 s0:C.fn 64=none
 s1:∃C1,C.dO 64=some (aG C1 2 ij ii)
 e0:C.fn 65=none
 e1:∃C1,C.dO 65=some (aG C1 0 mV mU)/\EnC C1
 p0:C.fn 67=none
 p1:∃C1,C.dO 67=some (aG C1 0 uB uA)
 co:C.fn 66=some Iz
theorem nm_run(C:aX)(H:NmC C){rows:Rows}{f m q a w:Nat}{x:List (BitVec 8)}{c:kY}(hF:dw rows f m x)(hx:x.length=10240)(hc:iB rows q a w c){K:D->Rows->Prop}
  (hk:∀aa L,bO rows aa->L.f=f->L.m=m->L.q=q->L.a=a->L.w=w->(∀x∈[L.M,L.s,L.e,L.sl],rows.length<=x)->gC aa L ⟨0,xM,x,c⟩->IA aa L zR sl8->K (.ptr jN L.M [0]) aa):
  aG C 2 eT eS [.ptr SF f [0],.ptr Kt q [0]] rows K:=by
 refine ae rfl ?_
 unfold eS eT
 obtain⟨C1,r1⟩:=H.s1
 obtain⟨C2,r2,hE⟩:=H.e1
 obtain⟨C3,r3⟩:=H.p1
 have cf:∀a,(Iy a).fits Uw=true:=λ_=>rfl
 have sf:∀l,D.fits (.agg jN l) jN=true:=λ_=>rfl
 simp only[↓ag,ah,simprocAttr,aQ,H.s0,r1]
 refine WX C1 ?_
 simp only[↓ag,ah,simprocAttr,aQ,H.e0,r2]
 refine enew_run C2 hE ?_
 simp only[↓ag,ah,simprocAttr,aQ,H.co,kCoreN,cf,H.p0,r3,mT,uA,uB,sf]
 exact hk _ ⟨rows.length+4,rows.length,rows.length+2,rows.length+1,f,m,q,a,w⟩ (bO.app _ _) rfl rfl rfl rfl rfl (by simp)
  ⟨⟨_,_,cg rows _ 4⟩,⟨pt0,bx rows _⟩,ram0_len,hF.push _,hx,hc.push _⟩ ⟨⟨_,_,cg rows _ 2⟩,cg rows _ 1,rfl,rfl⟩
theorem Pq(C:aX){rows:Rows}{K:D->Rows->Prop}(hk:K (.ptr lc rows.length [0]) (rows++[some ⟨lc,[lz Su]⟩])):aG C 0 lV lU [] rows K:=by
 refine ae rfl ?_
 unfold lU lV
 have sf:∀l,D.fits (.agg lc l) lc=true:=λ_=>rfl
 simp only[-List.reduceReplicate,xH]
 simp only[↓ag,ah,simprocAttr,aQ,sf]
 exact hk
end iZ
end Go.Am
namespace Go.Am
namespace iZ
open Go.Am.F
theorem D8(x:List Wd)(P Q:List Wr):∀n,n<=P.length->kZ x (P++Q) n=kZ x P n
 |0,_=>rfl
 |n+1,h=>by
  rw[kZ,kZ,D8 x P Q n (by omega),aaQ (by omega)]
def xP(x:List Wd)(f:Nat)(l:List (BitVec 32)):Nat->List Wd
 |0=>x
 |n+1=>match(xP x f l n)[f+n]? with
  |some o=>(xP x f l n).set (f+n) (o.1|||l.getD n 0#32,o.2)
  |none=>xP x f l n
theorem Cr(x:List Wd)(f:Nat)(l:List (BitVec 32)):∀n,(xP x f l n).length=x.length
 |0=>rfl
 |n+1=>by
  rw[xP]
  split
  ·rw[abb,Cr x f l n]
  ·exact Cr x f l n
theorem Ct(x:List Wd)(f:Nat)(l:List (BitVec 32))(k:Nat):∀n,k<f\/f+n<=k->(xP x f l n)[k]?=x[k]?
 |0,_=>rfl
 |n+1,h=>by
  rw[xP]
  split
  ·rw[abU (by omega),Ct x f l k n (by omega)]
  ·exact Ct x f l k n (by omega)
theorem or_not(a b:BitVec 32):a&&&~~~(a|||b)=0#32:=by
 ext i hi;simp;intro h;simp[h]
theorem or_self(a b:BitVec 32):a|||(a|||b)=a|||b:=by
 ext i hi;simp
theorem KR(x:List Wd)(f:Nat)(l:List (BitVec 32)):∀n,f+n<=x.length->RM x (qJ (x.map (·.1)) f l n)/\kZ x (qJ (x.map (·.1)) f l n) (qJ (x.map (·.1)) f l n).length=xP x f l n
 |0,_=>⟨λj p h=>by simp[qJ]at h,rfl⟩
 | n + 1, h => by
  obtain⟨h1,h2⟩:=KR x f l n (by omega)
  have hx:f+n<x.length:=by omega
  have ho:=Ct x f l (f+n) n (by omega)
  rw[aaw hx]at ho
  have hg:(x.map (·.1)).getD (f+n) 0#32=(x[f+n]).1:=by simp[List.getD,hx]
  have hs:xP x f l (n+1)=(xP x f l n).set (f+n) ((x[f+n]).1|||l.getD n 0#32,(x[f+n]).2):=by
   rw[xP,ho]
  rw[qJ,OH,hg,hs]
  generalize qJ (x.map (·.1)) f l n=P at*
  by_cases c:(x[f+n]).1|||l.getD n 0#32=(x[f+n]).1
  ·rw[aaM c,aa4,c]
   refine⟨h1,h2.trans ?_⟩
   have hl:f+n<(xP x f l n).length:=by rw[Cr];exact hx
   have hv:(xP x f l n)[f+n]=x[f+n]:=by rw[aaw hl]at ho;exact abe ho
   rw[show((x[f+n]).1,(x[f+n]).2)=x[f+n]from rfl,<-hv,List.set_getElem_self]
  ·rw[aaE c]
   have hlen:(P++[(f+n,(x[f+n]).1|||l.getD n 0#32)]).length=P.length+1:=by simp
   have hp:kZ x (P++[(f+n,(x[f+n]).1|||l.getD n 0#32)]) P.length=xP x f l n:=by rw[D8 _ _ _ _ (aaL _),h2]
   refine⟨λj p hj=>?_,?_⟩
   ·by_cases c2:j<P.length
    ·rw[aaQ c2]at hj
     obtain⟨o,g1,g2⟩:=h1 j p hj
     exact⟨o,by rw[D8 _ _ _ _ (by omega)];exact g1,g2⟩
    ·have hj2:=(ac4.1 hj).1
     have e:j=P.length:=by rw[hlen]at hj2;omega
     subst e
     rw[aaT (aaL _),acr]at hj
     cases hj
     exact⟨x[f+n],by rw[hp];exact ho,or_not _ _⟩
   ·rw[hlen,kZ,aaT (aaL _),acr,hp]
    simp only[abD,ho,or_self]
theorem orAt_w(x:List Wd)(f:Nat)(l:List (BitVec 32)):∀n,n<=l.length->f+n<=x.length->(∀k,f<=k->k<f+n->(x.map (·.1)).getD k 0#32=0#32)->(xP x f l n).map (·.1)=(x.map (·.1)).take f++l.take n++(x.map (·.1)).drop (f+n)
 |0,_,_,_=>by simp[xP]
 | n + 1, h1, h2, h3 => by
  have ih:=orAt_w x f l n (by omega) (by omega) λk a b=>h3 k a (by omega)
  have hx:f+n<x.length:=by omega
  have ho:=Ct x f l (f+n) n (by omega)
  rw[aaw hx]at ho
  have hz:=h3 (f+n) (by omega) (by omega)
  have hg:(x.map (·.1)).getD (f+n) 0#32=(x[f+n]).1:=by simp[List.getD,hx]
  rw[hg]at hz
  rw[xP,ho]
  simp only[hz,BitVec.zero_or,acP,ih]
  have ll:l.getD n 0#32=l[n]'(by omega):=by simp[List.getD,(by omega:n<l.length)]
  have t1:l.take (n+1)=l.take n++[l[n]'(by omega)]:=by rw[aa2 (by omega)]
  have t2:(x.map (·.1)).drop (f+n)=(x[f+n]).1::(x.map (·.1)).drop (f+(n+1)):=by
   rw[abF (by simpa using hx)]
   simp[acN]
  have e1:((x.map (·.1)).take f++l.take n).length=f+n:=by simp;omega
  rw[t1,t2,ll,acp _ _ (by rw[e1];exact aaL _),e1,acr]
  simp only[List.set_cons_zero,aaP,acI,abr]
theorem IJ(c:kY)(f:Nat)(l:List (BitVec 32))(h:f+l.length<=c.ws.length)(hz:∀k,f<=k->k<f+l.length->c.w.getD k 0#32=0#32):
  RM c.ws (jy c.w f l)/\(kZ c.ws (jy c.w f l) (jy c.w f l).length).length=c.ws.length/\(kZ c.ws (jy c.w f l) (jy c.w f l).length).map (·.1)=c.w.take f++l++c.w.drop (f+l.length):=by
 obtain⟨h1,h2⟩:=KR c.ws f l l.length h
 have h3:=orAt_w c.ws f l l.length (aaL _) h hz
 rw[aa6]at h3
 exact⟨h1,by rw[show jy c.w f l=qJ (c.ws.map (·.1)) f l l.length from rfl,h2,Cr],by rw[show jy c.w f l=qJ (c.ws.map (·.1)) f l l.length from rfl,h2];exact h3⟩
theorem lifeW:∀m,m<4->ES (255#32<<<(8*m)) 4=m+1:=by decide
theorem cntW_ctr:∀n,n<256->Rs (rj n)=n:=by decide+kernel
theorem Sw(n:Nat)(d:List (BitVec 8))(h:d.length=4*n):lj (words n d)=d:=by
 have key:∀n,4*n<=d.length->lj (words n d)=d.take (4*n):=by
  intro n
  induction n with
  |zero=>intro _;rfl
  | succ n ih =>
   intro hn
   rw[As,Ou,ih (by omega),show 4*(n+1)=4*n+4 by omega,aeh]
   congr 1
   obtain⟨a,b,c,e,hq⟩:∃a b c e,(d.drop (4*n)).take 4=[a,b,c,e]:=by
    have hl:((d.drop (4*n)).take 4).length=4:=by rw[aaF,aaB];omega
    match(d.drop (4*n)).take 4,hl with
    |[a,b,c,e],_=>exact⟨a,b,c,e,rfl⟩
   rw[hq]
   simp only[lj,abw,adO,acn,acx,aa4]
   exact Zm a b c e
 rw[key n (by omega),aay (by omega)]
def chpP(c:kY)(f:Nat)(l:List (BitVec 32)):kY:=⟨kZ c.ws (jy c.w f l) (jy c.w f l).length,c.e,c.s⟩
def FJ(bi:List (BitVec 8)):List (BitVec 32):=words 14 bi++words 4 idL
theorem xQ(bi:List (BitVec 8)):(FJ bi).length=18:=by simp[FJ,fA]
def MN(bi:List (BitVec 8)):kY:=chpP uM 9 (FJ bi)
def Sx(bi:List (BitVec 8))(n:Nat):kY:=chpP (MN bi) 1 (rj n)
def xR(bi:List (BitVec 8))(n m:Nat):kY:=chpP (Sx bi n) 0 [255#32<<<(8*m)]
theorem Pr{c:kY}{f:Nat}{l:List (BitVec 32)}(h:f+l.length<=c.ws.length)(hz:∀k,f<=k->k<f+l.length->c.w.getD k 0#32=0#32):(chpP c f l).ws.length=c.ws.length:=(IJ c f l h hz).2.1
theorem Sy{c:kY}{f:Nat}{l:List (BitVec 32)}(h:f+l.length<=c.ws.length)(hz:∀k,f<=k->k<f+l.length->c.w.getD k 0#32=0#32):(chpP c f l).w=c.w.take f++l++c.w.drop (f+l.length):=(IJ c f l h hz).2.2
theorem Sz:uM.w=List.replicate 64 0#32:=by simp[uM,kY.w]
theorem SA(k:Nat):uM.w.getD k 0#32=0#32:=by
 rw[Sz,aaD,acU]
 split<;>rfl
theorem xS:uM.ws.length=64:=by simp[uM]
theorem xT(bi:List (BitVec 8)):(MN bi).ws.length=64:=(Pr (by rw[xQ,xS];decide) λk _ _=>SA k).trans xS
theorem SB(bi:List (BitVec 8)):(MN bi).w=List.replicate 9 0#32++FJ bi++List.replicate 37 0#32:=by
 rw[MN,Sy (by rw[xQ,xS];decide) λk _ _=>SA k,xQ,Sz]
 rfl
theorem SC(bi:List (BitVec 8))(k:Nat)(h:k<9):(MN bi).w.getD k 0#32=0#32:=by
 rw[SB,aaD,aaP,aaQ (by simpa using h),acU,aaM h]
 rfl
theorem IK(bi:List (BitVec 8))(n:Nat):(Sx bi n).ws.length=64:=(Pr (by rw[ja,xT];decide) λk _ h=>SC bi k (by rw[ja]at h;omega)).trans (xT bi)
theorem MO(bi:List (BitVec 8))(n:Nat):(Sx bi n).w=0#32::(rj n++(FJ bi++List.replicate 37 0#32)):=by
 rw[Sx,Sy (by rw[ja,xT];decide) λk _ h=>SC bi k (by rw[ja]at h;omega),ja,SB]
 have e:(List.replicate 9 0#32++FJ bi++List.replicate 37 0#32).drop (1+8)=FJ bi++List.replicate 37 0#32:=by
  rw[aaP];exact adt (by simp)
 rw[e,aaP,aaP]
 rfl
theorem SD(bi:List (BitVec 8))(n m:Nat):(xR bi n m).w=255#32<<<(8*m)::(rj n++(FJ bi++List.replicate 37 0#32)):=by
 rw[xR,Sy (by rw[IK];exact abz rfl) λk _ h=>by
  have:k=0:=by simpa using h
  subst this
  rw[MO];rfl,MO]
 rfl
theorem KS(bi:List (BitVec 8))(n m:Nat)(h:m<4):dF (xR bi n m)=m+1:=by
 unfold dF
 rw[SD]
 exact lifeW m h
theorem IL(bi:List (BitVec 8))(n m:Nat)(h:n<256):gy (xR bi n m)=n:=by
 unfold gy
 rw[SD]
 have e:((255#32<<<(8*m)::(rj n++(FJ bi++List.replicate 37 0#32))).drop 1).take 8=rj n:=acV (ja n)
 rw[e,cntW_ctr n h]
 omega
theorem IM(bi:List (BitVec 8))(n m:Nat)(h:bi.length=56):gR (xR bi n m)=bi:=by
 unfold gR
 rw[SD]
 have e:((255#32<<<(8*m)::(rj n++(FJ bi++List.replicate 37 0#32))).drop 9).take 14=words 14 bi:=by
  rw[show(9:Nat)=8+1 from rfl,List.drop_succ_cons,adt (ja n),FJ,aaP]
  exact acV (fA 14 bi)
 rw[e,Sw 14 bi (by omega)]
end iZ
end Go.Am
namespace Go.Am
attribute [local congr] cN bP cO bQ bT ca bC bU bV cb bk cd bW cM
namespace iZ
open Go.Am.F
def D9:List (BitVec 8):=List.replicate 10240 255#8
noncomputable def nA(p0 p1:List (BitVec 8)):List (BitVec 8):=PP (PP D9 0 (p0.take 4096)) 4096 (p1.take 4096)
def z16L:List (BitVec 8):=List.replicate 16 0#8
theorem SE:List.replicate 16 (D.raw (u8 0#8))=bs z16L:=rfl
theorem z16_set:(bs z16L).set 0 (.raw (u8 2#8))=bs idL:=rfl
structure Cu (n:Nat) (rows R:Rows) (x:List (BitVec 8)) (c:kY):Prop where
 k:bO rows R
 f:dw R (n+3) (n+2) x
 c:iB R (n+6) (n+5) (n+4) c
theorem Cu.push{n:Nat}{rows R:Rows}{x:List (BitVec 8)}{c:kY}(h:Cu n rows R x c)(l:Rows):Cu n rows (R++l) x c:=⟨h.k.trans (bO.app _ _),h.f.push l,h.c.push l⟩
theorem Cu.wr{rows R R':Rows}{x y:List (BitVec 8)}{c:kY}(h:Cu rows.length rows R x c)(U:T7 R R' (rows.length+3) (rows.length+2) y):Cu rows.length rows R' y c:=
 ⟨λq row hq=>U.frame q row (h.k q row hq) (by have:=a9 hq;omega),U.fl,h.c.keep λp row hp hq=>U.frame p row hp (by omega)⟩
theorem Cu.pr{rows R R':Rows}{x:List (BitVec 8)}{c c':kY}(h:Cu rows.length rows R x c)(hc:iB R' (rows.length+6) (rows.length+5) (rows.length+4) c')(f:∀p row,live R p=some row->p≠rows.length+4->live R' p=some row):Cu rows.length rows R' x c':=by
 obtain⟨⟨e,g1⟩,g2⟩:=h.f
 exact⟨λq row hq=>f q row (h.k q row hq) (by have:=a9 hq;omega),⟨⟨e,f _ _ g1 (by omega)⟩,f _ _ g2 (by omega)⟩,hc⟩
structure LayC (C:aX):Prop where
 f0:C.fn 43=none
 f1:C.dO 43=some (aG CF 1 mj mi)
 o0:C.fn 44=none
 o1:∃C1 C2,C.dO 44=some (aG C1 0 tv tu)/\C1.fn 104=none/\C1.dO 104=some (aG C2 1 iG iF)
 cu:C.fn 17=some Ok
 w0:C.fn 45=none
 w1:C.dO 45=some (aG CF 3 dR dQ)
 ke:C.fn 46=some Md
 ct:C.fn 48=some Mc
 li:C.fn 49=some FX
 d0:C.fn 47=none
 d1:∃C1 C2 C3,C.dO 47=some (aG C1 2 lG lF)/\PrgC C3 C2 C1
 n0:C.fn 20=none
 n1:∃C1,C.dO 20=some (aG C1 2 eT eS)/\NmC C1
theorem Ps(C:aX)(H:LayC C){rows:Rows}{d s0 s1:D}{bi p0 p1:List (BitVec 8)}(n m:Nat)(hn:n<=255)(hm:m<4)(hd:∀R,bO rows R->bd R d bi)(hpub:bi.length=56)(h0:∀R,bO rows R->bd R s0 p0)(h1:∀R,bO rows R->bd R s1 p1)(l0:p0.length<=9223372036854775807)(l1:p1.length<=9223372036854775807)
  (hf0:s0.fits .ref=true)(hf1:s1.fits .ref=true){K:D->Rows->Prop}
  (hk:∀aa L,bO rows aa->(∀x∈[L.M,L.s,L.m,L.e,L.sl,L.q,L.w],rows.length<=x)->gC aa L ⟨0,xM,nA p0 p1,xR bi n m⟩->IA aa L zR sl8->K (.ptr jN L.M [0]) aa):
  aG C 4 tj tf [d,.agg (.ar 2 .ref) [s0,s1],.raw (it (n:Int)),.raw (it ((m+1:Nat):Int))] rows K:=by
 refine ae rfl ?_
 unfold tf tj
 obtain⟨C1,C2,o1,o2,o3⟩:=H.o1
 obtain⟨D1,D2,D3,dd,hP⟩:=H.d1
 obtain⟨N1,nn,hN⟩:=H.n1
 simp only[-List.reduceReplicate,SE]
 simp only[↓ag,ah,simprocAttr,aQ,H.f0,H.f1]
 have e40:(40:Int)=((40:Nat):Int):=rfl
 rw[e40]
 refine fnew_run 40 (by decide) ?_
 have hx0:D9.length=10240:=aaV ..
 rw[show List.replicate (256*40) 255#8=D9 from rfl]
 have hF0:dw (rows++[some ⟨.ar 2 .ref,[.agg (.ar 2 .ref) [s0,s1]]⟩,some ⟨L8,[.raw (u8 255#8)]⟩,some ⟨L8,bs D9⟩,some ⟨SF,[.agg SF [.sl L8 (rows.length+2) [] 0 10240 false]]⟩]) (rows.length+3) (rows.length+2) D9:=⟨⟨false,by rw[hx0];exact cg rows _ 3⟩,cg rows _ 2⟩
 have PQ:=bO.app rows [some ⟨.ar 2 .ref,[.agg (.ar 2 .ref) [s0,s1]]⟩,some ⟨L8,[.raw (u8 255#8)]⟩,some ⟨L8,bs D9⟩,some ⟨SF,[.agg SF [.sl L8 (rows.length+2) [] 0 10240 false]]⟩]
 have hsl1:=bx rows [some ⟨.ar 2 .ref,[.agg (.ar 2 .ref) [s0,s1]]⟩,some ⟨L8,[.raw (u8 255#8)]⟩,some ⟨L8,bs D9⟩,some ⟨SF,[.agg SF [.sl L8 (rows.length+2) [] 0 10240 false]]⟩]
 simp only[↓ag,ah,simprocAttr,aQ,H.o0,o1]
 refine aah C1 C2 o2 o3 λR2 Jw hC2=>?_
 have hsl2:=Jw _ _ hsl1
 have hI2:Cu rows.length rows R2 D9 uM:=by
  obtain⟨⟨e,g1⟩,g2⟩:=hF0
  exact⟨PQ.trans Jw,⟨⟨e,Jw _ _ g1⟩,Jw _ _ g2⟩,by simpa using hC2⟩
 clear hC2 hF0 PQ hsl1
 have kC0:=λk=>kCutB (h0 R2 hI2.k) 4096 l0 (by decide) k
 simp only[↓ag,ah,simprocAttr,aQ,hsl2]
 refine gL 3 ?_
 simp only[↓ag,ah,simprocAttr,aQ,H.cu,kC0,H.w0,H.w1]
 refine writeA (hI2.f.push _) (bx R2 _) (by rw[hx0];decide) (by rw[aaF];omega) 0 λR3 U3=>?_
 have hI3:=(hI2.push _).wr U3
 have kC1:=λk=>kCutB (h1 R3 hI3.k) 4096 l1 (by decide) k
 simp only[↓ag,ah,simprocAttr,aQ,H.cu,kC1,H.w0,H.w1]
 have qV:(PP D9 0 (p0.take 4096)).length=10240:=by rw[Ce];exact hx0
 refine writeA (hI3.f.push _) (bx R3 _) (by rw[qV];decide) (by rw[aaF];omega) 4096 λR4 U4=>?_
 have hI4:Cu rows.length rows R4 (nA p0 p1) uM:=(hI3.push _).wr U4
 have kK:=λk=>kToKey (hI4.c.rd) xS (hd R4 hI4.k) hpub (by decide) (λw hw=>by rw[Sz]at hw;exact abI (ab9 hw)) k
 simp only[-List.reduceReplicate,↓ag,ah,simprocAttr,aQ,z16_set,H.ke,kK,H.d0,dd]
 have Kk:=IJ uM 9 (FJ bi) (by rw[xQ,xS];decide) λk _ _=>SA k
 refine Mj D1 D2 D3 hP (hI4.push _).c (bx R4 _) rfl (abg (tN _ _ _ _) (by rw[xQ];decide)) Kk.1 λR5 hC5 hF5=>?_
 have hI5:Cu rows.length rows R5 (nA p0 p1) (MN bi):=(hI4.push _).pr hC5 hF5
 have lf0:dF (Sx bi n)=0:=by unfold dF;rw[MO];show ES 0#32 4=0;decide
 have ct0:gy (MN bi)<=n:=by
  unfold gy
  have e:((MN bi).w.drop 1).take 8=List.replicate 8 0#32:=by
   rw[SB,aaP,adl (by simp),aco (by simp)]
   rfl
  rw[e]
  exact abg (by decide) (acv n)
 have kN:=λk=>kToCtr (hI5.c.rd) (xT bi) n hn ct0 k
 simp only[↓ag,ah,simprocAttr,aQ,H.ct,kN,H.d0,dd]
 have tZ:=IJ (MN bi) 1 (rj n) (by rw[ja,xT];decide) λk _ h=>SC bi k (by rw[ja]at h;omega)
 refine Mj D1 D2 D3 hP (hI5.push _).c (bx R5 _) rfl (abg (tN _ _ _ _) (by rw[ja];decide)) tZ.1 λR6 hC6 hF6=>?_
 have hI6:Cu rows.length rows R6 (nA p0 p1) (Sx bi n):=(hI5.push _).pr hC6 hF6
 have kL:=λk=>kToLife (hI6.c.rd) (IK bi n) m hm (by rw[lf0];omega) k
 simp only[↓ag,ah,simprocAttr,aQ,H.li,kL,H.d0,dd]
 have hp3:=IJ (Sx bi n) 0 [255#32<<<(8*m)] (by rw[IK];exact abz rfl) λk _ h=>by
  have:k=0:=by simpa using h
  subst this
  rw[MO];rfl
 refine Mj D1 D2 D3 hP (hI6.push _).c (bx R6 _) rfl (abg (tN _ _ _ _) (abz rfl)) hp3.1 λR7 hC7 hF7=>?_
 have hI7:Cu rows.length rows R7 (nA p0 p1) (xR bi n m):=(hI6.push _).pr hC7 hF7
 simp only[↓ag,ah,simprocAttr,aQ,H.n0,nn]
 have zY:(nA p0 p1).length=10240:=by rw[nA,Ce];exact qV
 refine nm_run N1 hN hI7.f zY hI7.c λR8 L hK8 e1 e2 e3 e4 e5 e6 hM hE=>?_
 simp only[↓ag,ah,simprocAttr,aQ]
 have hgr:rows.length<=R7.length:=by
  have:=hI7.f.lt.2
  omega
 simp only[aaW,abE,adb,adX,forall_eq]at e6
 exact hk R8 L (hI7.k.trans hK8) (by simp only[aaW,abE,adb,adX,forall_eq];omega) hM hE
end iZ
end Go.Am
namespace Go.Am
namespace iZ
open Go.Am.F
theorem WY{q r:List (BitVec 8)}(h:(cV q).2.2.2=0):cV (q++r)=cV q:=by
 have h50:=Ui h
 obtain⟨-,s,hs,-,-,-,hn⟩:=DY h
 have t48:(q++r).take 48=q.take 48:=aco (by omega)
 have g:∀i,i<q.length->(q++r).getD i 0#8=q.getD i 0#8:=λi hi=>by
  rw[aaD,aaD,aaQ hi]
 have hsg:fD (q++r)=fD q:=by unfold fD;rw[g 48 (by omega),g 49 (by omega)]
 revert h hs
 unfold cV
 rw[t48,hsg,aax]
 cases d1:decide (q.length<50)
 ·have e1:decide (q.length+r.length<50)=false:=aaX (by omega)
  rw[e1]
  cases d2:decide ((dj (q.take 48)).2≠0)
  ·cases d3:decide ((q.length:Int)<50+fD q+(dj (q.take 48)).1.s)
   ·intro _ hs
    simp only[aaR]at hs⊢
    have d3:=of_decide_eq_false d3
    have e3:decide (((q.length+r.length:Nat):Int)<50+fD q+(dj (q.take 48)).1.s)=false:=aaX (by omega)
    rw[e3,hs,aaK]
    simp only[aaR]
    have f1:((q++r).drop 50).take (fD q)=(q.drop 50).take (fD q):=by
     rw[adl (by omega),aco (by rw[aaB];omega)]
    have f2:((q++r).drop (50+fD q)).take s=(q.drop (50+fD q)).take s:=by
     rw[adl (by omega),aco (by rw[aaB];omega)]
    rw[f1,f2]
   ·intro h;simp at h
  ·intro h
   simp only[aaR,aaY]at h
   exact absurd h (ac9 d2)
 ·intro h;simp at h
def ni(n:Nat):List (BitVec 8):=List.replicate n 255#8
theorem IN(n:Nat)(p:List (BitVec 8))(h:p.length<=n):clears (ni n) p:=by
 rw[RN]
 simp only[Mo,abc,adk,aaA]
 intro i hi
 have:(ni n).getD i 0#8=255#8:=by
  rw[ni,aaD,acU,aaM (by omega)];rfl
 rw[this]
 have e: ~~~(255#8)=0#8:=rfl
 rw[e,BitVec.and_zero]
theorem MP(p0 p1:List (BitVec 8)):nA p0 p1=p0.take 4096++ni (4096-(p0.take 4096).length)++(p1.take 4096++ni (6144-(p1.take 4096).length)):=by
 have h0:(p0.take 4096).length<=4096:=acj ..
 have h1:(p1.take 4096).length<=4096:=acj ..
 unfold nA
 generalize p0.take 4096=q0 at*
 generalize p1.take 4096=q1 at*
 have hf:D9=ni 10240:=rfl
 have l1:∀n,(ni n).length=n:=λn=>aaV ..
 have w0:=wr_ok (x:=D9) (p:=q0) (a:=0) (by rw[hf,l1];omega) (by rw[abu,hf];exact IN _ _ (by omega))
 have s0:a7 D9 0 q0=q0++ni (4096-q0.length)++ni 6144:=by
  rw[a7,hf,acq,abr,abO,ni,ad5,aaP,ni,ni,ab8]
  congr 2
  omega
 have e0:PP D9 0 q0=q0++ni (4096-q0.length)++ni 6144:=w0.2.trans s0
 rw[e0]
 have l2:(q0++ni (4096-q0.length)).length=4096:=by rw[aax,l1];omega
 have w1:=wr_ok (x:=q0++ni (4096-q0.length)++ni 6144) (p:=q1) (a:=4096) (by rw[aax,l2,l1];omega) (by rw[adt l2];exact IN _ _ (by omega))
 refine w1.2.trans ?_
 have dr:(ni 6144).drop q1.length=ni (6144-q1.length):=ad5 ..
 rw[a7,acV l2,<-aby,adt l2,dr,aaP]
theorem lay_sub0(p0 p1:List (BitVec 8)):sub (nA p0 p1) 0 4096=p0.take 4096++ni (4096-(p0.take 4096).length):=by
 have h0:(p0.take 4096).length<=4096:=acj ..
 rw[MP,sub,abu]
 exact acV (by rw[aax,ni,aaV];omega)
theorem lay_sub1(p0 p1:List (BitVec 8)):sub (nA p0 p1) 4096 4096=p1.take 4096++ni (4096-(p1.take 4096).length):=by
 have h0:(p0.take 4096).length<=4096:=acj ..
 have h1:(p1.take 4096).length<=4096:=acj ..
 rw[MP,sub,adt (by rw[aax,ni,aaV];omega)]
 have:ni (6144-(p1.take 4096).length)=ni (4096-(p1.take 4096).length)++ni 2048:=by
  rw[ni,ni,ni,ab8];congr 1;omega
 rw[this,<-aaP]
 exact acV (by rw[aax,ni,aaV];omega)
theorem lay_hi(p0 p1:List (BitVec 8))(a n:Nat)(h:8192<=a)(hn:a+n<=10240):sub (nA p0 p1) a n=ni n:=by
 have h0:(p0.take 4096).length<=4096:=acj ..
 have h1:(p1.take 4096).length<=4096:=acj ..
 rw[MP,sub]
 have e:ni (6144-(p1.take 4096).length)=ni (a-4096-(p1.take 4096).length)++ni (10240-a):=by
  rw[ni,ni,ni,ab8];congr 1;omega
 rw[e,<-aaP,<-aaP,adt (by simp only[aax,ni,aaV];omega),ni,adB,ni]
 congr 1
 omega
theorem MQ(p0 p1:List (BitVec 8)):(nA p0 p1).length=10240:=by rw[nA,Ce,Ce];exact aaV ..
theorem Pt(p0 p1:List (BitVec 8))(e:Bool):cA (some (nA p0 p1,e))=(cS,-1):=by
 rw[qO _ e (by rw[MQ];decide)]
 unfold RY
 rw[aaE (by rw[MQ];decide),lay_hi _ _ _ _ (by decide) (by decide),lay_hi _ _ _ _ (by decide) (by decide)]
 have:(bZ (ni 32)).2=false:=by decide+kernel
 rw[this]
 rfl
theorem imgOk_T(v:Nat)(p sig:List (BitVec 8))(hv:v<=255)(hs:sig.length<=65535):qN (fb v p) sig (lB p)=true:=by
 simp only[qN,II v p hv,acz,aav,aaA]
 exact⟨rfl,hs⟩
theorem Cv{x bi sig p:List (BitVec 8)}{least:Int}{j v n:Nat}(hv:v<=255)(hs:sig.length<=65535)(hx:sub x (4096*j) 4096=jM (fb v p) sig (lB p)++ni n)(Pu:vX bi (cG (fb v p)) sig=0):
  dG x bi least j=(if(v:Int)<least then 15 else 0)/\iI x j=(fb v p,sig,lB p,0):=by
 have AI:(fb v p).dg.length=32:=du _
 have hr:=read_img (fb v p) sig (lB p) AI (imgOk_T v p sig hv hs)
 have Xx:cV (jM (fb v p) sig (lB p)++ni n)=(fb v p,sig,lB p,0):=by rw[WY (by rw[hr]),hr]
 have QJ:=oN (fb v p) AI
 have ht:(jM (fb v p) sig (lB p)++ni n).take 48=cG (fb v p):=by
  rw[jM,aaP]
  exact acV QJ
 unfold dG iI FE
 rw[hx,Xx,ht]
 refine⟨?_,rfl⟩
 have hd:eu (lB p)=(fb v p).dg:=rfl
 have hvv:(fb v p).v=(v:Int):=rfl
 simp only[Pu,hd,hvv,ne_eq,ada,ab1]
theorem look_ff{x bi:List (BitVec 8)}{least:Int}{j:Nat}(hx:sub x (4096*j) 4096=ni 4096):dG x bi least j≠0:=by
 have h:(cV (ni 4096)).2.2.2≠0:=by
  unfold cV
  have h1:(ni 4096).length=4096:=aaV ..
  have h2:(ni 4096).take 48=ni 48:=adB ..
  rw[h2,h1]
  have h3:decide ((dj (ni 48)).2≠0)=true:=by decide+kernel
  rw[aaX (by decide:¬4096<50),h3]
  exact ac9 h3
 unfold dG FE
 rw[hx,aaM h]
 exact h
theorem MR(q0 q1:List (BitVec 8))(h:q0.length<=4096):sub (nA q0 q1) (4096*0) 4096=q0++ni (4096-q0.length):=by
 have:=lay_sub0 q0 q1
 rwa [aay h]at this
theorem lay_at1(q0 q1:List (BitVec 8))(h:q1.length<=4096):sub (nA q0 q1) (4096*1) 4096=q1++ni (4096-q1.length):=by
 have:=lay_sub1 q0 q1
 rwa [aay h]at this
end iZ
end Go.Am
namespace Go.Am
attribute [local congr] cN bP cO bQ bT ca bC bU bV cb bk cd bW cM
namespace iZ
open Go.Am.F
def id1:List (BitVec 8):=z16L.set 0 1#8
theorem UF:(bs z16L).set 0 (.raw (u8 1#8))=bs id1:=rfl
def qS:List (BitVec 8):=uc.set 0 1#8
theorem WZ:(bs uc).set 0 (.raw (u8 1#8))=bs qS:=rfl
def W0(aI:List (BitVec 8)):Sg:=tU 3758096385#32 3#32 id1 aI (lu 3#32 id1 aI (hH 3758096385#32))
theorem img_len{s:lq}(hW:Whole s)(ho:s.o=3#32)(ht:s.t=3758096385#32){q:BitVec 32}(hq:q.toNat<hH s.t)(v:Nat)(p c m:List (BitVec 8))(hc:c.length=32):(gW s q c m).length=2220/\(jM (fb v p) (gW s q c m) (lB p)).length<=2400:=by
 have h1:=Ca hW.ok (by rw[hW.lv];exact hq) c m hc
 rw[hW.pn hq,ho,ht]at h1
 have h2:(gW s q c m).length=2220:=h1
 have h3:=oN (fb v p) (du _)
 have h4:=Cq p
 refine⟨h2,?_⟩
 rw[jM,aax,aax,aax,h2,h3,h4]
 show 48+(2+_)<=2400
 omega
theorem IP{s:lq}(h:Whole s){q:BitVec 32}(hq:q.toNat<hH s.t)(c m:List (BitVec 8))(hc:c.length=32):vX (ee s) m (gW s q c m)=0:=by
 rw[ver_own h h rfl rfl rfl hq c m hc,aaM rfl]
theorem work_cho{S:yT}{bi sig nj:List (BitVec 8)}(hx:S.x=nA nj [])(hc:S.c=xR bi 0 1)(hp:bi.length=56)(hs:sig.length<=65535)(SH:jM (fb 1 []) sig (lB [])=nj)(hl:nj.length<=4096)(Pu:vX bi (cG (fb 1 [])) sig=0):
  lA S=⟨0,cS,false,false,0⟩/\XB S=false/\(iI S.x 0).1.s=4:=by
 have hf:dF S.c=2:=(abt dF hc).trans (KS bi 0 1 (by decide))
 have hc0:gy S.c=0:=(abt gy hc).trans (IL bi 0 1 (by decide))
 have hk:gR S.c=bi:=(abt gR hc).trans (IM bi 0 1 hp)
 have Dn:=Cv (x:=nA nj []) (bi:=bi) (sig:=sig) (p:=[]) (least:=((0:Nat):Int)) (j:=0) (v:=1) (n:=4096-nj.length) (by decide) hs (by rw[SH];exact MR nj [] hl) Pu
 rw[<-hx]at Dn
 have e0:dG S.x bi ((0:Nat):Int) 0=0:=Dn.1
 have hr:cA (some (S.x,false))=(cS,-1):=by rw[hx];exact Pt _ _ _
 have Pv:lA S=⟨0,cS,false,false,0⟩:=by
  unfold lA
  rw[hf,hc0,hk,hr,e0]
  generalize dG S.x bi ((0:Nat):Int) 1=y
  simp[ny,FG,cS]
 refine⟨Pv,by unfold XB;rw[Pv];rfl,?_⟩
 rw[Dn.2]
 rfl
structure WkC (C:aX):Prop where
 nw0:C.fn 8=none
 nw1:∃C1,C.dO 8=some (aG C1 4 td tc)/\LmC C1
 pu:C.fn 10=some xF
 im0:C.fn 11=none
 im1:∃C1,C.dO 11=some (aG C1 4 mh mg)/\ImC C1
 la0:C.fn 9=none
 la1:∃C1,C.dO 9=some (aG C1 4 tj tf)/\LayC C1
 bn0:C.fn 14=none
 bn1:∃C1,C.dO 14=some (aG C1 0 lV lU)
 rn0:C.fn 15=none
 rn1:∃C1 C2,C.dO 15=some (aG C1 3 gf bX)/\XA C1 C2
theorem W2(C:aX)(H:WkC C){rows:Rows}{K:D->Rows->Prop}(hk:∀aa,bO rows aa->K (.raw (.bool true)) aa):aG C 0 jY jX [] rows K:=by
 refine ae rfl ?_
 unfold jX jY
 obtain⟨C1,n1,hL⟩:=H.nw1
 obtain⟨C2,i1,hI⟩:=H.im1
 obtain⟨C3,l1,hY⟩:=H.la1
 obtain⟨C4,b1⟩:=H.bn1
 obtain⟨C5,C6,r1,hR⟩:=H.rn1
 simp only[-List.reduceReplicate,SE,eG]
 simp only[-List.reduceReplicate,↓ag,ah,simprocAttr,aQ,UF,WZ,H.nw0,n1]
 refine Pn C1 hL (t:=3758096385#32) (o:=3#32) (id:=id1) (aI:=qS) (by decide) (by decide) (by decide) (by decide) (by decide) λR1 A hS PQ e1 e2 e3 e4 e5=>?_
 have hW:=KQ hS (by decide) (by decide) (by decide) (by decide) (by decide)
 change nO R1 A (W0 qS)at hS
 change Whole ((W0 qS).v A)at hW
 have kP:=λk=>OM R1 k _ _ hS.rd hW.ok
 simp only[-List.reduceReplicate,↓ag,ah,simprocAttr,aQ,H.pu,kP,H.im0,i1]
 have E1:=hS.push [some ⟨L8,bs (ee ((W0 qS).v A))⟩]
 refine D7 C2 hI (d:= .raw (.slice none 0 0)) (p:=[]) 1 (by decide) E1 hW (by decide) (by decide) (λmore=>eB.to (.inl ⟨rfl,rfl⟩)) rfl (by decide) λR2 dl r n hS3 hn hr AJ hel qZ=>?_
 simp only[-List.reduceReplicate,↓ag,ah,simprocAttr,aQ,H.la0,l1]
 have pJ:(ee ((W0 qS).v A)).length=56:=pR hW.ok
 have hpu:=hel _ _ (bx R1 [some ⟨L8,bs (ee ((W0 qS).v A))⟩]) (MM hS (aaL _))
 have M3:(W0 qS).nx.toNat<hH ((W0 qS).v A).t:=(by decide:(0#32).toNat<hH 3758096385#32)
 have hlen:=img_len hW rfl rfl M3 1 [] (D6 1) (cG (fb 1 [])) (by decide)
 have Pu:=IP hW M3 (D6 1) (cG (fb 1 [])) (by decide)
 change vX (ee ((W0 qS).v A)) (cG (fb 1 [])) (gW ((W0 qS).v A) (W0 qS).nx (D6 1) (cG (fb 1 [])))=0 at Pu
 generalize hsig:gW ((W0 qS).v A) (W0 qS).nx (D6 1) (cG (fb 1 []))=sig at*
 generalize hpub:ee ((W0 qS).v A)=bi at*
 generalize SH:jM (fb 1 []) sig (lB [])=nj at*
 refine Ps C3 hY (bi:=bi) (p0:=nj) (p1:=[]) 0 1 (by decide) (by decide) (λR hK=>bd.own (hK _ _ hpu) _ pJ.symm) pJ (λR hK=>bd.own (hK _ _ hr) _ hn) (λR hK=>eB.to (.inl ⟨rfl,rfl⟩)) (by omega) (by decide) rfl rfl λR3 L hK3 hMx hM hE=>?_
 simp only[↓ag,ah,simprocAttr,aQ,H.bn0,b1]
 refine Pq C4 ?_
 simp only[↓ag,ah,simprocAttr,aQ,H.rn0,r1]
 generalize hx:nA nj []=X at hM
 generalize hc:xR bi 0 1=ch at hM
 generalize xM=rm at hM
 obtain⟨Pv,EX,hs4⟩:=work_cho (S:=⟨0,rm,X,ch⟩) hx.symm hc.symm pJ (by omega) SH (by omega) Pu
 have hRd:ID (R3++[some ⟨lc,[lz Su]⟩]) L ⟨0,rm,X,ch⟩ R3.length Su zR sl8:=⟨hM.keep λq row hq _=>aj hq _,hE.keep λq row hq _=>aj hq _,bx R3 [some ⟨lc,[lz Su]⟩]⟩
 refine Pm hR (most:=100) (by decide) (by decide) hRd rfl rfl rfl (λh=>by rw[Pv]at h;exact absurd h (by decide)) λj z hj hi he hz R4 c' B' hw hF hM4 hB4 p1 p2 p3=>?_
 rw[Pv]at hi
 have hj0:j=0:=by have:(0:Int)=(j:Int):=hi;omega
 subst hj0
 have hz4:z=4:=by rw[hs4]at hz;omega
 subst hz4
 rw[EX]
 simp only[cC,lz,p1]at hB4
 simp only[↓ag,ah,simprocAttr,aQ,hB4]
 refine hk _ λq row hq=>?_
 have hl:=a9 hq
 have wG:=a9 (PQ _ _ hq)
 have g1:=hel _ _ (aj (PQ _ _ hq) [some ⟨L8,bs bi⟩]) ⟨by omega,by omega,by omega,by omega,λex n e=>by rw[e5]at e;cases e⟩
 have g2:=hK3 _ _ g1
 simp only[aaW,abE,adb,adX,forall_eq]at hMx
 have hg:=a9 g2
 have Gu:=a9 hpu
 refine hF _ _ (aj g2 _) ?_
 simp only[Ly.all,aaW,abE,adb,aeF]
 omega
theorem SI(s:Sg)(L L':v9)(c m:List (BitVec 8)):ee ((s.next c m).v L')=ee (s.v L):=rfl
theorem nO.SK{rows:Rows}{L:v9}{s:Sg}(h:nO rows L s){q:Nat}{t:Sh}{l:List D}(hq:live rows q=some ⟨t,l⟩)(ht:t≠fC/\t≠ .ar 32 L8/\t≠B9/\t≠EV/\t≠jL):xO rows L s q:=
 ⟨(dz h.a hq ht.1.symm).symm,(dz h.n hq ht.2.1.symm).symm,(dz h.m hq ht.2.2.1.symm).symm,(dz h.t hq ht.2.2.2.1.symm).symm,gQ h.l hq ht.2.2.2.2⟩
structure RlC (C:aX):Prop where
 k:WkC C
 wk0:C.fn 7=none
 wk1:∃C1,C.dO 7=some (aG C1 0 jY jX)/\WkC C1
 nx0:C.fn 13=none
 nx1:C.dO 13=none
 nx2:C.P1 13=some Co
 j0:C.fn 12=none
 j1:∃C1,C.dO 12=some (aG C1 3 fJ fI)/\DoC C1
 ri:C.fn 16=some pD
abbrev PW:Sh:= .cons .ref (.cons .ref (.cons LI .nil))
def E2(f q:Nat)(r:Int):D:= .agg PW [.ptr SF f [0],.ptr Kt q [0],.raw (it r)]
theorem Pw(f q:Nat)(r:Int):(E2 f q r).fits PW=true:=rfl
def pcV(z:(List (BitVec 8)×Bool)×kY×Int):D:= .agg PW [vY (some z.1),pQ z.2.1,.raw (it z.2.2)]
theorem pcV_inj(x y:(List (BitVec 8)×Bool)×kY×Int)(h:pcV x=pcV y):x=y:=by
 obtain⟨x1,x2,x3⟩:=x
 obtain⟨y1,y2,y3⟩:=y
 unfold pcV at h
 injection h with _ h
 injection h with h1 h
 injection h with h2 h
 injection h with h3 _
 have h1:=abe (uN _ _ h1)
 have h2:=B4 _ _ h2
 injection h3 with h3
 injection h3 with _ h3
 simp only at h1 h2 h3
 rw[h1,h2,h3]
noncomputable def SL:Fn:=mc (bE pcV) (λz=>decide (z.2.2=0\/z.2.2=1)) λz=>(.raw (it (1-z.2.2)),[])
theorem tgt_ok(C:aX)(hC:aJ C P):aP C.aY P 79 (Fn.run SL):=by
 refine aH (vQ C hC) λds rows r h=>?_
 obtain⟨d,z,rfl,rfl,hd,hp,rfl⟩:=aZ h
 cases aF hd
 obtain⟨⟨x,e⟩,c,i⟩:=z
 simp only[aaA]at hp
 refine⟨rfl,ae rfl ?_⟩
 clear h hd
 unfold nG nH
 have n1:GW (vY (some (x,e))) (.raw (.pointer none))=some false:=rfl
 have n2:GW (pQ c) (.raw (.pointer none))=some false:=rfl
 rcases hp with hp|hp<;>subst hp
 ·have hf:(D.agg PW [vY (some (x,e)),pQ c,.raw (it 0)]).fits PW=true:=rfl
  simp only[pcV,↓ag,ah,simprocAttr,hf,n1,n2]
  exact .val _ rfl
 ·have hf:(D.agg PW [vY (some (x,e)),pQ c,.raw (it 1)]).fits PW=true:=rfl
  simp only[pcV,↓ag,ah,simprocAttr,hf,n1,n2]
  exact .val _ rfl
theorem pcD_rd{rows:Rows}{f m q a w:Nat}{x:List (BitVec 8)}{c:kY}(hF:dw rows f m x)(hc:iB rows q a w c)(r:Int):∃e,bF rows (bE pcV) (E2 f q r) ((x,e),c,r):=by
 obtain⟨⟨e,h1⟩,h2⟩:=hF
 have he:elems rows (.sl L8 m [] 0 x.length e)=some (bs x):=by
  simp only[elems,h2];simp[jd]
 have uW:elems rows (.sl sA w [] 0 64 c.e)=some (c.ws.map v8):=by
  simp only[elems,hc.dat]
  simp[aay,hc.len]
 refine⟨e,⟨pcV ((x,e),c,r),?_,bA pcV_inj _⟩,λh=>by simp[E2,aT,aV]at h;exact absurd h (by decide)⟩
 simp only[E2,view,h1,hc.ch,hc.ar,cF,abD,D.get,Sh.pure,dC,acG,adu,aaR,ace]
 rw[he,uW]
 simp[aB,dC,he,uW,hc.len,pcV,vY,pQ,ZO]
theorem SN{rows:Rows}{f m q a w:Nat}{x:List (BitVec 8)}{c:kY}(hF:dw rows f m x)(hc:iB rows q a w c){r:Int}(hr:r=0\/r=1)(k:D->Rows->Prop):aK SL rows k [E2 f q r]=k (.raw (it (1-r))) rows:=by
 obtain⟨e,h⟩:=pcD_rd hF hc r
 refine(cw h (by simp[hr]) rfl k).trans ?_
 simp[shift,ab]
structure PlC (C:aX):Prop where
 tg:C.fn 79=some SL
 rd:C.fn 58=some sE
theorem E3(C:aX)(H:PlC C){rows:Rows}{f m q a w:Nat}{x:List (BitVec 8)}{c:kY}(hF:dw rows f m x)(hx:x.length=10240)(hc:iB rows q a w c){s:JS}(hs:(cA (some (x,false))).1=s)(ht:s.t=-1){r:Int}(hr:s.a=r)(Tz:r=0\/r=1){K:D->Rows->Prop}
  (hk:∀R,bO rows R->K (.cB [jD s,.raw (it 0)]) R):aG C 1 dL dK [E2 f q r] rows K:=by
 refine ae rfl ?_
 unfold dK dL
 have kT:=λL k=>SN (hF.push L) (hc.push L) Tz k
 have kr:=λL k=>MF (hF.push L) (by omega) (by omega) k
 rw[hs]at kr
 have hz:D.agg SJ [.raw (u32 0#32),.raw (it 0),.raw (it 0),.raw (it 0)]=jD xI:=rfl
 simp only[E2]at kT⊢
 rcases Tz with rfl|rfl
 ·simp only[↓ag,ah,simprocAttr,aQ,H.tg,kT,H.rd,kr,hz,bY,Ks,zz,ht,hr]
  exact hk _ (bO.app _ _)
 ·simp only[↓ag,ah,simprocAttr,aQ,H.tg,kT,H.rd,kr,hz,bY,Ks,zz,ht,hr]
  exact hk _ (bO.app _ _)
structure PvC (C:aX):Prop where
 ke:C.fn 69=some Kv
 ct:C.fn 26=some OG
 lo:C.fn 68=some EZ
theorem W3(C:aX)(H:PvC C){rows:Rows}{f m q a w:Nat}{x:List (BitVec 8)}{c:kY}(hF:dw rows f m x)(hx:x.length=10240)(hc:iB rows q a w c){r:Int}(i:Nat)(hi:i<=1){K:D->Rows->Prop}
  (hk:∀M P R,bO rows R->K (yS (dG x (gR c) (gy c) i) M P) R):aG C 2 gk gj [E2 f q r,.raw (it (i:Int))] rows K:=by
 refine ae rfl ?_
 unfold gj gk
 have kK:=λL k=>kKeyC (hc.push L).rd hc.len k
 have kC:=λL k=>kCtr (hc.push L).rd hc.len k
 have M0:=Pk c hc.len
 have kL:∀A B k,aK EZ (rows++[A,B,some ⟨L8,bs (gR c)⟩]) k [.ptr SF f [0],.sl L8 (rows.length+2) [] 0 56 false,.raw (it (gy c:Int)),.raw (it (i:Int))]=_:=λA B k=>kLook2 (hF.push _) hx (bd.own (ex:=false) (cg rows [A,B,some ⟨L8,bs (gR c)⟩] 2) 56 M0.symm) (by omega) (gy c:Int) i hi k
 have hf:=λn=>Pf x (gR c) (gy c:Int) i n
 simp only[E2,↓ag,ah,simprocAttr,aQ,H.ke,kK,H.ct,kC,H.lo,kL,hf]
 exact hk _ _ _ (bO.app _ _)
theorem jD_s1(s:JS)(v:Int):(jD s).set [1] (.raw (it v))=some (jD ⟨s.q,v,s.t,s.n⟩):=rfl
theorem jD_s2(s:JS)(v:Int):(jD s).set [2] (.raw (it v))=some (jD ⟨s.q,s.a,v,s.n⟩):=rfl
theorem jD_s3(s:JS)(v:Int):(jD s).set [3] (.raw (it v))=some (jD ⟨s.q,s.a,s.t,v⟩):=rfl
theorem dw.kp{rows R:Rows}{f m:Nat}{x:List (BitVec 8)}(h:dw rows f m x)(k:bO rows R):dw R f m x:=by
 obtain⟨⟨e,h1⟩,h2⟩:=h
 exact⟨⟨e,k _ _ h1⟩,k _ _ h2⟩
theorem iB.kp{rows R:Rows}{q a w:Nat}{c:kY}(h:iB rows q a w c)(k:bO rows R):iB R q a w c:=h.keep λp row hp _=>k p row hp
theorem yx(K:FV)(s:JS)(n:Nat):oz (qQ K s n)=some (qQ K s n):=by
 unfold qQ
 cases mu K s<;>rfl
structure CfC (C:aX):Prop where
 tg:C.fn 79=some SL
 rd:C.fn 58=some sE
 nx0:C.fn 13=none
 nx1:C.dO 13=none
 nx2:C.P1 13=some Co
theorem Px(C:aX)(H:CfC C){rows:Rows}{f m q a w:Nat}{x:List (BitVec 8)}{c:kY}(hF:dw rows f m x)(hx:x.length=10240)(hc:iB rows q a w c){s:JS}(hs:(cA (some (x,false))).1=s)(ht:s.t=1){K:D->Rows->Prop}
  (hk:∀R,bO rows R->K (.cB [qQ (some (x,false)) ⟨s.q,1,-1,0⟩ R.length,.raw (it 0)]) (R++si (some (x,false)) ⟨s.q,1,-1,0⟩ R.length)):aG C 1 eV eU [E2 f q 1] rows K:=by
 refine ae rfl ?_
 unfold eU eV
 have kT:=λL k=>SN (hF.push L) (hc.push L) (.inr rfl:(1:Int)=0\/(1:Int)=1) k
 have kr:=λL k=>MF (hF.push L) (by omega) (by omega) k
 rw[hs]at kr
 have hz:D.agg SJ [.raw (u32 0#32),.raw (it 0),.raw (it 0),.raw (it 0)]=jD xI:=rfl
 have hN:=λL=>F8 (s:=⟨s.q,1,-1,0⟩) (hF.push L) (by omega) (by omega)
 simp only[E2]at kT⊢
 simp only[↓ag,ah,simprocAttr,aQ,H.tg,kT,H.rd,kr,hz,bY,Ks,jD_s1,jD_s2,jD_s3,ht,H.nx0,H.nx1,H.nx2,hN,yx]
 have g:=hk (rows++[some ⟨PW,[E2 f q 1]⟩,some ⟨SJ,[jD ⟨s.q,1,-1,0⟩]⟩]) (bO.app _ _)
 simp only[aax,aa0,aba,abO,Nat.reduceAdd,aaP,acI,abr]at g
 exact g
structure CmC (C:aX):Prop where
 f:CfC C
 s0:C.fn 137=none
 s1:∃C1,C.dO 137=some (aG C1 1 dL dK)/\PlC C1
 l0:C.fn 138=none
 l1:∃C1,C.dO 138=some (aG C1 2 gk gj)/\PvC C1
theorem SO(C:aX)(H:CmC C){rows:Rows}{f m q a w:Nat}{x:List (BitVec 8)}{c:kY}(hF:dw rows f m x)(hx:x.length=10240)(hc:iB rows q a w c){s:JS}(hs:(cA (some (x,false))).1=s)(ht:s.t=-1)(ha:s.a=0)(he:dG x (gR c) (gy c) 1=0){K:D->Rows->Prop}
  (hk:∀R,bO rows R->K (.cB [qQ (some (x,false)) ⟨s.q,0,1,0⟩ R.length,.raw (it 0)]) (R++si (some (x,false)) ⟨s.q,0,1,0⟩ R.length)):aG C 1 fk fj [E2 f q 0] rows K:=by
 refine ae rfl ?_
 unfold fj fk
 obtain⟨C1,s1,hS⟩:=H.s1
 obtain⟨C2,l1,hL⟩:=H.l1
 have hz:D.agg SJ [.raw (u32 0#32),.raw (it 0),.raw (it 0),.raw (it 0)]=jD xI:=rfl
 have hB0:live (rows++[some ⟨PW,[E2 f q 0]⟩]) rows.length=some ⟨PW,[E2 f q 0]⟩:=bx _ _
 have pf:=Pw f q 0
 simp only[↓ag,ah,simprocAttr,aQ,pf,H.s0,s1]
 refine E3 C1 hS (hF.push _) hx (hc.push _) hs ht ha (.inl rfl) λR hK=>?_
 have hB:=hK _ _ hB0
 have hBA:=λl=>aj hB l
 have AK:=(hF.push [some ⟨PW,[E2 f q 0]⟩]).kp hK
 have hc1:=(hc.push [some ⟨PW,[E2 f q 0]⟩]).kp hK
 have kT:=λL k=>SN (AK.push L) (hc1.push L) (.inl rfl:(0:Int)=0\/(0:Int)=1) k
 simp only[↓ag,ah,simprocAttr,aQ,hz,bY,hB,hBA,H.f.tg,kT,H.l0,l1]
 refine W3 C2 hL (AK.push _) hx (hc1.push _) 1 (by decide) λM P R2 Jw=>?_
 have hj:live R2 R.length=some ⟨SJ,[jD s]⟩:=Jw _ _ (bx _ _)
 have hB2:=Jw _ _ (hBA _)
 have yu:=(AK.push _).kp Jw
 have Xl:=(hc1.push _).kp Jw
 have kT2:=λk=>SN yu Xl (.inl rfl:(0:Int)=0\/(0:Int)=1) k
 have hlR:rows.length+1<=R.length:=by have:=a9 hB;omega
 have so:=sc hj
 have hne:R.length≠rows.length:=by omega
 have hBs:∀X,live (R2.set R.length X) rows.length=some ⟨PW,[E2 f q 0]⟩:=λX=>by rw[aC hne];exact hB2
 have hK3:bO rows (R2.set R.length (some ⟨SJ,[jD ⟨s.q,0,1,0⟩]⟩)):=(((bO.app rows _).trans hK).trans ((bO.app R _).trans Jw)).set (by omega) _
 have hN:=F8 (s:=⟨s.q,0,1,0⟩) (hF.kp hK3) (by omega) (by omega)
 have g0:(E2 f q 0).get [0]=some (.ptr SF f [0]):=rfl
 have js:∀X,live (R2.set R.length (some X)) R.length=some X:=λX=>by have:=so.2.2.1 X [];rwa [aa4]at this
 simp only[↓ag,ah,simprocAttr,aQ,yS,he,hB2,hBs,H.f.tg,kT2,hj,js,so,acQ,bY,jD_s1,jD_s2,jD_s3,ha,g0,H.f.nx0,H.f.nx1,H.f.nx2,hN,yx]
 have g:=hk _ hK3
 simp only[abb]at g
 exact g
structure DpC (C:aX):Prop where
 tg:C.fn 79=some SL
 j0:C.fn 12=none
 j1:∃C1,C.dO 12=some (aG C1 3 fJ fI)/\DoC C1
theorem MS(C:aX)(H:DpC C){rows:Rows}{f m q a w:Nat}{x:List (BitVec 8)}{c:kY}(hF:dw rows f m x)(hc:iB rows q a w c){r:Int}(hr:r=0\/r=1){l:D}{K:D->Rows->Prop}
  (hk:∀C1,DoC C1->∀K',(∀R,K (.raw (it 0)) R->K' (.raw (it 0)) R)->aG C1 3 fJ fI [.ptr SF f [0],.ptr Kt q [0],l] (rows++[some ⟨PW,[E2 f q r]⟩]) K'):aG C 2 ic ib [E2 f q r,l] rows K:=by
 refine ae rfl ?_
 unfold ib ic
 obtain⟨C1,j1,hJ⟩:=H.j1
 have kT:=λL k=>SN (hF.push L) (hc.push L) hr k
 simp only[E2]at kT hk⊢
 rcases hr with rfl|rfl
 ·simp only[↓ag,ah,simprocAttr,aQ,H.tg,kT,H.j0,j1]
  refine hk _ hJ _ λR hR=>?_
  simp only[↓ag,ah,simprocAttr]
  exact hR
 ·simp only[↓ag,ah,simprocAttr,aQ,H.tg,kT,H.j0,j1]
  refine hk _ hJ _ λR hR=>?_
  simp only[↓ag,ah,simprocAttr]
  exact hR
theorem Py(C:aX)(H:DoC C){R R0:Rows}{f m:Nat}{x:List (BitVec 8)}{dc:D}{s:JS}(hF:dw R f m x)(hx:x.length=10240)(hK:bO (R++si (some (x,false)) s R.length) R0)(hb:mu (some (x,false)) s=true){K:D->Rows->Prop}
  (hk:∀R',dw R' f m (uR x (jc (some (x,false)) s (R.length+2)))->Fr [m] R0 R'->K (.raw (it 0)) R'):
  aG C 3 fJ fI [.ptr SF f [0],dc,qQ (some (x,false)) s R.length] R0 K:=by
 obtain⟨C1,r1,hT⟩:=H.t1
 have hlt:=hF.lt
 unfold qQ si at*
 rw[hb]at hK⊢
 simp only[aaY]at hK⊢
 have hro:=hK _ _ ((cg R ([some ⟨SJ,[jD (fF (some (x,false)) s)]⟩,some ⟨SJ,[jD (cA (some (x,false))).1]⟩]++[some ⟨L8,bs (dh (fF (some (x,false)) s))⟩,some ⟨r9,(jc (some (x,false)) s (R.length+2)).map JO.D⟩]) 3).trans rfl)
 have hq:=hK _ _ ((cg R ([some ⟨SJ,[jD (fF (some (x,false)) s)]⟩,some ⟨SJ,[jD (cA (some (x,false))).1]⟩]++[some ⟨L8,bs (dh (fF (some (x,false)) s))⟩,some ⟨r9,(jc (some (x,false)) s (R.length+2)).map JO.D⟩]) 2).trans rfl)
 refine My C C1 (ops:=jc (some (x,false)) s (R.length+2)) ((hF.push _).kp hK) (by omega) hro (by omega) rfl (abz rfl) ?_ hT.af hT.t0 hT.t1 H.al H.t0 r1 λR' U=>hk R' U.fl ?_
 ·intro j o ho
  obtain⟨g1,g2,g3⟩:=Uo (x:=x) (K:=some (x,false)) (s:=s) (q:=R.length+2) (by omega) j o ho
  refine⟨?_,g2,g3⟩
  match j with
  |0=>cases ho;exact .er
  |1=>
   cases ho
   have:=FF.wr (m:=m) (R.length+2) (dh (fF (some (x,false)) s)) false hq (by rw[fB];omega) (by rw[fB];omega) (by omega)
   rwa [fB]at this
  |j+2=>cases ho
 ·intro q row hq hn
  exact U.frame q row hq (by simpa using hn)
end iZ
end Go.Am
namespace Go.Am
namespace iZ
open Go.Am.F
theorem Pz{x p:List (BitVec 8)}{i:Nat}(hp:p.length<=256)(hi:256*i+256<=x.length)(t:Nat):(lX x i p dH).getD t 0#8=if 256*i<=t/\t<256*i+256 then(pF (some (x,false)) (i:Int) 0 p).getD (t-256*i) 0#8 else x.getD t 0#8:=by
 by_cases c:256*i<=t/\t<256*i+256
 ·rw[aaM c,<-D0 x i p hp hi,yo _ _ _ _ (by omega),show 256*i+(t-256*i)=t by omega]
 ·rw[aaE c]
  exact Ir x i p dH hi t (by omega)
theorem dat_full{x p:List (BitVec 8)}{i:Nat}(h0:0<p.length)(hp:p.length<=256)(hs:sub x (256*i) 256=dH)(s:Nat)(h:s<256):(pF (some (x,false)) (i:Int) 0 p).getD s 0#8=if s<p.length then p.getD s 0#8 else 255#8:=by
 have hne:p≠[]:=by intro h;rw[h]at h0;simp at h0
 have e:pF (some (x,false)) (i:Int) 0 p=p++dH.drop p.length:=by
  rw[pF,aaE hne,aaK]
  show a7 (sub x (256*i) 256) 0 p=_
  rw[a7,hs,acq,abr,abO]
 rw[e]
 by_cases c:s<p.length
 ·rw[aaM c,aaD,aaQ c,<-aaD]
 ·rw[aaE c,aaD,aaT (by omega),abh,<-aaD,Mx _ (by omega)]
def Stg(x p:List (BitVec 8))(m k:Nat)(z:List (BitVec 8)):Prop:=z.length=x.length/\∀t,z.getD t 0#8=if 4096<=t/\t<4096+256*m then(if t-4096<min (256*k) p.length then p.getD (t-4096) 0#8 else 255#8)else x.getD t 0#8
def tW(p:List (BitVec 8))(n:Nat):Nat×List (BitVec 8):=if n<16 then(16+n,[])else(n,(p.drop (256*(n-16))).take 256)
def xU(p:List (BitVec 8)):Nat:=16+(p.length+255)/256
theorem PA{x p z:List (BitVec 8)}{n:Nat}(hx:x.length=10240)(hp:p.length<=4096)(hn:n<xU p)(hz:Stg x p (min n 16) (n-16) z):
  (tW p n).2.length<=256/\256*(tW p n).1+256<=z.length/\qL (some (z,false)) ((tW p n).1:Int) 0 (tW p n).2=0/\(16<=n->0<(tW p n).2.length)/\Stg x p (min (n+1) 16) (n+1-16) (lX z (tW p n).1 (tW p n).2 dH):=by
 obtain⟨hl,hg⟩:=hz
 unfold xU at hn
 by_cases c:n<16
 ·have e:tW p n=(16+n,[]):=aaM c
  rw[e]
  have hi:256*(16+n)+256<=z.length:=by omega
  refine⟨by simp,hi,Un hi,λh=>absurd h (by omega),by rw[ng];exact hl,λt=>?_⟩
  rw[Pz (by simp) hi,Um,hg]
  rw[abK (by omega:n<=16),abK (by omega:n+1<=16),show n-16=0 by omega,show n+1-16=0 by omega,aeu,Nat.zero_min]
  by_cases c2:256*(16+n)<=t/\t<256*(16+n)+256
  ·rw[aaM c2,aaM (by omega),aaE (by omega),Mx _ (by omega)]
  ·rw[aaE c2]
   by_cases c3:4096<=t/\t<4096+256*n
   ·rw[aaM c3,aaE (by omega),aaM (by omega)]
   ·rw[aaE c3,aaE (by omega)]
 ·have e:tW p n=(n,(p.drop (256*(n-16))).take 256):=aaE c
  rw[e]
  obtain⟨k,rfl⟩:∃k,n=16+k:=⟨n-16,by omega⟩
  rw[acw (by omega:16<=16+k)]at hg
  rw[acw (by omega:16<=16+k+1)]
  rw[show 16+k-16=k by omega]at hg⊢
  rw[show 16+k+1-16=k+1 by omega]
  have jF:((p.drop (256*k)).take 256).length=min 256 (p.length-256*k):=by rw[aaF,aaB]
  have hcg:∀s,s<256->((p.drop (256*k)).take 256).getD s 0#8=p.getD (256*k+s) 0#8:=λs hs=>by
   rw[aaD,abm hs,abh,<-aaD]
  generalize (p.drop (256*k)).take 256=q at*
  have hi:256*(16+k)+256<=z.length:=by omega
  have hs:sub z (256*(16+k)) 256=dH:=by
   have j7:(sub z (256*(16+k)) 256).length=256:=jj (by omega)
   refine yt (by rw[j7,RZ]) λs hs=>?_
   rw[j7]at hs
   rw[yo _ _ _ _ hs,hg,aaM (by omega),aaE (by omega),Mx _ hs]
  refine⟨by show q.length<=256;omega,hi,err_wr (i:=16+k) (p:=q) hi (by omega) hs,λ_=>by show 0<q.length;omega,by rw[ng];exact hl,λt=>?_⟩
  show(lX z (16+k) q dH).getD t 0#8=_
  rw[Pz (by omega) hi,hg]
  by_cases c2:256*(16+k)<=t/\t<256*(16+k)+256
  ·rw[aaM c2,aaM (by omega),dat_full (by omega) (by omega) hs _ (by omega)]
   by_cases c3:t-256*(16+k)<q.length
   ·rw[aaM c3,aaM (by omega),hcg _ (by omega),show 256*k+(t-256*(16+k))=t-4096 by omega]
   ·rw[aaE c3,aaE (by omega)]
  ·rw[aaE c2]
   by_cases c3:4096<=t/\t<4096+256*16
   ·rw[aaM c3,aaM c3]
    by_cases c4:t-4096<min (256*k) p.length
    ·rw[aaM c4,aaM (by omega)]
    ·rw[aaE c4,aaE (by omega)]
   ·rw[aaE c3,aaE c3]
theorem MU{x p:List (BitVec 8)}{l:List JO}(hx:x.length=10240)(hp:p.length<=4096)(hl:l.map (λo=>(o.i,o.p))=(List.range (xU p)).map (tW p)):∀n,n<=xU p->Stg x p (min n 16) (n-16) (uR x (l.take n))
 |0,_=>⟨rfl,λt=>by rw[Nat.zero_min,aaE (by omega)];rfl⟩
 |n+1,h=>by
  have ih:=MU hx hp hl n (by omega)
  have hg:=abt (·[n]?) hl
  simp only[abl,acW (show n<xU p by omega),acf]at hg
  obtain⟨o,ho,he⟩:=adq.1 hg
  rw[O9 x l n o ho]
  have:=(PA hx hp (by omega) ih).2.2.2.2
  rw[<-he]at this
  exact this
theorem stg_op{x p:List (BitVec 8)}{l:List JO}(hx:x.length=10240)(hp:p.length<=4096)(hl:l.map (λo=>(o.i,o.p))=(List.range (xU p)).map (tW p))(j:Nat)(o:JO)(ho:l[j]?=some o):256*o.i+256<=x.length/\qL (some (uR x (l.take j),false)) (o.i:Int) 0 o.p=0:=by
 have hj:j<xU p:=by
  have h1:=abt List.length hl
  simp only[aaC,abV]at h1
  rw[<-h1]
  exact(ac4.1 ho).1
 have hg:=abt (·[j]?) hl
 simp only[abl,acW hj,ho,acf,abS]at hg
 have:=PA hx hp hj (MU hx hp hl j (by omega))
 rw[<-hg,ku]at this
 exact⟨this.2.1,this.2.2.1⟩
theorem stg_end{x p:List (BitVec 8)}{l:List JO}(hx:x.length=10240)(hp:p.length<=4096)(hl:l.map (λo=>(o.i,o.p))=(List.range (xU p)).map (tW p)):
  (uR x l).length=10240/\sub (uR x l) 4096 4096=p++ni (4096-p.length)/\∀a n,a+n<=4096\/8192<=a->sub (uR x l) a n=sub x a n:=by
 have Gp:l.length=xU p:=by simpa using congrArg List.length hl
 obtain⟨h1,h2⟩:=MU hx hp hl (xU p) (aaL _)
 rw[<-Gp,aa6]at h1 h2
 rw[Gp]at h2
 have hN:16<=xU p/\p.length<=256*(xU p-16):=by unfold xU;omega
 rw[acw hN.1]at h2
 have hd:(uR x l).length=10240:=h1.trans hx
 refine⟨hd,?_,λa n h=>sub_eq h1 λt t1 t2=>by rw[h2,aaE (by omega)]⟩
 have hf:(ni (4096-p.length)).length=4096-p.length:=aaV ..
 refine yt (by rw[jj (by omega),aax,hf];omega) λt ht=>?_
 rw[jj (by omega)]at ht
 rw[yo _ _ _ _ ht,h2,aaM (by omega),adJ]
 by_cases c:t<p.length
 ·rw[aaM (by omega),aaD,aaD,aaQ c]
 ·rw[aaE (by omega),aaD,aaT (by omega),ni,acU,aaM (by omega)]
  rfl
end iZ
end Go.Am

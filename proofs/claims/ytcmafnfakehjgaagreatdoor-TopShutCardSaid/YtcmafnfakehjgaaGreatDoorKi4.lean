import Derived.Test.YtcmafnfakehjgaaGreatDoorKi3
set_option linter.unusedSimpArgs false
set_option linter.unusedVariables false
namespace Go.Am
variable {C:aU} {P:Program} {n:Nat}
theorem ev_small{env:Env}{l:List Nat}{x:X}(h:∀t,x= .tmp t->t∈l):ev C (small env l) x=ev C env x:=by
 cases x with
 |tmp t=>simp only[ev];rw[rn (h t rfl)]
 |const _=>rfl
 |aZ _=>rfl
theorem Ex.congr{env:Env}{rows aa:Rows}{x:aS}{d:D}(h:Ex C env rows x d aa):Ex C (small env (px x)) rows x d aa:=by
 have yV:∀y∈x.op.xs,ev C env y=ev C (small env (px x)) y:=by
  intro y hy
  refine(ev_small λt ht=>?_).symm
  subst ht
  exact ab4 _ (vD hy)
 unfold Ex at h⊢
 split at h
 ·rename_i hg
  rw[<-Ei yV];exact h
 ·rename_i s want hg
  have hs:look (small env (px x)) s=look env s:=rn (by unfold px;rw[hg];simp)
  rw[hs]
  rcases h with⟨b,h1,h2,h3⟩|h
  ·exact .inl ⟨b,h1,λhb=>by rw[<-Ei yV];exact h2 hb,h3⟩
  ·exact .inr h
theorem eS.keep{w w':World}{T T':Nat->Prop}(hg:eS C w T)(hw:∀b,T b->w'.heap[b]?=w.heap[b]?)(hT:∀b,T b->T' b):eS C w' T':=
 λg d hd=>(hg g d hd).mono (λ_ _ h=>h) hw hT
structure Ng (C:aU) (P:Program) (n:Nat) (ops:Array Oper) (al:List aS) (m:Nat):Prop where
 ok:Xi ops.toList al m
 co:AB P n ops.toList ops.toList=some al
 ctx:aI C P
theorem Ng.get{ops:Array Oper}{al:List aS}{m:Nat}(h:Ng C P n ops al m):al.length=ops.size/\∀i,i<ops.size->∃o x,ops[i]?=some o/\al[i]?=some x/\So n o.dst=true/\cOp P o.op=some x.op/\oG ops.toList o.guard=some x.guard/\x.dst=o.dst:=by
 obtain⟨h1,h2⟩:=xD h.co
 have h1':al.length=ops.size:=by simpa using h1
 refine⟨h1',λi hi=>?_⟩
 have hia:i<al.length:=by omega
 obtain⟨q1,q2,q3,q4⟩:=h2 i ops[i] al[i] (by simp[hi]) (by simp[hia])
 exact⟨ops[i],al[i],by simp[hi],by simp[hia],q1,q2,q3,q4⟩
theorem PE{ops:Array Oper}{al:List aS}{m:Nat}(hD:DOK ops.toList al m)(hd:Ng C P n ops al m){K:Env->Rows->Prop}{Q':Exit->Act->World->Prop}{n9:Pl}{T0:Nat->Prop}{eN:Rows}{w0:World}
  (hK:∀env' aa ρ' T' a' w',K env' aa->eQ n ρ' T' env' aa a' w'->Step n9 T0 eN w0 ρ' T' aa w'->Q' .normal a' w'):
  ∀(fuel:Nat) (L:Array Bool) (k:Nat) (env:Env) (rows:Rows) (ρ:Pl) (T:Nat->Prop) (a:Act) (w:World),m<=k->k<=ops.size->ops.size-k<=fuel->L.size=ops.size->(∀j,done L j↔j<k)->
   dR C (al.drop k) env rows K->eQ n ρ T env rows a w->eS C w T->Step n9 T0 eN w0 ρ T rows w->wpAny P .any ops Q' fuel L a w:=by
 obtain⟨hlen,lp⟩:=hd.get
 intro fuel
 have fin:∀(L:Array Bool) (k:Nat) (env:Env) (rows:Rows) (ρ:Pl) (T:Nat->Prop) (a:Act) (w:World),k=ops.size->dR C (al.drop k) env rows K->eQ n ρ T env rows a w->Step n9 T0 eN w0 ρ T rows w->Q' .normal a w:=by
  intro L k env rows ρ T a w hk h hs hst
  subst hk
  rw[acp (by omega)]at h
  exact hK env rows ρ T a w h hs hst
 have noReady:∀(L:Array Bool) (k:Nat),k=ops.size->(∀j,done L j↔j<k)->Region.ready .any ops L=[]:=by
  intro L k hk hL
  cases hr:Region.ready .any ops L with
  |nil=>rfl
  |cons i l=>
   exfalso
   obtain⟨⟨o,ho⟩,h1,_⟩:=gT (L:=L) (ops:=ops) (i:=i) (by rw[hr];simp)
   have hi:i<ops.size:=(aaR.1 ho).1
   exact(pd h1).1 ((hL i).2 (by omega))
 induction fuel with
 |zero=>
  intro L k env rows ρ T a w hmk hk hf hsz hL h hs hg hst
  exact⟨noReady L k (by omega) hL,fin L k env rows ρ T a w (by omega) h hs hst⟩
 | succ fuel ih =>
  intro L k env rows ρ T a w hmk hk hf hsz hL h hs hg hst
  refine⟨λhr=>?_,λi hi=>?_⟩
  ·by_cases hke:k=ops.size
   ·exact fin L k env rows ρ T a w hke h hs hst
   ·exfalso
    have hkl:k<ops.size:=by omega
    have:k∈Region.ready .any ops L:=ua hkl (lD (λqo=>by have:=(hL k).1 qo;omega) (by omega)) (λj hj=>(hL j).2 (hd.ok.back k j hj))
    rw[hr]at this
    cases this
  ·obtain⟨⟨o',PF⟩,h1,h2⟩:=gT hi
   have pY:i<ops.size:=(aaR.1 PF).1
   obtain⟨DX,pZ⟩:=pd h1
   have hik:k<=i:=by
    rcases aaT i k with h3|h3
    ·exact absurd ((hL i).2 h3) DX
    ·exact h3
   have bW:=H6 hD (λi' hi' j hj=>(hL j).2 (Nat.lt_trans (hd.ok.back i' j hj) ((hL i').1 hi'))) pY (by omega) h2
   have hie:i=k:=by
    rcases aaT k i with h3|h3
    ·have:=(hL k).1 (bW k h3);omega
    ·omega
   subst hie
   obtain⟨o,x,ho,hx,q1,q2,q3,q4⟩:=lp i pY
   have hdrop:al.drop i=x::al.drop (i+1):=by
    have hlt:i<al.length:=by omega
    rw[abp hlt]
    congr 1
    rw[aao hlt]at hx
    exact abd hx
   rw[hdrop]at h
   refine yX hd.ctx ho q1 q2 q3 q4 hs hg h ?_
   intro env' aa ρ' T' a' w' h' ib cw
   refine ih _ (i+1) env' aa ρ' T' a' w' (by omega) (by omega) (by omega) (by simpa using hsz) (λj=>?_) h' ib (hg.step hs cw) (hst.trans cw)
   rw[bT pZ,hL j]
   omega
structure Gw (C:aU) (P:Program) (n:Nat) (ops:Array Oper) (al:List aS) (m:Nat) (env:Env) (Dd:Nat->D) (R:Nat->Rows):Prop extends Ng C P n ops al m where
 nor:∀f,C.cV f=none
 tr:∀i,i<m->∃x new,al[i]?=some x/\R (i+1)=R i++new/\Ex C (nt al Dd env i) (R i) x (Dd i) (R (i+1))
section
variable {ops:Array Oper} {al:List aS} {m:Nat} {env:Env} {Dd:Nat->D} {R:Nat->Rows}
theorem Gw.pre(h:Gw C P n ops al m env Dd R){i j:Nat}(Z2:i<=j)(hj:j<=m):∃new,R j=R i++new:=
 Xl (λi hi=>by obtain⟨x,new,_,h2,_⟩:=h.tr i hi;exact⟨new,h2⟩) Z2 hj
theorem Gw.le(h:Gw C P n ops al m env Dd R){i j:Nat}(Z2:i<=j)(hj:j<=m):(R i).length<=(R j).length:=by
 obtain⟨new,h1⟩:=h.pre Z2 hj
 rw[h1];simp
theorem Gw.liv(h:Gw C P n ops al m env Dd R){i j r:Nat}(Z2:i<=j)(hj:j<=m)(hr:r<(R i).length):live (R j) r=live (R i) r:=by
 obtain⟨new,h1⟩:=h.pre Z2 hj
 exact iE h1 hr
theorem Gw.Z3(h:Gw C P n ops al m env Dd R){i j t:Nat}(hi:i<m)(hj:j<m)(hne:j≠i)(ht:bC al i=some t):bC al j≠some t:=by
 obtain⟨x,o,h1,h2,_,_,h5,_⟩:=h.ok.quiet i hi
 exact h5 j hj hne t (by simpa[bC,h1]using ht)
theorem Gw.sees(h:Gw C P n ops al m env Dd R){L:Array Bool}{n9 ρ:Pl}{T0 T:Nat->Prop}{a:Act}{w0 w:World}(hI:KG C n al m env Dd R n9 T0 w0 L ρ T a w){i t:Nat}{d:D}(hi:i<=m)
  (qo:∀j,j<m->bC al j=some t->done L j/\j<i)(hl:look (nt al Dd env i) t=some d):VR (mu ρ (R i).length) w T d (a.tmps.getD t undef):=by
 by_cases hex:∃j,j<m/\bC al j=some t
 ·obtain⟨j,hj,Vn⟩:=hex
  obtain⟨h1,h2⟩:=qo j hj Vn
  rw[xC Vn i h2 (λj' qn hne=>h.Z3 hj (by omega) hne Vn)]at hl
  cases hl
  exact(hI.out j hj h1 t Vn).mono (PC (h.le (by omega) hi)) (λ_ _=>rfl) (λ_ h=>h)
 ·have hno:∀j,j<m->bC al j≠some t:=λj hj Vn=>hex ⟨j,hj,Vn⟩
  rw[xB i (λj hj=>hno j (by omega))]at hl
  exact(hI.base t d hl (λj hj _=>hno j hj)).mono (PC (h.le (by omega) hi)) (λ_ _=>rfl) (λ_ h=>h)
theorem Gw.all(h:Gw C P n ops al m env Dd R){L:Array Bool}{n9 ρ:Pl}{T0 T:Nat->Prop}{a:Act}{w0 w:World}(hI:KG C n al m env Dd R n9 T0 w0 L ρ T a w)(bW:∀j,j<m->done L j):
  eQ n ρ T (nt al Dd env m) (R m) a w:=by
 refine⟨⟨λr row Lc h1 h2=>?_,λr r' row row' Lc H7 h1 h2 h3 h4=>?_⟩,λt d hl=>?_,hI.size,hI.w8,hI.w9,hI.defers⟩
 ·have hr:=aR h1
  have:=(hI.rows m (aax _)).row r row Lc h1 (by unfold mu;rw[aaJ hr];exact h2)
  exact this.mono lU (λ_ _=>rfl) (λ_ h=>h) rfl this.nZ
 ·have hr:=aR h1
  have u7:=aR h2
  exact(hI.rows m (aax _)).lR r r' row row' Lc H7 h1 h2 (by unfold mu;rw[aaJ hr];exact h3) (by unfold mu;rw[aaJ u7];exact h4)
 ·exact(h.sees hI (aax _) (λj hj _=>⟨bW j hj,hj⟩) hl).mono lU (λ_ _=>rfl) (λ_ h=>h)
theorem Gw.start(h:Gw C P n ops al m env Dd R){L:Array Bool}{ρ:Pl}{T:Nat->Prop}{a:Act}{w:World}(hs:eQ n ρ T env (R 0) a w)(hg:eS C w T)(hL:∀j,¬done L j):KG C n al m env Dd R ρ T w L ρ T a w:=by
 have fK:∀j,j<=m->∀r Lc,ρ r=some Lc->mu ρ (R j).length r=some Lc:=by
  intro j hj r Lc hr
  unfold mu
  rw[aaJ]
  ·exact hr
  ·have:=h.le (acm j) hj
   rcases aaT r (R 0).length with h1|h1
   ·omega
   ·rw[hs.w9 r h1]at hr;cases hr
 have zu:∀r Lc,ρ r=some Lc->r<(R 0).length:=by
  intro r Lc hr
  rcases aaT r (R 0).length with h1|h1
  ·exact h1
  ·rw[hs.w9 r h1]at hr;cases hr
 refine⟨hs.size,hs.defers,hs.w8,hg,λr hr=>hs.w9 r (aa3 (h.le (acm m) (aax _)) hr),λj hj=>⟨λr row Lc h1 h2=>?_,λr r' row row' Lc H7 h1 h2 h3 h4=>?_⟩,
  λj hj _ r hr _=>hs.w9 r (aa3 (h.le (acm j) (by omega)) hr),λt d hl _=>(hs.env t d hl).mono (fK 0 (acm _)) (λ_ _=>rfl) (λ_ h=>h),
  λj hj qo=>absurd qo (hL j),?_⟩
 ·have h3:=lU r Lc h2
  rw[h.liv (acm j) hj (zu r Lc h3)]at h1
  have:=hs.bF.row r row Lc h1 h3
  exact this.mono (fK j hj) (λ_ _=>rfl) (λ_ h=>h) rfl this.nZ
 ·have q3:=lU r Lc h3
  have q4:=lU r' H7 h4
  rw[h.liv (acm j) hj (zu r Lc q3)]at h1
  rw[h.liv (acm j) hj (zu r' H7 q4)]at h2
  exact hs.bF.lR r r' row row' Lc H7 h1 h2 q3 q4
 ·refine⟨λ_ _ h=>h,λ_ h=>h,λ_ h=> .inl h,aax _,λ_ _ _=>rfl,λr row Lc h1 h2=>?_,rfl,rfl,rfl,h.le (acm m) (aax _),λ_ _=>rfl⟩
  rw[h.liv (acm m) (aax _) (zu r Lc h2)]at h1
  exact .inl ⟨r,row,Lc,h1,h2,rfl⟩
theorem Gw.next(h:Gw C P n ops al m env Dd R){L:Array Bool}{n9 ρ ρ':Pl}{T0 T T':Nat->Prop}{a:Act}{w0 w w':World}(hI:KG C n al m env Dd R n9 T0 w0 L ρ T a w){i:Nat}(hi:i<m)(pZ:i<L.size)(DX:¬done L i)
  {env':Env}{v:Value}(Xk:∀t,bC al i=some t->t<n)(hs:eQ n ρ' T' env' (R (i+1)) a w')(hst:Step (mu ρ (R i).length) T (R i) w ρ' T' (R (i+1)) w')(hv:VR ρ' w' T' (Dd i) v)(Zz:QH (mu ρ (R i).length) (R i) w w')(qJ:∀b,T' b->T b\/w.heap.size<=b):
  KG C n al m env Dd R n9 T0 w0 (L.setIfInBounds i true) (λr=>if r<(R i).length then ρ r else if r<(R (i+1)).length then ρ' r else ρ r) T' (a.put (bC al i) v) w':=by
 let KI:Pl:=λr=>if r<(R i).length then ρ r else if r<(R (i+1)).length then ρ' r else ρ r
 show KG C n al m env Dd R n9 T0 w0 (L.setIfInBounds i true) KI T' (a.put (bC al i) v) w'
 have hle:(R i).length<=(R (i+1)).length:=h.le (by omega) (by omega)
 have hw:∀b,T b->w'.heap[b]?=w.heap[b]?:=λb hb=>by
  rcases Zz b (hI.w8 b hb)with h1|⟨_,r,row,Lc,h2,h3,rfl⟩
  ·exact h1
  ·exact absurd hb ((hI.rows i (by omega)).row r row Lc h2 h3).nZ
 --old and new places
 have e1:∀r,r<(R i).length->KI r=ρ r:=λr hr=>by simp only[KI];rw[aaJ hr]
 have e2:∀r,(R i).length<=r->r<(R (i+1)).length->KI r=ρ' r:=λr hr u7=>by simp only[KI];rw[aaC (by omega),aaJ u7]
 have e3:∀r,(R (i+1)).length<=r->KI r=ρ r:=λr hr=>by simp only[KI];rw[aaC (by omega),aaC (by omega)]
 have hA:∀r Lc,ρ r=some Lc->KI r=some Lc:=by
  intro r Lc hr
  rcases aaT r (R i).length with h1|h1
  ·rw[e1 r h1];exact hr
  ·rcases aaT r (R (i+1)).length with h2|h2
   ·rw[hI.hole i hi DX r h1 h2]at hr;cases hr
   ·rw[e3 r h2];exact hr
 have hB:∀r Lc,ρ' r=some Lc->KI r=some Lc/\r<(R (i+1)).length:=by
  intro r Lc hr
  rcases aaT r (R (i+1)).length with h2|h2
  ·refine⟨?_,h2⟩
   rcases aaT r (R i).length with h1|h1
   ·rw[e1 r h1]
    have:=hst.same r h1
    rw[this]at hr
    exact lU r Lc hr
   ·rw[e2 r h1 h2];exact hr
  ·rw[hs.w9 r h2]at hr;cases hr
 have ZB:∀k r Lc,mu ρ k r=some Lc->mu KI k r=some Lc:=by
  intro k r Lc hr
  unfold mu at hr⊢
  split at hr
  ·rename_i hlt;rw[aaJ hlt];exact hA r Lc hr
  ·cases hr
 have hBr:∀k,(R (i+1)).length<=k->∀r Lc,ρ' r=some Lc->mu KI k r=some Lc:=by
  intro k hkk r Lc hr
  obtain⟨h1,h2⟩:=hB r Lc hr
  unfold mu
  rw[aaJ (by omega)];exact h1
 --a place is old or new
 have PG : ∀ j, j <= m -> ∀ r row Lc, live (R j) r = some row -> KI r = some Lc -> (ρ r = some Lc) \/ ((R i).length <= r /\ r < (R (i + 1)).length /\ ρ' r = some Lc /\ live (R (i + 1)) r = some row /\ w.heap.size <= Lc.b /\ i + 1 <= j) := by
  intro j hj r row Lc hl hr
  rcases aaT r (R i).length with h1|h1
  ·exact .inl (by rw[<-e1 r h1];exact hr)
  ·rcases aaT r (R (i+1)).length with h2|h2
   ·rw[e2 r h1 h2]at hr
    have Z2:i+1<=j:=by
     rcases aaT i j with h3|h3
     ·exact h3
     ·have:=h.le h3 (by omega)
      have:=aR hl
      omega
    have nA:live (R (i+1)) r=some row:=by rw[<-h.liv Z2 hj h2];exact hl
    refine .inr ⟨h1,h2,hr,nA,?_,Z2⟩
    rcases hst.fresh r row Lc nA hr with⟨r0,wP,L0,q1,q2,q3⟩|q
    ·exfalso
     have hr0:=aR q1
     have q4:live (R (i+1)) r0=some wP:=by rw[h.liv (by omega) (by omega) hr0];exact q1
     exact hs.bF.lR r0 r wP row L0 Lc q4 nA (hst.pl r0 L0 q2) hr (by omega) q3
    ·exact q
   ·exact .inl (by rw[<-e3 r h2];exact hr)
 have hold:∀j,j<=m->∀r row Lc,live (R j) r=some row->ρ r=some Lc->nC (mu ρ (R j).length) row Lc w T:=by
  intro j hj r row Lc hl hr
  refine(hI.rows j hj).row r row Lc hl ?_
  unfold mu;rw[aaJ (aR hl)];exact hr
 refine⟨?_,?_,hs.w8,hI.aZ.keep hw hst.tt,λr hr=>?_,λj hj=>⟨λr row Lc h1 h2=>?_,λr r' row row' Lc H7 h1 h2 h3 h4 hne=>?_⟩,λj hj qo r h1 h2=>?_,λt d hl hno=>?_,λj hj qo t ht=>?_,?_⟩
 ·cases hdd:bC al i with
  |none=>exact hI.size
  |some t=>simpa[Act.put]using hI.size
 ·cases hdd:bC al i with
  |none=>exact hI.defers
  |some t=>simpa[Act.put]using hI.defers
 ·have:=h.le (i:=i+1) (j:=m) (by omega) (aax _)
  rw[e3 r (by omega)]
  exact hI.w9 r hr
 ·rcases PG j hj r row Lc h1 (lU r Lc h2)with h3|⟨q1,q2,q3,q4,q5,q6⟩
  ·have hro:=hold j hj r row Lc h1 h3
   refine hro.Z4 (ZB _) hw hst.tt ((Zz _ hro.lt).imp_right (·.1)) (λhT=>?_)
   rcases qJ _ hT with h4|h4
   ·exact hro.nZ h4
   ·have:=hro.lt;omega
  ·have hro:=hs.bF.row r row Lc q4 q3
   exact hro.mono (hBr _ (h.le q6 hj)) (λ_ _=>rfl) (λ_ h=>h) rfl hro.nZ
 ·rcases PG j hj r row Lc h1 (lU r Lc h3)with p|⟨q1,q2,q3,q4,q5,q6⟩
  ·rcases PG j hj r' row' H7 h2 (lU r' H7 h4)with p'|⟨q1',q2',q3',q4',q5',q6'⟩
   ·refine(hI.rows j hj).lR r r' row row' Lc H7 h1 h2 ?_ ?_ hne
    ·unfold mu;rw[aaJ (aR h1)];exact p
    ·unfold mu;rw[aaJ (aR h2)];exact p'
   ·have:=(hold j hj r row Lc h1 p).lt;omega
  ·rcases PG j hj r' row' H7 h2 (lU r' H7 h4)with p'|⟨q1',q2',q3',q4',q5',q6'⟩
   ·have:=(hold j hj r' row' H7 h2 p').lt;omega
   ·exact hs.bF.lR r r' row row' Lc H7 q4 q4' q3 q3' hne
 ·have hne:j≠i:=λe=>qo ((bT pZ).2 (.inr e))
  have hnd':¬done L j:=λhh=>qo ((bT pZ).2 (.inl hh))
  rcases Nat.lt_or_gt_of_ne hne with h3|h3
  ·have:=h.le (i:=j+1) (j:=i) (by omega) (by omega)
   rw[e1 r (by omega)]
   exact hI.hole j hj hnd' r h1 h2
  ·have:=h.le (i:=i+1) (j:=j) (by omega) (by omega)
   rw[e3 r (by omega)]
   exact hI.hole j hj hnd' r h1 h2
 ·rw[FH (hno i hi ((bT pZ).2 (.inr rfl)))]
  exact(hI.base t d hl (λj hj qo=>hno j hj ((bT pZ).2 (.inl qo)))).mono (ZB _) hw hst.tt
 ·by_cases Vp:j=i
  ·subst Vp
   rw[ht,PD (by rw[hI.size];exact Xk t ht)]
   exact hv.mono (hBr _ (aax _)) (λ_ _=>rfl) (λ_ h=>h)
  ·have hdn':done L j:=by
    rcases(bT pZ).1 qo with h1|h1
    ·exact h1
    ·exact absurd h1 Vp
   rw[FH (h.Z3 hj hi (λe=>Vp e.symm) ht)]
   exact(hI.out j hj hdn' t ht).mono (ZB _) hw hst.tt
 ·have KE:=hI.step
  refine⟨λr Lc hr=>hA r Lc (KE.pl r Lc hr),λb hb=>hst.tt b (KE.tt b hb),λb hb=>?_,aa3 KE.size hst.size,λb hb hn=>?_,λr row Lc h1 h2=>?_,hst.os.trans KE.os,hst.tape.trans KE.tape,hst.output.trans KE.output,KE.len,λr hr=>?_⟩
  ·rcases qJ b hb with h1|h1
   ·exact KE.vn b h1
   ·exact .inr (.inl (aa3 KE.size h1))
  ·rcases Zz b (ab2 hb KE.size)with h1|⟨_,r,row,Lc,h2,h3,h4⟩
   ·rw[h1]
    exact KE.keep b hb hn
   ·exfalso
    have h5:live (R m) r=some row:=by rw[h.liv (by omega) (aax _) (aR h2)];exact h2
    rcases KE.fresh r row Lc h5 (lU r Lc h3)with⟨r0,wP,L0,q1,q2,q3⟩|q
    ·exact hn r0 wP L0 q1 q2 (q3.trans h4)
    ·omega
  ·rcases PG m (aax _) r row Lc h1 h2 with p|⟨q1,q2,q3,q4,q5,q6⟩
   ·exact KE.fresh r row Lc h1 p
   ·exact .inr (aa3 KE.size q5)
  ·have:=h.le (i:=0) (j:=i) (by omega) (by omega)
   rw[e1 r (by omega)]
   exact KE.same r hr
theorem Gw.any (hD : DOK ops.toList al m) (h : Gw C P n ops al m env Dd R) {C' : aU} (hC' : aI C' P) (hGl : ∀ w T, eS C w T -> eS C' w T) {K : Env -> Rows -> Prop} {Q' : Exit -> Act -> World -> Prop} {n9 : Pl} {T0 : Nat -> Prop} {w0 : World} (Vq : dR C' (al.drop m) (nt al Dd env m) (R m) K)
  (hK:∀env' aa ρ' T' a' w',K env' aa->eQ n ρ' T' env' aa a' w'->Step n9 T0 (R 0) w0 ρ' T' aa w'->Q' .normal a' w'):
  ∀(fuel:Nat) (L:Array Bool) (ρ:Pl) (T:Nat->Prop) (a:Act) (w:World),jg L ops.size<=fuel->L.size=ops.size->(∀j,done L j->j<m)->(∀i,done L i->∀j,v7 ops.toList i j=true->done L j)->KG C n al m env Dd R n9 T0 w0 L ρ T a w->wpAny P .any ops Q' fuel L a w:=by
 obtain⟨hlen,lp⟩:=h.toNg.get
 have hm:m<=ops.size:=by have:=h.ok.le;simpa using this
 intro fuel
 induction fuel with
 | zero =>
  intro L ρ T a w hf hsz RZ jt hI
  have bW:∀j,j<ops.size->done L j:=by
   intro j hj
   refine aa6 λhn=>?_
   have:=jh hj (by omega) (lD hn (by omega))
   omega
  have hs:=h.all hI (λj hj=>bW j (by omega))
  have hme:m=ops.size:=by
   rcases aaT m ops.size with h1|h1
   ·have:=RZ m (bW m h1);omega
   ·omega
  exact PE hD (C:=C') ⟨h.ok,h.co,hC'⟩ hK 0 L m _ _ ρ T a w (aax _) hm (by omega) hsz (λj=>⟨RZ j,λhj=>bW j (by omega)⟩) Vq hs (hGl _ _ hI.aZ) hI.step
 | succ fuel ih =>
  intro L ρ T a w hf hsz RZ jt hI
  by_cases bW:∀j,j<m->done L j
  ·have hs:=h.all hI bW
   refine PE hD (C:=C') ⟨h.ok,h.co,hC'⟩ hK (fuel+1) L m _ _ ρ T a w (aax _) hm ?_ hsz (λj=>⟨RZ j,bW j⟩) Vq hs (hGl _ _ hI.aZ) hI.step
   have:∀k,k<=ops.size->m<=k->k-m<=jg L k:=by
    intro k
    induction k with
    |zero=>intro _ _;omega
    | succ k ihk =>
     intro h1 h2
     rcases aaT k m with h3|h3
     ·omega
     ·have:=ihk (by omega) h3
      have hnk:L.getD k false=false:=by
       cases hb:L.getD k false with
       |false=>rfl
       |true=>have:=RZ k hb;omega
      have hu:jg L (k+1)=jg L k+1:=by
       unfold jg
       rw[abL,List.filter_append,ac5,hnk]
       simp only[abT,abR,List.filter_nil,aap,aaP,aaV]
      omega
   have:=this ops.size (aax _) hm
   omega
  ·have hex : ∃ j, j < m /\ ¬ done L j := by
    refine aa6 λhne=>?_
    exact bW λj hj=>by
     refine aa6 λhn=>?_
     exact hne ⟨j,hj,hn⟩
   refine⟨λhr=>?_,λi hi=>?_⟩
   ·exfalso
    --the least one not done is ready
    have key : ∀ k, (∀ j, j < k -> j < m -> done L j) \/ ∃ j, j < k /\ j < m /\ ¬ done L j /\ ∀ j', j' < j -> done L j' := by
     intro k
     induction k with
     |zero=>left;intro j hj;omega
     | succ k ihk =>
      rcases ihk with h1|⟨j,q1,q2,q3,q4⟩
      ·by_cases hk:k<m/\¬done L k
       ·right
        exact⟨k,by omega,hk.1,hk.2,λj' qn=>h1 j' qn (by omega)⟩
       ·left
        intro j hj hjm
        rcases aaT j k with h3|h3
        ·exact h1 j h3 hjm
        ·have:j=k:=by omega
         subst this
         refine aa6 λhn=>?_
         exact hk ⟨hjm,hn⟩
      ·right;exact⟨j,by omega,q2,q3,q4⟩
    rcases key m with h1|⟨j,q1,q2,q3,q4⟩
    ·exact bW λj hj=>h1 j hj hj
    ·have:j∈Region.ready .any ops L:=ua (by omega) (lD q3 (by omega)) (λj' qn=>q4 j' (h.ok.back j j' qn))
     rw[hr]at this
     cases this
   ·obtain⟨⟨o',PF⟩,h1,h2⟩:=gT hi
    have pY:i<ops.size:=(aaR.1 PF).1
    obtain⟨DX,pZ⟩:=pd h1
    have O0:i<m:=by
     rcases aaT i m with h3|h3
     ·exact h3
     ·exfalso
      have:=H6 hD jt pY h3 h2
      obtain⟨j,hj,hn⟩:=hex
      exact hn (this j (by omega))
    obtain⟨o,x,ho,hx,q1,q2,q3,q4⟩:=lp i pY
    obtain⟨x',new,hx',hR,hE⟩:=h.tr i O0
    rw[hx]at hx'
    cases hx'
    obtain⟨x',o',hx',ho'',hqa,hqo,_,hu⟩:=h.ok.quiet i O0
    rw[hx]at hx'
    cases hx'
    have ho3:ops[i]?=some o':=by simpa using ho''
    rw[ho]at ho3
    cases ho3
    have hs:eQ n (mu ρ (R i).length) T (small (nt al Dd env i) (px x)) (R i) a w:=by
     refine⟨hI.rows i (by omega),λt d hl=>?_,hI.size,hI.w8,λr hr=>?_,hI.defers⟩
     ·obtain⟨ht,hl⟩:=yW hl
      refine h.sees hI (by omega) (λj hj Vn=>?_) hl
      have:=hu t ht j hj Vn
      exact⟨h2 j this,h.ok.back i j this⟩
     ·unfold mu;rw[aaC (by omega)]
    have tR:bC al i=o.dst:=by simp[bC,hx,q4]
    refine ex_wp h.nor h.ctx ho q2 q3 hs hI.aZ hqo hE.congr ?_
    intro ρ' T' v w' ib cw mW Ps
    have hI':=h.next hI O0 pZ DX (λt ht=>BN q1 t (by rw[<-tR];exact ht)) ib cw mW Ps.1 Ps.2
    rw[tR]at hI'
    refine ih _ _ T' _ w' ?_ (by simpa using hsz) (λj hj=>?_) (λi' hi' j hj=>?_) hI'
    ·have:=jh pY pZ h1
     omega
    ·rcases(bT pZ).1 hj with h3|h3
     ·exact RZ j h3
     ·omega
    ·refine(bT pZ).2 (.inl ?_)
     rcases(bT pZ).1 hi' with h3|h3
     ·exact jt i' h3 j hj
     ·subst h3;exact h2 j hj
end
theorem H8(hN:∀f,C.cV f=none)(hC:aI C P)(hP:P.follows .mixedOrders=true){id:Nat}{ops:Array Oper}{al:List aS}(hc:AB P n ops.toList ops.toList=some al)(hd:Sp ops.toList al=true)
  {env:Env}{rows:Rows}{ρ:Pl}{T:Nat->Prop}{a:Act}{w:World}{Q:gF->Env->Rows->Prop}{Q':Exit->Act->World->Prop}(h:dR C al env rows (Q .normal))(hs:eQ n ρ T env rows a w)(hg:eS C w T)
  (hp:Post n ρ T rows w Q Q'):(Code.region id ops true).wp P Q' a w:=by
 obtain⟨m,_,hm⟩:=ab9.1 hd
 have hok:=PA hm
 have hlen:=(xD hc).1
 have hq:∀i,i<m->∃x,al[i]?=some x/\oH x.op=true:=by
  intro i hi
  obtain⟨x,o,h1,_,h3,_⟩:=hok.quiet i hi
  exact⟨x,h1,h3⟩
 obtain⟨Dd,R,h0,h1,h2⟩:=trace hN m (by rw[hlen];exact hok.le) hq h
 subst h0
 have hrun:Gw C P n ops al m env Dd R:=⟨⟨hok.toXi,hc,hC⟩,hN,h1⟩
 have hw1:eQ n ρ T env (R 0) a {w with drawn:=w.drawn+1}:=hs.heap rfl
 have SI:eS C {w with drawn:=w.drawn+1} T:=hg.keep (λ_ _=>rfl) (λ_ h=>h)
 have PH:∀j,¬done (Array.replicate ops.size false) j:=by
  intro j hj
  unfold done at hj
  simp[Array.getD]at hj
 refine wp_region_any hP (hrun.any hok hC (λ_ _ h=>h) h2 (w0:={w with drawn:=w.drawn+1}) (n9:=ρ) (T0:=T) ?_ ops.size _ ρ T a _ ?_ (by simp) (λj hj=>absurd hj (PH j)) (λi hi=>absurd hi (PH i)) (hrun.start hw1 SI PH))
 ·intro env' aa ρ' T' a' w' hk ib cw
  exact hp .normal env' aa ρ' T' a' w' hk ib ⟨cw.pl,cw.tt,cw.vn,cw.size,cw.keep,cw.fresh,cw.os,cw.tape,cw.output,cw.len,cw.same⟩
 ·unfold jg
  exact aa3 (acx _ _) (by simp)
end Go.Am
namespace Go.Am
variable {C:aU} {P:Program} {n:Nat}
def PI(env:Env)(ts:List Nat):Env:=env.filter λp=>!ts.contains p.1
theorem uc(ts:List Nat)(t:Nat):∀(env:Env),look (PI env ts) t=if t∈ts then none else look env t
 |[]=>by simp[PI,look]
 | (k, d) :: env => by
  have ih:=uc ts t env
  simp only[PI,ac5]at ih⊢
  by_cases hk:k∈ts
  ·have:(!ts.contains k)=false:=by simp[hk]
   simp only[this]
   rw[aaC (by simp),ih]
   by_cases ht:t∈ts
   ·simp[ht]
   ·have:(k==t)=false:=by
     have:k≠t:=λe=>ht (e▸hk)
     simpa using this
    simp[ht,look,this]
  ·have:(!ts.contains k)=true:=by simp[hk]
   simp only[this,abR,look]
   cases hkt:(k==t)with
   |true=>
    have:k=t:=by simpa using hkt
    subst this
    simp[hk]
   |false=>simpa using ih
def undL(al:List aS)(m:Nat)(L:Array Bool):List Nat:=(List.range m).filterMap λj=>bif L.getD j false then none else bC al j
theorem PJ{al:List aS}{m:Nat}{L:Array Bool}{t:Nat}:t∈undL al m L↔∃j,j<m/\¬done L j/\bC al j=some t:=by
 unfold undL done
 rw[acO]
 constructor
 ·rintro⟨j,hj,h⟩
  cases hb:L.getD j false with
  |true=>rw[hb]at h;cases h
  |false=>rw[hb]at h;exact⟨j,by simpa using hj,by rw[hb];simp,h⟩
 ·rintro⟨j,hj,h1,h2⟩
  refine⟨j,by simpa using hj,?_⟩
  have:L.getD j false=false:=by simpa using h1
  rw[this];exact h2
def iv(al:List aS)(m:Nat)(L:Array Bool)(env:Env):Env:=PI env (undL al m L)
theorem ud{al:List aS}{m:Nat}{L:Array Bool}{env:Env}{t:Nat}(h:∀j,j<m->¬done L j->bC al j≠some t):look (iv al m L env) t=look env t:=by
 unfold iv
 rw[uc,aaC]
 rw[PJ]
 rintro⟨j,h1,h2,h3⟩
 exact h j h1 h2 h3
theorem pe{al:List aS}{m:Nat}{L:Array Bool}{env:Env}{t:Nat}{d:D}(h:look (iv al m L env) t=some d):look env t=some d/\∀j,j<m->¬done L j->bC al j≠some t:=by
 unfold iv at h
 rw[uc]at h
 split at h
 ·cases h
 ·rename_i hn
  refine⟨h,λj h1 h2 h3=>hn (PJ.2 ⟨j,h1,h2,h3⟩)⟩
theorem eQ.ext{ρ:Pl}{T:Nat->Prop}{env env':Env}{rows:Rows}{a:Act}{w:World}(h:eQ n ρ T env rows a w)(he:∀t d,look env' t=some d->look env t=some d):eQ n ρ T env' rows a w:=
 ⟨h.bF,λt d hd=>h.env t d (he t d hd),h.size,h.w8,h.w9,h.defers⟩
def KH(dst:Option Nat)(hd env:Env)(K0:Env->Rows->Prop):Env->Rows->Prop:=λenv' rows=>match dst with
 |some t=>∃d,env'=(t,d)::hd/\K0 ((t,d)::env) rows
 |none=>env'=hd/\K0 env rows
theorem Nh(dst:Option Nat)(hd env:Env)(K0:Env->Rows->Prop)(d:D)(rows:Rows):KH dst hd env K0 (put dst d hd) rows=K0 (put dst d env) rows:=by
 cases dst with
 |none=>simp[KH,put]
 | some t =>
  simp only[KH,put]
  apply propext
  constructor
  ·rintro⟨d',h1,h2⟩
   cases h1
   exact h2
  ·intro h
   exact⟨d,rfl,h⟩
theorem BO{x:aS}{hd env:Env}{rows:Rows}{K0:Env->Rows->Prop}(yV:∀t,t∈px x->look hd t=look env t)(h:dR C [x] env rows K0):dR C [x] hd rows (KH x.dst hd env K0):=by
 obtain⟨dst,o,g⟩:=x
 have hx:∀y∈o.xs,ev C hd y=ev C env y:=by
  intro y hy
  cases y with
  |tmp t=>exact yV t (ab4 _ (vD hy))
  |const _=>rfl
  |aZ _=>rfl
 have hop:∀k:D->Rows->Prop,dX C hd rows o k=dX C env rows o k:=λk=>Ei hx k
 have e1:(λd rows=>dR C [] (put dst d hd) rows (KH dst hd env K0))=λd rows=>dR C [] (put dst d env) rows K0:=by
  funext d r
  exact Nh dst hd env K0 d r
 cases g with
 |none=>
  show dX C hd rows o (λd rows=>dR C [] (put dst d hd) rows (KH dst hd env K0))
  rw[e1,hop]
  exact h
 | some gw =>
  obtain⟨g,want⟩:=gw
  have hg:look hd g=look env g:=yV g (by simp[px])
  have h':=h
  simp only[dR]at h'⊢
  rw[hg]
  obtain⟨v,hv,hk⟩:=au h'
  rw[hv]
  split at hk
  ·rename_i t
   show((t=want->dX C hd rows o λd rows=>KH dst hd env K0 (put dst d hd) rows)/\(t=!want->KH dst hd env K0 (put dst (.cd []) hd) rows))
   refine⟨λht=>?_,λht=>?_⟩
   ·have e2:(λd rows=>KH dst hd env K0 (put dst d hd) rows)=λd rows=>K0 (put dst d env) rows:=by
     funext d r
     exact Nh dst hd env K0 d r
    rw[e2,hop]
    exact hk.1 ht
   ·rw[Nh];exact hk.2 ht
  ·show KH dst hd env K0 (put dst (.cd []) hd) rows
   rw[Nh];exact hk
  ·exact hk.elim
theorem mw{ops:Array Oper}{L:Array Bool}(jt:∀i,done L i->∀j,v7 ops.toList i j=true->done L j):∀(f i j:Nat),(∀j,v7 ops.toList i j=true->done L j)->KB ops.toList f i j=true->done L j
 |0,i,j,_,h=>by simp[KB]at h
 | f + 1, i, j, hd, h => by
  simp only[KB,abM]at h
  rcases h with h|h
  ·exact hd j h
  ·obtain⟨k,_,hk⟩:=ab9.1 h
   simp only[aan]at hk
   exact mw jt f k j (λq hq=>jt k (hd k hk.1) q hq) hk.2
theorem Ej{env:Env}{rows:Rows}:∀{l:List aS} {y:aS},tU C env rows l->y∈l->dX C env rows y.op (Bw env rows y.dst)
 |[],y,_,h=>by simp at h
 |x::l,y,h,hy=>by
  rcases aaI.1 hy with rfl|hy
  ·exact h.1
  ·exact Ej h.2 hy
theorem Xm {ops : Array Oper} {al : List aS} {m : Nat} (hD : DOK2 ops.toList al m) (hd : Ng C P n ops al m) {K : Env -> Rows -> Prop} {Q' : Exit -> Act -> World -> Prop} {n9 : Pl} {T0 : Nat -> Prop} {eN : Rows} {w0 : World}
  (hK:∀env' aa ρ' T' a' w',K env' aa->eQ n ρ' T' env' aa a' w'->Step n9 T0 eN w0 ρ' T' aa w'->Q' .normal a' w'):
  ∀(fuel:Nat) (L:Array Bool) (k:Nat) (env:Env) (rows:Rows) (ρ:Pl) (T:Nat->Prop) (a:Act) (w:World),m<=k->k<=ops.size->jg L ops.size<=fuel->L.size=ops.size->(∀j,k<=j->¬done L j)->(∀j,m<=j->j<k->done L j)->
   (∀i,done L i->∀j,v7 ops.toList i j=true->done L j)->(∀j,j<m->¬done L j->∃y,al[j]?=some y/\y.guard=none/\(∃t,y.dst=some t)/\dX C env rows y.op (Bw env rows y.dst))->
   xj C (Fz ops.toList al m k (ops.size-k)) env rows K->eQ n ρ T (iv al m L env) rows a w->eS C w T->Step n9 T0 eN w0 ρ T rows w->wpAny P .any ops Q' fuel L a w:=by
 obtain⟨hlen,lp⟩:=hd.get
 intro fuel
 have fin:∀(L:Array Bool) (k:Nat) (env:Env) (rows:Rows) (ρ:Pl) (T:Nat->Prop) (a:Act) (w:World),k=ops.size->(∀j,j<ops.size->done L j)->m<=k->xj C (Fz ops.toList al m k (ops.size-k)) env rows K->eQ n ρ T (iv al m L env) rows a w->Step n9 T0 eN w0 ρ T rows w->Q' .normal a w:=by
  intro L k env rows ρ T a w hk bW hmk h hs hst
  subst hk
  rw[acj]at h
  exact hK env rows ρ T a w h (hs.ext λt d hl=>by rw[ud (λj hj hn=>absurd (bW j (by omega)) hn)];exact hl) hst
 have hmin : ∀ (L : Array Bool), L.size = ops.size -> (∃ j, j < ops.size /\ ¬ done L j) -> ∃ j, j ∈ Region.ready .any ops L := by
  intro L hsz ⟨j,hj,hn⟩
  have key : ∀ q, (∀ j, j < q -> done L j) \/ ∃ j, j < q /\ ¬ done L j /\ ∀ j', j' < j -> done L j' := by
   intro q
   induction q with
   |zero=>left;intro j hj;omega
   | succ q ih =>
    rcases ih with h1|⟨j,q1,q2,q3⟩
    ·by_cases hq:done L q
     ·left;intro j hj
      rcases aaT j q with h2|h2
      ·exact h1 j h2
      ·have:j=q:=by omega
       subst this;exact hq
     ·exact .inr ⟨q,by omega,hq,h1⟩
    ·exact .inr ⟨j,by omega,q2,q3⟩
  rcases key ops.size with h1|⟨j',q1,q2,q3⟩
  ·exact absurd (h1 j hj) hn
  ·exact⟨j',ua q1 (lD q2 (by omega)) (λj'' hj''=>q3 j'' (hd.ok.back j' j'' hj''))⟩
 have BP:∀(L:Array Bool),L.size=ops.size->Region.ready .any ops L=[]->∀j,j<ops.size->done L j:=by
  intro L hsz hr j hj
  refine aa6 λhn=>?_
  obtain⟨i,hi⟩:=hmin L hsz ⟨j,hj,hn⟩
  rw[hr]at hi
  cases hi
 have kend:∀(L:Array Bool) (k:Nat),k<=ops.size->(∀j,k<=j->¬done L j)->(∀j,j<ops.size->done L j)->k=ops.size:=by
  intro L k hk h1 h2
  rcases aaT k ops.size with h3|h3
  ·exact absurd (h2 k h3) (h1 k (aax _))
  ·omega
 induction fuel with
 | zero =>
  intro L k env rows ρ T a w hmk hk hf hsz Vc hlo jt hob h hs hg hst
  have bW:∀j,j<ops.size->done L j:=by
   intro j hj
   refine aa6 λhn=>?_
   have:=jh hj (by omega) (lD hn (by omega))
   omega
  have hke:=kend L k hk Vc bW
  refine⟨?_,fin L k env rows ρ T a w hke bW hmk h hs hst⟩
  cases hr:Region.ready .any ops L with
  |nil=>rfl
  |cons i l=>
   exfalso
   obtain⟨⟨o,ho⟩,h1,_⟩:=gT (L:=L) (ops:=ops) (i:=i) (by rw[hr];simp)
   exact(pd h1).1 (bW i (aaR.1 ho).1)
 | succ fuel ih =>
  intro L k env rows ρ T a w hmk hk hf hsz Vc hlo jt hob h hs hg hst
  refine⟨λhr=>?_,λi hi=>?_⟩
  ·have bW:=BP L hsz hr
   exact fin L k env rows ρ T a w (kend L k hk Vc bW) bW hmk h hs hst
  ·obtain⟨⟨o',PF⟩,h1,h2⟩:=gT hi
   have pY:i<ops.size:=(aaR.1 PF).1
   obtain⟨DX,pZ⟩:=pd h1
   obtain⟨o,x,ho,hx,q1,q2,q3,q4⟩:=lp i pY
   have PK:jg (L.setIfInBounds i true) ops.size<=fuel:=by have:=jh pY pZ h1;omega
   have Xn:∀i',done (L.setIfInBounds i true) i'->∀j,v7 ops.toList i' j=true->done (L.setIfInBounds i true) j:=by
    intro i' hi' j hj
    refine(bT pZ).2 (.inl ?_)
    rcases(bT pZ).1 hi' with h3|h3
    ·exact jt i' h3 j hj
    ·subst h3;exact h2 j hj
   rcases aaT i m with O0|O0
   · -- a quiet one that comes late
    obtain⟨y,hy,hyg,⟨t,H9⟩,hya⟩:=hob i O0 DX
    rw[hx]at hy
    cases hy
    obtain⟨x',o2,hx',ho2,hqa,hqo,_,hu⟩:=hD.quiet i O0
    rw[hx]at hx'
    cases hx'
    have yV:∀t',t'∈px x->look (iv al m L env) t'=look env t':=λt' AO=>ud λj hj hn he=>hn (h2 j (hu t' AO j hj he))
    have hst1:dR C [x] env rows (λenv' aa=>env'=put x.dst ((look env t).getD default) env/\look env t=some ((look env t).getD default)/\aa=rows):=by
     obtain⟨dst,op,g⟩:=x
     simp only at hyg H9
     subst hyg
     subst H9
     show dX C env rows op _
     have e:(λd aa=>dR C [] (put (some t) d env) aa λenv' aa=>env'=put (some t) ((look env t).getD default) env/\look env t=some ((look env t).getD default)/\aa=rows)=Bw env rows (some t):=by
      funext d r
      simp only[dR,Bw,put]
      apply propext
      constructor
      ·rintro⟨e1,e2,e3⟩
       cases e1
       exact⟨e2,e3⟩
      ·rintro⟨e1,e2⟩
       rw[e1]
       exact⟨rfl,rfl,e2⟩
     rw[e]
     exact hya
    refine yX hd.ctx ho q1 q2 q3 q4 hs hg (BO yV hst1) ?_
    intro env' aa ρ' T' a' w' h' ib cw
    rw[H9]at h'
    obtain⟨d,rfl,h3,h4,rfl⟩:=h'
    have LJ:look env t=some d:=by
     simp only[put,H9]at h3
     cases h3
     exact h4
    have hti:bC al i=some t:=by simp[bC,hx,H9]
    refine ih _ k env aa ρ' T' a' w' hmk hk PK (by simpa using hsz) (λj hj qo=>?_) (λj hj hj2=>(bT pZ).2 (.inl (hlo j hj hj2))) Xn (λj hj hn=>hob j hj (λqo=>hn ((bT pZ).2 (.inl qo)))) h
     (ib.ext λt' d' hl=>?_) (hg.step hs cw) (hst.trans cw)
    ·rcases(bT pZ).1 qo with h5|h5
     ·exact Vc j hj h5
     ·omega
    ·obtain⟨h5,h6⟩:=pe hl
     simp only[look]
     cases Vr:(t==t')with
     |true=>
      have:t=t':=by simpa using Vr
      subst this
      rw[LJ]at h5
      simpa using h5
     | false =>
      have hne:t≠t':=by simpa using Vr
      simp only[aaK]
      rw[ud λj hj hn he=>?_]
      ·exact h5
      ·by_cases Vp:j=i
       ·subst Vp
        rw[hti]at he
        exact hne (abd he)
       ·exact h6 j hj (λqo=>(bT pZ).1 qo|>.elim (λh7=>hn h7) (λh7=>Vp h7)) he
   · -- the next one of the tail
    have hik:k<=i:=by
     rcases aaT i k with h3|h3
     ·exact absurd (hlo i O0 h3) DX
     ·exact h3
    obtain⟨x',hx',Xo⟩:=hD.tail i (by simpa using pY) O0
    rw[hx]at hx'
    cases hx'
    have hie:i=k:=by
     rcases aaT k i with h3|h3
     ·exfalso
      rcases Xo k h3 with h4|⟨h4,_⟩
      ·exact Vc k (aax _) (mw jt 2 i k h2 h4)
      ·omega
     ·omega
    subst hie
    have fK:ops.size-i=(ops.size-(i+1))+1:=by omega
    rw[fK]at h
    simp only[Fz,hx]at h
    have Ia:∀j,j<m->¬done L j->j∈dly ops.toList m i/\∃y t,al[j]?=some y/\y.guard=none/\y.dst=some t/\x.dst≠some t/\t∉px x:=by
     intro j hj hn
     have hna:KB ops.toList 2 i j=false:=by
      cases hb:KB ops.toList 2 i j with
      |false=>rfl
      |true=>exact absurd (mw jt 2 i j h2 hb) hn
     refine⟨by simp[dly,hj,hna],?_⟩
     rcases Xo j (by omega)with h4|⟨_,h4⟩
     ·rw[hna]at h4;cases h4
     ·exact h4
    have yV:∀t',t'∈px x->look (iv al m L env) t'=look env t':=λt' AO=>ud λj hj hn he=>by
     obtain⟨_,y,t,hy,_,H9,_,hyu⟩:=Ia j hj hn
     have:bC al j=some t:=by simp[bC,hy,H9]
     rw[this]at he
     cases he
     exact hyu AO
    refine yX hd.ctx ho q1 q2 q3 q4 hs hg (BO yV h) ?_
    intro env' aa ρ' T' a' w' h' ib cw
    obtain⟨vC,tI,SE,PL⟩:∃vC,eQ n ρ' T' (iv al m (L.setIfInBounds i true) vC) aa a' w'/\tU C vC aa ((dly ops.toList m i).filterMap λj=>al[j]?)/\xj C (Fz ops.toList al m (i+1) (ops.size-(i+1))) vC aa K:=by
     have vE:∀j,j<m->¬done (L.setIfInBounds i true) j->¬done L j:=λj hj hn qo=>hn ((bT pZ).2 (.inl qo))
     have PM:∀j,j<m->¬done L j->¬done (L.setIfInBounds i true) j:=λj hj hn qo=>(bT pZ).1 qo|>.elim (λh7=>hn h7) (λh7=>by omega)
     simp only[dR,KH]at h'
     cases hxd:x.dst with
     |none=>
      rw[hxd]at h'
      obtain⟨rfl,h3,h4⟩:=h'
      refine⟨env,ib.ext λt' d' hl=>?_,h3,h4⟩
      obtain⟨h5,h6⟩:=pe hl
      rw[ud λj hj hn=>h6 j hj (PM j hj hn)]
      exact h5
     | some t =>
      rw[hxd]at h'
      obtain⟨d,rfl,h3,h4⟩:=h'
      refine⟨(t,d)::env,ib.ext λt' d' hl=>?_,h3,h4⟩
      obtain⟨h5,h6⟩:=pe hl
      simp only[look]at h5⊢
      cases Vr:(t==t')with
      |true=>rw[Vr]at h5;exact h5
      |false=>
       rw[Vr]at h5
       simp only[aaK]at h5⊢
       rw[ud λj hj hn=>h6 j hj (PM j hj hn)]
       exact h5
    refine ih _ (i+1) vC aa ρ' T' a' w' (by omega) (by omega) PK (by simpa using hsz) (λj hj qo=>?_) (λj hj hj2=>?_) Xn (λj hj hn=>?_) PL tI (hg.step hs cw) (hst.trans cw)
    ·rcases(bT pZ).1 qo with h5|h5
     ·exact Vc j (by omega) h5
     ·omega
    ·refine(bT pZ).2 ?_
     rcases aaT j i with h5|h5
     ·exact .inl (hlo j hj h5)
     ·exact .inr (by omega)
    ·have Nd:¬done L j:=λqo=>hn ((bT pZ).2 (.inl qo))
     obtain⟨h5,y,t,hy,hyg,H9,_⟩:=Ia j hj Nd
     exact⟨y,hy,hyg,⟨t,H9⟩,Ej SE (acO.2 ⟨j,h5,hy⟩)⟩
section
variable {ops:Array Oper} {al:List aS} {m:Nat} {env:Env} {Dd:Nat->D} {R:Nat->Rows}
theorem Gw.come(h:Gw C P n ops al m env Dd R){L:Array Bool}{n9 ρ:Pl}{T0 T:Nat->Prop}{a:Act}{w0 w:World}(hI:KG C n al m env Dd R n9 T0 w0 L ρ T a w):
  eQ n ρ T (iv al m L (nt al Dd env m)) (R m) a w:=by
 refine⟨⟨λr row Lc h1 h2=>?_,λr r' row row' Lc H7 h1 h2 h3 h4=>?_⟩,λt d hl=>?_,hI.size,hI.w8,hI.w9,hI.defers⟩
 ·have hr:=aR h1
  have:=(hI.rows m (aax _)).row r row Lc h1 (by unfold mu;rw[aaJ hr];exact h2)
  exact this.mono lU (λ_ _=>rfl) (λ_ h=>h) rfl this.nZ
 ·have hr:=aR h1
  have u7:=aR h2
  exact(hI.rows m (aax _)).lR r r' row row' Lc H7 h1 h2 (by unfold mu;rw[aaJ hr];exact h3) (by unfold mu;rw[aaJ u7];exact h4)
 ·obtain⟨h5,h6⟩:=pe hl
  exact(h.sees hI (aax _) (λj hj he=>⟨aa6 λhn=>h6 j hj hn he,hj⟩) h5).mono lU (λ_ _=>rfl) (λ_ h=>h)
theorem Gw.any2 (hD : DOK2 ops.toList al m) (h : Gw C P n ops al m env Dd R) {K : Env -> Rows -> Prop} {Q' : Exit -> Act -> World -> Prop} {n9 : Pl} {T0 : Nat -> Prop} {w0 : World}
  (hst:tU C (nt al Dd env m) (R m) ((dly ops.toList m m).filterMap λj=>al[j]?))(Vq:xj C (Fz ops.toList al m m (ops.size-m)) (nt al Dd env m) (R m) K)
  (hK:∀env' aa ρ' T' a' w',K env' aa->eQ n ρ' T' env' aa a' w'->Step n9 T0 (R 0) w0 ρ' T' aa w'->Q' .normal a' w'):
  ∀(fuel:Nat) (L:Array Bool) (ρ:Pl) (T:Nat->Prop) (a:Act) (w:World),jg L ops.size<=fuel->L.size=ops.size->(∀j,done L j->j<m)->(∀i,done L i->∀j,v7 ops.toList i j=true->done L j)->KG C n al m env Dd R n9 T0 w0 L ρ T a w->wpAny P .any ops Q' fuel L a w:=by
 obtain⟨hlen,lp⟩:=h.toNg.get
 have hm:m<=ops.size:=by have:=h.ok.le;simpa using this
 intro fuel
 have go:∀(fuel:Nat) (L:Array Bool) (ρ:Pl) (T:Nat->Prop) (a:Act) (w:World),jg L ops.size<=fuel->L.size=ops.size->(∀j,done L j->j<m)->(∀i,done L i->∀j,v7 ops.toList i j=true->done L j)->KG C n al m env Dd R n9 T0 w0 L ρ T a w->
   ((∀j,j<m->done L j)\/∃i,i∈Region.ready .any ops L/\m<=i)->wpAny P .any ops Q' fuel L a w:=by
  intro fuel L ρ T a w hf hsz RZ jt hI hq
  refine Xm hD h.toNg hK fuel L m _ _ ρ T a w (aax _) hm hf hsz (λj hj qo=>by have:=RZ j qo;omega) (λj h1 h2=>by omega) jt (λj hj hn=>?_) Vq (h.come hI) hI.aZ hI.step
  rcases hq with hq|⟨i,hi,hmi⟩
  ·exact absurd (hq j hj) hn
  ·obtain⟨⟨o',PF⟩,h1,h2⟩:=gT hi
   have pY:i<ops.size:=(aaR.1 PF).1
   obtain⟨x,hx,Xo⟩:=hD.tail i (by simpa using pY) hmi
   have O0:i=m:=by
    rcases aaT m i with h3|h3
    ·exfalso
     rcases Xo m h3 with h4|⟨h4,_⟩
     ·have:=RZ m (mw jt 2 i m h2 h4);omega
     ·omega
    ·omega
   subst O0
   have hna:KB ops.toList 2 i j=false:=by
    cases hb:KB ops.toList 2 i j with
    |false=>rfl
    |true=>exact absurd (mw jt 2 i j h2 hb) hn
   rcases Xo j hj with h4|⟨_,y,t,hy,hyg,H9,_⟩
   ·rw[hna]at h4;cases h4
   ·exact⟨y,hy,hyg,⟨t,H9⟩,Ej hst (acO.2 ⟨j,by simp[dly,hj,hna],hy⟩)⟩
 induction fuel with
 |zero=>
  intro L ρ T a w hf hsz RZ jt hI
  refine go 0 L ρ T a w hf hsz RZ jt hI (.inl λj hj=>?_)
  refine aa6 λhn=>?_
  have:=jh (k:=ops.size) (i:=j) (by omega) (by omega) (lD hn (by omega))
  omega
 | succ fuel ih =>
  intro L ρ T a w hf hsz RZ jt hI
  by_cases hq:(∀j,j<m->done L j)\/∃i,i∈Region.ready .any ops L/\m<=i
  ·exact go (fuel+1) L ρ T a w hf hsz RZ jt hI hq
  ·have bW : ¬ ∀ j, j < m -> done L j := λh => hq (.inl h)
   refine⟨λhr=>?_,λi hi=>?_⟩
   ·exfalso
    --the least one not done is ready
    have key : ∀ k, (∀ j, j < k -> j < m -> done L j) \/ ∃ j, j < k /\ j < m /\ ¬ done L j /\ ∀ j', j' < j -> done L j' := by
     intro k
     induction k with
     |zero=>left;intro j hj;omega
     | succ k ihk =>
      rcases ihk with h1|⟨j,q1,q2,q3,q4⟩
      ·by_cases hk:k<m/\¬done L k
       ·right
        exact⟨k,by omega,hk.1,hk.2,λj' qn=>h1 j' qn (by omega)⟩
       ·left
        intro j hj hjm
        rcases aaT j k with h3|h3
        ·exact h1 j h3 hjm
        ·have:j=k:=by omega
         subst this
         refine aa6 λhn=>?_
         exact hk ⟨hjm,hn⟩
      ·right;exact⟨j,by omega,q2,q3,q4⟩
    rcases key m with h1|⟨j,q1,q2,q3,q4⟩
    ·exact bW λj hj=>h1 j hj hj
    ·have:j∈Region.ready .any ops L:=ua (by omega) (lD q3 (by omega)) (λj' qn=>q4 j' (h.ok.back j j' qn))
     rw[hr]at this
     cases this
   ·obtain⟨⟨o',PF⟩,h1,h2⟩:=gT hi
    have pY:i<ops.size:=(aaR.1 PF).1
    obtain⟨DX,pZ⟩:=pd h1
    have O0:i<m:=by
     rcases aaT i m with h3|h3
     ·exact h3
     ·exact absurd (.inr ⟨i,hi,h3⟩) hq
    obtain⟨o,x,ho,hx,q1,q2,q3,q4⟩:=lp i pY
    obtain⟨x',new,hx',hR,hE⟩:=h.tr i O0
    rw[hx]at hx'
    cases hx'
    obtain⟨x',o',hx',ho'',hqa,hqo,_,hu⟩:=h.ok.quiet i O0
    rw[hx]at hx'
    cases hx'
    have ho3:ops[i]?=some o':=by simpa using ho''
    rw[ho]at ho3
    cases ho3
    have hs:eQ n (mu ρ (R i).length) T (small (nt al Dd env i) (px x)) (R i) a w:=by
     refine⟨hI.rows i (by omega),λt d hl=>?_,hI.size,hI.w8,λr hr=>?_,hI.defers⟩
     ·obtain⟨ht,hl⟩:=yW hl
      refine h.sees hI (by omega) (λj hj Vn=>?_) hl
      have:=hu t ht j hj Vn
      exact⟨h2 j this,h.ok.back i j this⟩
     ·unfold mu;rw[aaC (by omega)]
    have tR:bC al i=o.dst:=by simp[bC,hx,q4]
    refine ex_wp h.nor h.ctx ho q2 q3 hs hI.aZ hqo hE.congr ?_
    intro ρ' T' v w' ib cw mW Ps
    have hI':=h.next hI O0 pZ DX (λt ht=>BN q1 t (by rw[<-tR];exact ht)) ib cw mW Ps.1 Ps.2
    rw[tR]at hI'
    refine ih _ _ T' _ w' ?_ (by simpa using hsz) (λj hj=>?_) (λi' hi' j hj=>?_) hI'
    ·have:=jh pY pZ h1
     omega
    ·rcases(bT pZ).1 hj with h3|h3
     ·exact RZ j h3
     ·omega
    ·refine(bT pZ).2 (.inl ?_)
     rcases(bT pZ).1 hi' with h3|h3
     ·exact jt i' h3 j hj
     ·subst h3;exact h2 j hj
end
theorem SK{al:List aS}{m j:Nat}(hj:j<m):bC (al.take m) j=bC al j:=by
 unfold bC
 rw[abn hj]
theorem ue{al:List aS}{m:Nat}{Dd:Nat->D}{env:Env}:∀(i:Nat),i<=m->nt (al.take m) Dd env i=nt al Dd env i
 |0,_=>rfl
 |i+1,h=>by simp only[nt,ue (m:=m) i (by omega),SK (j:=i) (show i<m by omega)]
theorem PN(hN:∀f,C.cV f=none)(hC:aI C P)(hP:P.follows .mixedOrders=true){id:Nat}{ops:Array Oper}{al:List aS}{m:Nat}(hc:AB P n ops.toList ops.toList=some al)(hd:W0 ops.toList al m=true)
  {env:Env}{rows:Rows}{ρ:Pl}{T:Nat->Prop}{a:Act}{w:World}{Q:gF->Env->Rows->Prop}{Q':Exit->Act->World->Prop}
  (h:dR C (al.take m) env rows λenv rows=>tU C env rows ((dly ops.toList m m).filterMap λj=>al[j]?)/\xj C (Fz ops.toList al m m (ops.toList.length-m)) env rows (Q .normal))(hs:eQ n ρ T env rows a w)(hg:eS C w T)
  (hp:Post n ρ T rows w Q Q'):(Code.region id ops true).wp P Q' a w:=by
 have hok:=Xj hd
 have hlen:=(xD hc).1
 have hml:m<=al.length:=by rw[hlen];exact hok.le
 have hq:∀i,i<m->∃x,(al.take m)[i]?=some x/\oH x.op=true:=by
  intro i hi
  obtain⟨x,o,h1,_,h3,_⟩:=hok.quiet i hi
  exact⟨x,by rw[abn hi];exact h1,h3⟩
 obtain⟨Dd,R,h0,h1,h2⟩:=trace hN m (by simp;omega) hq h
 subst h0
 have Sv:(al.take m).drop m=[]:=acp (by simp;omega)
 rw[Sv,ue m (aax _)]at h2
 obtain⟨h2a,h2b⟩:=h2
 have h1':∀i,i<m->∃x new,al[i]?=some x/\R (i+1)=R i++new/\Ex C (nt al Dd env i) (R i) x (Dd i) (R (i+1)):=by
  intro i hi
  obtain⟨x,new,q1,q2,q3⟩:=h1 i hi
  rw[abn hi]at q1
  rw[ue i (by omega)]at q3
  exact⟨x,new,q1,q2,q3⟩
 have hrun:Gw C P n ops al m env Dd R:=⟨⟨hok.toXi,hc,hC⟩,hN,h1'⟩
 have hw1:eQ n ρ T env (R 0) a {w with drawn:=w.drawn+1}:=hs.heap rfl
 have SI:eS C {w with drawn:=w.drawn+1} T:=hg.keep (λ_ _=>rfl) (λ_ h=>h)
 have PH:∀j,¬done (Array.replicate ops.size false) j:=by
  intro j hj
  unfold done at hj
  simp[Array.getD]at hj
 have hsz:ops.toList.length-m=ops.size-m:=by simp
 rw[hsz]at h2b
 refine wp_region_any hP (hrun.any2 hok h2a h2b (w0:={w with drawn:=w.drawn+1}) (n9:=ρ) (T0:=T) ?_ ops.size _ ρ T a _ ?_ (by simp) (λj hj=>absurd hj (PH j)) (λi hi=>absurd hi (PH i)) (hrun.start hw1 SI PH))
 ·intro env' aa ρ' T' a' w' hk ib cw
  exact hp .normal env' aa ρ' T' a' w' hk ib ⟨cw.pl,cw.tt,cw.vn,cw.size,cw.keep,cw.fresh,cw.os,cw.tape,cw.output,cw.len,cw.same⟩
 ·unfold jg
  exact aa3 (acx _ _) (by simp)
theorem PO(hC:aI C P)(hP:P.follows .mixedOrders=true){id:Nat}{ops:Array Oper}{al:List aS}{m:Nat}(hc:AB P n ops.toList ops.toList=some al)(hd:dOK ops.toList al m=true)
  {env:Env}{rows:Rows}{ρ:Pl}{T:Nat->Prop}{a:Act}{w:World}{Q:gF->Env->Rows->Prop}{Q':Exit->Act->World->Prop}
  (h:dR C.quiet (al.take m) env rows λenv rows=>dR C (al.drop m) env rows (Q .normal))(hs:eQ n ρ T env rows a w)(hg:eS C w T)
  (hp:Post n ρ T rows w Q Q'):(Code.region id ops true).wp P Q' a w:=by
 have hok:=PA hd
 have hlen:=(xD hc).1
 have hml:m<=al.length:=by rw[hlen];exact hok.le
 have hq:∀i,i<m->∃x,(al.take m)[i]?=some x/\oH x.op=true:=by
  intro i hi
  obtain⟨x,o,h1,_,h3,_⟩:=hok.quiet i hi
  exact⟨x,by rw[abn hi];exact h1,h3⟩
 have hN:∀f,C.quiet.cV f=none:=λ_=>rfl
 obtain⟨Dd,R,h0,h1,h2⟩:=trace hN m (by simp;omega) hq h
 subst h0
 have Sv:(al.take m).drop m=[]:=acp (by simp;omega)
 rw[Sv,ue m (aax _)]at h2
 have Zy:dR C (al.drop m) (nt al Dd env m) (R m) (Q .normal):=h2
 have h1':∀i,i<m->∃x new,al[i]?=some x/\R (i+1)=R i++new/\Ex C.quiet (nt al Dd env i) (R i) x (Dd i) (R (i+1)):=by
  intro i hi
  obtain⟨x,new,q1,q2,q3⟩:=h1 i hi
  rw[abn hi]at q1
  rw[ue i (by omega)]at q3
  exact⟨x,new,q1,q2,q3⟩
 have hrun:Gw C.quiet P n ops al m env Dd R:=⟨⟨hok.toXi,hc,hC.quiet⟩,hN,h1'⟩
 have hw1:eQ n ρ T env (R 0) a {w with drawn:=w.drawn+1}:=hs.heap rfl
 have Sw:eS C.quiet w T:=hg
 have SI:eS C.quiet {w with drawn:=w.drawn+1} T:=Sw.keep (λ_ _=>rfl) (λ_ h=>h)
 have PH:∀j,¬done (Array.replicate ops.size false) j:=by
  intro j hj
  unfold done at hj
  simp[Array.getD]at hj
 refine wp_region_any hP (hrun.any hok hC (λ_ _ h=>h) Zy (w0:={w with drawn:=w.drawn+1}) (n9:=ρ) (T0:=T) ?_ ops.size _ ρ T a _ ?_ (by simp) (λj hj=>absurd hj (PH j)) (λi hi=>absurd hi (PH i)) (hrun.start hw1 SI PH))
 ·intro env' aa ρ' T' a' w' hk ib cw
  exact hp .normal env' aa ρ' T' a' w' hk ib ⟨cw.pl,cw.tt,cw.vn,cw.size,cw.keep,cw.fresh,cw.os,cw.tape,cw.output,cw.len,cw.same⟩
 ·unfold jg
  exact aa3 (acx _ _) (by simp)
theorem Xp{ops:List Oper}{al:List aS}{m:Nat}(h:M3 ops al=some m):dOK ops al m=true:=by
 unfold M3 at h
 have:=aer h
 simpa using this
end Go.Am
namespace Go.Am
variable {C:aU} {P:Program} {n:Nat}
def undF(al:List aS)(F:List Nat)(L:Array Bool):List Nat:=F.filterMap λj=>bif L.getD j false then none else bC al j
theorem PP{al:List aS}{F:List Nat}{L:Array Bool}{t:Nat}:t∈undF al F L↔∃j,j∈F/\¬done L j/\bC al j=some t:=by
 unfold undF done
 rw[acO]
 constructor
 ·rintro⟨j,hj,h⟩
  cases hb:L.getD j false with
  |true=>rw[hb]at h;cases h
  |false=>rw[hb]at h;exact⟨j,hj,by rw[hb];simp,h⟩
 ·rintro⟨j,hj,h1,h2⟩
  refine⟨j,hj,?_⟩
  have:L.getD j false=false:=by simpa using h1
  rw[this];exact h2
def zv(al:List aS)(F:List Nat)(L:Array Bool)(env:Env):Env:=PI env (undF al F L)
theorem mZ{al:List aS}{F:List Nat}{L:Array Bool}{env:Env}{t:Nat}(h:∀j,j∈F->¬done L j->bC al j≠some t):look (zv al F L env) t=look env t:=by
 unfold zv
 rw[uc,aaC]
 rw[PP]
 rintro⟨j,h1,h2,h3⟩
 exact h j h1 h2 h3
theorem jx{al:List aS}{F:List Nat}{L:Array Bool}{env:Env}{t:Nat}{d:D}(h:look (zv al F L env) t=some d):look env t=some d/\∀j,j∈F->¬done L j->bC al j≠some t:=by
 unfold zv at h
 rw[uc]at h
 split at h
 ·cases h
 ·rename_i hn
  refine⟨h,λj h1 h2 h3=>hn (PP.2 ⟨j,h1,h2,h3⟩)⟩
def lE(env:Env)(t:Nat):Option Nat:=match look env t with
 |some (.ptr _ r _)=>some r
 |some (.sl _ r _ _ _ _)=>some r
 | _=>none
def ru:nY->Bool
 | .alloc _ _=>true
 | .fw _ _ _ _=>true
 | _=>false
structure FInv (al:List aS) (F:List Nat) (L:Array Bool) (b0:Nat) (env:Env) (rows:Rows) (ρ:Pl):Prop where
 hole:∀j,j∈F->¬done L j->∀x t,al[j]?=some x->x.dst=some t->ru x.op=true->∃r,lE env t=some r/\b0<=r/\r<rows.length/\ρ r=none
 lR:∀j j',j∈F->j'∈F->¬done L j->¬done L j'->j≠j'->∀x t x' t',al[j]?=some x->x.dst=some t->ru x.op=true->al[j']?=some x'->x'.dst=some t'->ru x'.op=true->lE env t≠lE env t'
mutual
theorem LK:∀(d:D),Gn d=true->∀x∈d.flat,∃v,x= .raw v
 | .raw v,_,x,hx=>by simp[D.flat]at hx;exact⟨v,hx⟩
 | .agg s l,h,x,hx=>by
  simp only[D.flat]at hx
  exact Ib l (by simpa[Gn]using h) x hx
 | .ptr _ _ _,h,_,_=>by simp[Gn]at h
 | .sl _ _ _ _ _ _,h,_,_=>by simp[Gn]at h
 | .nX _ _ _ _ _,h,_,_=>by simp[Gn]at h
 | .dh _ _ _,h,_,_=>by simp[Gn]at h
 | .cb _,h,_,_=>by simp[Gn]at h
 | .cd _,h,_,_=>by simp[Gn]at h
 | .mp _,h,_,_=>by simp[Gn]at h
 | .om _ _,h,_,_=>by simp[Gn]at h
theorem Ib:∀(l:List D),U7 l=true->∀x∈ak l,∃v,x= .raw v
 |[],_,x,hx=>by simp[ak]at hx
 |d::l,h,x,hx=>by
  simp only[U7,aan]at h
  simp only[ak,aaQ]at hx
  rcases hx with hx|hx
  ·exact LK d h.1 x hx
  ·exact Ib l h.2 x hx
end
theorem Ni{o:nY}(h:D5 o=true):oH o=true:=by cases o<;>first|exact h|rfl|(simp[D5]at h)
theorem Xq(hN:∀f,C.cV f=none){env:Env}{rows:Rows}{o:nY}{k:D->Rows->Prop}(hf:D5 o=true)(h:dX C env rows o k):
  ∃d new,k d (rows++new)/\(ru o=true->new.length=1/\∀t env,lE ((t,d)::env) t=some rows.length):=by
 cases hm:ru o with
 |false=>
  obtain⟨d,new,h1,_⟩:=Nf hN o (Ni hf) _ h
  exact⟨d,new,h1,λh=>by cases h⟩
 | true =>
  cases o with
  |alloc s z=>exact⟨_,_,h,λ_=>⟨rfl,λt env=>by simp[lE,look]⟩⟩
  |fw s m z ps=>
   obtain⟨l,_,h2⟩:=au h
   exact⟨_,_,h2,λ_=>⟨rfl,λt env=>by simp[lE,look]⟩⟩
  | _=>cases hm
theorem uf{ops:List Oper}{al:List aS}{i:Nat}(h:fOK ops al i=true):∃o x t,ops[i]?=some o/\al[i]?=some x/\D5 x.op=true/\iC o.op=true/\(x.guard=none\/ru x.op=false)/\x.dst=some t:=by
 unfold fOK at h
 split at h
 ·rename_i o x ho hx
  simp only[aan]at h
  obtain⟨⟨⟨h1,h2⟩,h3⟩,h4⟩:=h
  obtain⟨t,ht⟩:=aee.1 h4
  refine⟨o,x,t,ho,hx,h1,h2,?_,ht⟩
  rcases ady.1 h3 with h3|h3
  ·exact .inl (by simpa using h3)
  ·refine .inr ?_
   have:=(acU.1 h3).1
   revert this
   generalize x.op=e
   intro he
   cases e<;>first|rfl|cases he
 ·cases h
theorem ug{ops:List Oper}{al:List aS}{prev:Option Nat}{F:List Nat}{i:Nat}(h:okF1 ops al prev F i=true):
  fOK ops al i=true/\i∉F/\(∀j∈F,bC al j≠bC al i)/\(∀c,prev=some c->KB ops 2 i c=true)/\∀x,al[i]?=some x->∀t∈px x,∀j,j<ops.length->bC al j=some t->v7 ops i j=true:=by
 simp only[okF1,aan]at h
 obtain⟨⟨⟨⟨h1,h2⟩,h3⟩,h4⟩,h5⟩:=h
 refine⟨h1,by simpa using h2,λj hj=>?_,λc hc=>?_,λx hx t ht j hj hd=>?_⟩
 ·have:=aa4.1 h3 j hj
  simpa using this
 ·subst hc;exact h4
 ·rw[hx]at h5
  have:=aa4.1 (aa4.1 h5 t ht) j (by simpa using hj)
  simpa[hd]using this
theorem pB{ops:List Oper}{al:List aS}{prev:Option Nat}:∀{l F:List Nat},D6 ops al prev F l=true->∀i∈l,fOK ops al i=true/\(∀c,prev=some c->KB ops 2 i c=true)/\∀x,al[i]?=some x->∀t∈px x,∀j,j<ops.length->bC al j=some t->v7 ops i j=true
 |[],_,_,i,hi=>by simp at hi
 | k :: l, F, h, i, hi => by
  simp only[D6,aan]at h
  rcases aaI.1 hi with rfl|hi
  ·obtain⟨h1,_,_,h4,h5⟩:=ug h.1
   exact⟨h1,h4,h5⟩
  ·exact pB h.2 i hi
theorem atU_cons{al:List aS}{i:Nat}{l:List Nat}{x:aS}(h:al[i]?=some x):atU al (i::l)=noG x::atU al l:=by
 simp[atU,atL,h]
theorem Ic{ops:List Oper}{al:List aS}{L:Array Bool}{b0:Nat}{ρ:Pl}{T:Nat->Prop}{a:Act}{w:World}{prev:Option Nat}{K:Env->Rows->Prop}(hN:∀f,C.cV f=none):∀(fl F:List Nat) (env:Env) (rows:Rows),D6 ops al prev F fl=true->dR C (atU al fl) env rows K->(∀j∈fl,¬done L j)->
  FInv al F L b0 env rows ρ->b0<=rows.length->eQ n ρ T (zv al F L env) rows a w->∃env' aa,K env' aa/\FInv al (F++fl) L b0 env' aa ρ/\eQ n ρ T (zv al (F++fl) L env') aa a w/\∃new,aa=rows++new
 |[],F,env,rows,_,h,_,hI,_,hs=>⟨env,rows,h,by rw[aaS];exact hI,by rw[aaS];exact hs,[],by simp⟩
 | i :: l, F, env, rows, hok, h, DX, hI, hb, hs => by
  simp only[D6,aan]at hok
  obtain⟨h1,hiF,huq,_,_⟩:=ug hok.1
  obtain⟨o,x,t,ho,hx,hfa,_,_,ht⟩:=uf h1
  have hdi:bC al i=some t:=by simp[bC,hx,ht]
  rw[atU_cons hx]at h
  obtain⟨dst,op,g⟩:=x
  simp only[noG]at hfa ht h
  subst ht
  obtain⟨d,new,h2,hmk⟩:=Xq hN hfa h
  have hni:¬done L i:=DX i (.head _)
  have KC:∀j∈F,∀t',bC al j=some t'->look ((t,d)::env) t'=look env t':=by
   intro j hj t' qn
   have hne:t≠t':=λe=>huq j hj (by rw[qn,hdi,e])
   have:(t==t')=false:=by simpa using hne
   simp[look,this]
  have hho:∀j∈F,∀t',bC al j=some t'->lE ((t,d)::env) t'=lE env t':=by
   intro j hj t' qn
   unfold lE
   rw[KC j hj t' qn]
  have hI':FInv al (F++[i]) L b0 ((t,d)::env) (rows++new) ρ:=by
   refine⟨λj hj Kw x' t' hx' AO hm'=>?_,λj j' hj qn Kw Nj hne x1 t1 x2 t2 rq O3 wg FG ht2 KJ=>?_⟩
   ·rcases aaQ.1 hj with hj|hj
    ·obtain⟨r,q1,q2,q3,q4⟩:=hI.hole j hj Kw x' t' hx' AO hm'
     exact⟨r,by rw[hho j hj t' (by simp[bC,hx',AO])];exact q1,q2,by rw[aap];omega,q4⟩
    ·rw[aba.1 hj]at hx'
     rw[hx]at hx'
     cases hx'
     cases AO
     obtain⟨q1,q2⟩:=hmk hm'
     exact⟨rows.length,q2 _ _,hb,by rw[aap,q1];omega,hs.w9 _ (aax _)⟩
   ·have one:∀(j:Nat),j∈F->¬done L j->∀(x1:aS) (t1:Nat),al[j]?=some x1->x1.dst=some t1->ru x1.op=true->ru op=true->lE ((t,d)::env) t1≠lE ((t,d)::env) t:=by
     intro j hj Kw x1 t1 rq O3 wg hmo he
     obtain⟨r,q1,q2,q3,q4⟩:=hI.hole j hj Kw x1 t1 rq O3 wg
     rw[hho j hj t1 (by simp[bC,rq,O3]),q1,(hmk hmo).2]at he
     cases he
     omega
    rcases aaQ.1 hj with hj|hj
    ·rcases aaQ.1 qn with qn|qn
     ·rw[hho j hj t1 (by simp[bC,rq,O3]),hho j' qn t2 (by simp[bC,FG,ht2])]
      exact hI.lR j j' hj qn Kw Nj hne x1 t1 x2 t2 rq O3 wg FG ht2 KJ
     ·rw[aba.1 qn,hx]at FG
      cases FG
      cases ht2
      exact one j hj Kw x1 t1 rq O3 wg KJ
    ·rw[aba.1 hj,hx]at rq
     cases rq
     cases O3
     rcases aaQ.1 qn with qn|qn
     ·exact(one j' qn Nj x2 t2 FG ht2 KJ wg).symm
     ·exact absurd ((aba.1 hj).trans (aba.1 qn).symm) hne
  have ib:eQ n ρ T (zv al (F++[i]) L ((t,d)::env)) (rows++new) a w:=by
   have zu:∀r Lc,ρ r=some Lc->r<rows.length:=by
    intro r Lc hr
    rcases aaT r rows.length with h1|h1
    ·exact h1
    ·rw[hs.w9 r h1]at hr;cases hr
   refine⟨⟨λr row Lc q1 q2=>?_,λr r' row row' Lc H7 q1 q2 q3 q4=>?_⟩,λt' d' hl=>?_,hs.size,hs.w8,λr hr=>hs.w9 r (by rw[aap]at hr;omega),hs.defers⟩
   ·rw[iE rfl (zu r Lc q2)]at q1
    exact hs.bF.row r row Lc q1 q2
   ·rw[iE rfl (zu r Lc q3)]at q1
    rw[iE rfl (zu r' H7 q4)]at q2
    exact hs.bF.lR r r' row row' Lc H7 q1 q2 q3 q4
   ·obtain⟨q1,q2⟩:=jx hl
    have hne:t≠t':=λe=>q2 i (by simp) hni (by rw[hdi,e])
    have HI:(t==t')=false:=by simpa using hne
    simp only[look,HI,aaK]at q1
    refine hs.env t' d' ?_
    rw[mZ λj hj hn=>q2 j (by simp[hj]) hn]
    exact q1
  obtain⟨env',aa,k1,k2,k3,new',k4⟩:=Ic hN l (F++[i]) ((t,d)::env) (rows++new) hok.2 h2 (λj hj=>DX j (.tail _ hj)) hI' (by rw[aap];omega) ib
  exact⟨env',aa,k1,by rw[aaB]at k2;exact k2,by rw[aaB]at k3;exact k3,new++new',by rw[k4,aaB]⟩
structure Mk (C:aU) (env:Env) (rows:Rows) (op:nY) (d:D) (r0:Nat) (d0:D) (row:Row):Prop where
 run:∀k:D->Rows->Prop,k d0 (rows++[some row])->dX C env rows op k
 lv:live rows r0=some row
 raw:(∀e∈row.els,aL row.sh e)->∀y∈ak row.els,∃v,y= .raw v
 vr:∀(ρ1 Sa:Pl) (w:World) (T:Nat->Prop) (v:Value),ρ1 rows.length=Sa r0->VR ρ1 w T d0 v->VR Sa w T d v
theorem mk_of{env henv:Env}{rows:Rows}{op:nY}{t:Nat}(hm:ru op=true)(hf:D5 op=true)(yV:∀y∈op.xs,ev C henv y=ev C env y)(h:jf C env rows op t):
  ∃d r0 d0 row,look env t=some d/\lE env t=some r0/\Mk C henv rows op d r0 d0 row:=by
 cases op with
 | alloc s z =>
  obtain⟨d,hd,h⟩:=au h
  cases d with
  | ptr s' r p =>
   obtain⟨rfl,rfl,hl⟩:=h
   refine⟨_,r,.ptr s' rows.length [0],⟨s',[z]⟩,hd,by simp[lE,hd],λk hk=>hk,hl,λ_ y hy=>?_,λρ1 Sa w T v he hv=>?_⟩
   ·simp only[ak,aaS]at hy
    exact LK z hf y hy
   ·have:=hv.Bz rfl
    cases this with
    |ptr _ _ _ L h1 h2=>exact VR.bE (.ptr _ _ _ L (by rw[<-he];exact h1) h2)
  | _=>exact h.elim
 | fw s m z ps =>
  obtain⟨l,G9,h⟩:=au h
  obtain⟨d,hd,h⟩:=au h
  cases d with
  | sl s' r p off len ex =>
   obtain⟨rfl,rfl,rfl,rfl,rfl,hl⟩:=h
   refine⟨_,r,.sl s' rows.length [] 0 len true,⟨s',l⟩,hd,by simp[lE,hd],λk hk=>?_,hl,λhe y hy=>lB he hf y hy,λρ1 Sa w T v he hv=>?_⟩
   ·show bj (qi C henv (Sh.ar len s').sub ps (List.replicate len z)) _
    rw[sW (env':=env) yV,G9]
    exact hk
   ·have:=hv.Bz rfl
    cases this with
    |sl _ _ _ _ _ _ L cap h1 h2 h3 h4=>exact VR.bE (.sl _ _ _ _ _ _ L cap (by rw[<-he];exact h1) h2 h3 h4)
    |Bm _ _ _ _ _ a=>exact VR.bE (.Bm _ _ _ _ _ a)
  | _=>exact h.elim
 | _=>cases hm
theorem Xr{o:Oper}{op:nY}{env:Env}{rows eN:Rows}{ρ n9:Pl}{T T0:Nat->Prop}{a:Act}{w w0:World}{d d0:D}{r0:Nat}{row:Row}{next:Act->World->Prop}{Q':Exit->Act->World->Prop}
  (hN:∀f,C.cV f=none)(hC:aI C P)(hop:cOp P o.op=some op)(hq:iC o.op=true)(hs:eQ n ρ T env rows a w)(hg:eS C w T)(M:Mk C env rows op d r0 d0 row)(hr0:ρ r0=none)(hb:eN.length<=r0)(hst:Step n9 T0 eN w0 ρ T rows w)
  (hn:∀ρ' T' v w',eQ n ρ' T' env rows a w'->VR ρ' w' T' d v->Step n9 T0 eN w0 ρ' T' rows w'->eS C w' T'->(∀r,r≠r0->ρ' r=ρ r)->next (a.put o.dst v) w'):o.wp P a w next Q':=by
 refine BM hs hg hC hop (M.run (λd2 r2=>d2=d0/\r2=rows++[some row]) ⟨rfl,rfl⟩) ?_
 rintro d2 r2 ρ' T' v w' ⟨rfl,rfl⟩ ib cw hv hk
 obtain⟨hqh,qJ⟩:=hk hN hq
 have hr0l:=aR M.lv
 let KI:Pl:=λr=>if r=r0 then ρ' rows.length else ρ r
 have e0:KI r0=ρ' rows.length:=aaJ rfl
 have e1:∀r,r≠r0->KI r=ρ r:=λr hr=>aaC hr
 have hA:∀r Lc,ρ r=some Lc->KI r=some Lc:=by
  intro r Lc hr
  rw[e1 r (λe=>by rw[e,hr0]at hr;cases hr)]
  exact hr
 have zu:∀r Lc,ρ r=some Lc->r<rows.length:=by
  intro r Lc hr
  rcases aaT r rows.length with h1|h1
  ·exact h1
  ·rw[hs.w9 r h1]at hr;cases hr
 have hw:∀b,T b->w'.heap[b]?=w.heap[b]?:=λb hb=>by
  rcases hqh b (hs.w8 b hb)with h1|⟨_,r,row',Lc,h2,h3,rfl⟩
  ·exact h1
  ·exact absurd hb (hs.bF.row r row' Lc h2 h3).nZ
 have hlN:live (rows++[some row]) rows.length=some row:=v8 rows row
 have hold:∀r row' Lc,live rows r=some row'->ρ r=some Lc->nC KI row' Lc w' T':=by
  intro r row' Lc h1 h2
  have hro:=hs.bF.row r row' Lc h1 h2
  refine hro.Z4 hA hw cw.tt ((hqh _ hro.lt).imp_right (·.1)) (λhT=>?_)
  rcases qJ _ hT with h4|h4
  ·exact hro.nZ h4
  ·have:=hro.lt;omega
 have jO:∀Lc,ρ' rows.length=some Lc->nC KI row Lc w' T':=by
  intro Lc h
  have hro:=ib.bF.row rows.length row Lc hlN h
  refine⟨hro.sh,hro.nZ,hro.els,λhm=>?_,hro.rb⟩
  obtain⟨cur,t,q1,q2,q3,q4⟩:=hro.cells hm
  exact⟨cur,t,q1,q2,q3,q4.ofRaw (M.raw hro.els)⟩
 have qm:∀r Lc,ρ r=some Lc->ρ' r=some Lc:=cw.pl
 have tI:eQ n KI T' env rows a w':=by
  refine⟨⟨λr row' Lc h1 h2=>?_,λr r' Gq sK Lc H7 h1 h2 h3 h4 hne=>?_⟩,λt' d' hl=>(hs.env t' d' hl).mono hA hw cw.tt,ib.size,ib.w8,λr hr=>?_,ib.defers⟩
  ·by_cases hr:r=r0
   ·subst hr
    rw[M.lv]at h1
    cases h1
    rw[e0]at h2
    exact jO Lc h2
   ·rw[e1 r hr]at h2
    exact hold r row' Lc h1 h2
  ·by_cases hr:r=r0
   ·have u7:r'≠r0:=λe=>hne (hr.trans e.symm)
    subst hr
    rw[e0]at h3
    rw[e1 r' u7]at h4
    have nA:=zu r' H7 h4
    exact ib.bF.lR rows.length r' row sK Lc H7 hlN (by rw[iE rfl nA];exact h2) h3 (qm _ _ h4) (by omega)
   ·rw[e1 r hr]at h3
    have hl:=zu r Lc h3
    by_cases u7:r'=r0
    ·subst u7
     rw[e0]at h4
     exact ib.bF.lR r rows.length Gq row Lc H7 (by rw[iE rfl hl];exact h1) hlN (qm _ _ h3) h4 (by omega)
    ·rw[e1 r' u7]at h4
     exact hs.bF.lR r r' Gq sK Lc H7 h1 h2 h3 h4 hne
  ·rw[e1 r (by omega)]
   exact hs.w9 r hr
 have htr:=hst.trans cw
 refine hn KI T' v w' tI (M.vr ρ' KI w' T' v e0.symm hv) ⟨λr Lc hr=>hA r Lc (hst.pl r Lc hr),htr.tt,htr.vn,htr.size,htr.keep,λr row' Lc h1 h2=>?_,htr.os,htr.tape,htr.output,hst.len,λr hr=>?_⟩ (hg.step hs cw) e1
 ·by_cases hr:r=r0
  ·subst hr
   rw[e0]at h2
   exact htr.fresh rows.length row Lc hlN h2
  ·rw[e1 r hr]at h2
   have hl:=zu r Lc h2
   exact htr.fresh r row' Lc (by rw[iE rfl hl];exact h1) (qm _ _ h2)
 ·rw[e1 r (by omega)]
  exact hst.same r hr
def gOK(env:Env)(y:aS):Prop:=∀g w,y.guard=some (g,w)->look env g=some (.raw (.bool w))
theorem vF{env:Env}{rows:Rows}:∀{l:List aS} {y:aS},p7 C env rows l->y∈l->∃t,y.dst=some t/\jf C env rows y.op t/\gOK env y
 |[],y,h,hy=>by simp at hy
 |⟨none,o,none⟩::l,y,h,hy=>h.1.elim
 |⟨none,o,some (g,w)⟩::l,y,h,hy=>h.2.1.elim
 |⟨some t,o,none⟩::l,y,h,hy=>by
  rcases aaI.1 hy with rfl|hy
  ·exact⟨t,rfl,h.1,λ_ _ e=>by cases e⟩
  ·exact vF h.2 hy
 |⟨some t,o,some (g,w)⟩::l,y,h,hy=>by
  rcases aaI.1 hy with rfl|hy
  ·exact⟨t,rfl,h.2.1,λ_ _ e=>by cases e;exact h.1⟩
  ·exact vF h.2.2 hy
theorem Nk{env:Env}{rows:Rows}{o:nY}{t:Nat}(hm:ru o=false)(h:jf C env rows o t):dX C env rows o (Bw env rows (some t)):=by
 cases o with
 |alloc s z=>cases hm
 |fw s m z ps=>cases hm
 | _=>exact h
theorem PQ{ops:Array Oper}{al:List aS}{L:Array Bool}(jt:∀i,done L i->∀j,v7 ops.toList i j=true->done L j){i:Nat}(hr:∀j,v7 ops.toList i j=true->done L j):∀(gs:List (Nat×List Nat)) (F:List Nat) (p:Nat),Zu ops.toList al (some p) F gs=true->¬done L p->(∀g∈gs,¬done L g.1)->Kt gs i=true->False
 |[],_,_,_,_,_,h=>by simp[Kt]at h
 | (c, fl) :: gs, F, p, hok, hp, hg, h => by
  simp only[Zu,aan]at hok
  obtain⟨⟨⟨⟨h1,h2⟩,h3⟩,h4⟩,h5⟩:=hok
  have hc:¬done L c:=hg _ (.head _)
  simp only[Kt,ac1,abM]at h
  rcases h with(h|h)|h
  ·have:c=i:=by simpa using h
   subst this
   simp only[okC,aan]at h1
   exact hp (mw jt 2 c p hr h1.1.2)
  ·have hm:i∈fl:=by simpa using h
   exact hc (mw jt 2 i c hr ((pB h4 i hm).2.1 c rfl))
  ·exact PQ jt hr gs (F++fl) c h5 hc (λg hg'=>hg g (.tail _ hg')) h
def restU(L:Array Bool)(gs:List (Nat×List Nat)):Prop:=∀i,Kt gs i=true->¬done L i
theorem Xs {ops : Array Oper} {al : List aS} (hd : Ng C P n ops al 0) {K : Env -> Rows -> Prop} {Q' : Exit -> Act -> World -> Prop} {n9 : Pl} {T0 : Nat -> Prop} {eN : Rows} {w0 : World}
  (hK:∀env' aa ρ' T' a' w',K env' aa->eQ n ρ' T' env' aa a' w'->Step n9 T0 eN w0 ρ' T' aa w'->Q' .normal a' w'):
  ∀(fuel:Nat) (gs:List (Nat×List Nat)) (F Pd:List Nat) (prev:Option Nat) (L:Array Bool) (env:Env) (rows:Rows) (ρ:Pl) (T:Nat->Prop) (a:Act) (w:World),(∀j∈F,¬done L j->j∈Pd)->jg L ops.size<=fuel->L.size=ops.size->
   Zu ops.toList al prev F gs=true->(∀i,i<ops.size->i∈F\/done L i\/Kt gs i=true)->(∀c,prev=some c->done L c)->restU L gs->
   (∀i∈F,fOK ops.toList al i=true/\∀x,al[i]?=some x->∀t∈px x,∀j,j<ops.size->bC al j=some t->v7 ops.toList i j=true)->(∀i∈F,∀j∈F,i≠j->bC al i≠bC al j)->
   (∀i,done L i->∀j,v7 ops.toList i j=true->done L j)->(∀j,j∈F->¬done L j->∃y t,al[j]?=some y/\y.dst=some t/\jf C.quiet env rows y.op t/\gOK env y)->FInv al F L eN.length env rows ρ->
   zK C (Hw ops.toList al Pd gs) env rows K->eQ n ρ T (zv al F L env) rows a w->eS C w T->Step n9 T0 eN w0 ρ T rows w->wpAny P .any ops Q' fuel L a w:=by
 obtain⟨hlen,lp⟩:=hd.get
 intro fuel
 have fin:∀(gs:List (Nat×List Nat)) (F Pd:List Nat) (L:Array Bool) (env:Env) (rows:Rows) (ρ:Pl) (T:Nat->Prop) (a:Act) (w:World),restU L gs->(∀j∈F,j<ops.size)->(∀g∈gs,g.1<ops.size)->(∀j,j<ops.size->done L j)->zK C (Hw ops.toList al Pd gs) env rows K->eQ n ρ T (zv al F L env) rows a w->Step n9 T0 eN w0 ρ T rows w->Q' .normal a w:=by
  intro gs F Pd L env rows ρ T a w ZC hF hG bW h hs hst
  cases gs with
  |cons g gs=>
   exfalso
   exact ZC g.1 (by simp[Kt]) (bW g.1 (hG g (.head _)))
  |nil=>exact hK env rows ρ T a w h (hs.ext λt d hl=>by rw[mZ (λj hj hn=>absurd (bW j (hF j hj)) hn)];exact hl) hst
 have hmin : ∀ (L : Array Bool), L.size = ops.size -> (∃ j, j < ops.size /\ ¬ done L j) -> ∃ j, j ∈ Region.ready .any ops L := by
  intro L hsz ⟨j,hj,hn⟩
  have key : ∀ q, (∀ j, j < q -> done L j) \/ ∃ j, j < q /\ ¬ done L j /\ ∀ j', j' < j -> done L j' := by
   intro q
   induction q with
   |zero=>left;intro j hj;omega
   | succ q ih =>
    rcases ih with h1|⟨j,q1,q2,q3⟩
    ·by_cases hq:done L q
     ·left;intro j hj
      rcases aaT j q with h2|h2
      ·exact h1 j h2
      ·have:j=q:=by omega
       subst this;exact hq
     ·exact .inr ⟨q,by omega,hq,h1⟩
    ·exact .inr ⟨j,by omega,q2,q3⟩
  rcases key ops.size with h1|⟨j',q1,q2,q3⟩
  ·exact absurd (h1 j hj) hn
  ·exact⟨j',ua q1 (lD q2 (by omega)) (λj'' hj''=>q3 j'' (hd.ok.back j' j'' hj''))⟩
 have BP:∀(L:Array Bool),L.size=ops.size->Region.ready .any ops L=[]->∀j,j<ops.size->done L j:=by
  intro L hsz hr j hj
  refine aa6 λhn=>?_
  obtain⟨i,hi⟩:=hmin L hsz ⟨j,hj,hn⟩
  rw[hr]at hi
  cases hi
 have ltF:∀(F:List Nat),(∀i∈F,fOK ops.toList al i=true/\∀x,al[i]?=some x->∀t∈px x,∀j,j<ops.size->bC al j=some t->v7 ops.toList i j=true)->∀j∈F,j<ops.size:=by
  intro F h j hj
  obtain⟨o,_,_,ho,_⟩:=uf (h j hj).1
  have:=dj ho
  simpa using this
 have ltG:∀(gs:List (Nat×List Nat)) (F:List Nat) (prev:Option Nat),Zu ops.toList al prev F gs=true->∀g∈gs,g.1<ops.size:=by
  intro gs
  induction gs with
  |nil=>intro F prev _ g hg;simp at hg
  | cons g gs ih =>
   obtain⟨c,fl⟩:=g
   intro F prev hok g hg
   simp only[Zu,aan]at hok
   obtain⟨⟨⟨⟨h1,h2⟩,h3⟩,h4⟩,h5⟩:=hok
   rcases aaI.1 hg with rfl|hg
   ·simp only[okC,aan]at h1
    have h6:=h1.2
    split at h6
    ·rename_i x hx
     have:=dj hx
     show c<ops.size
     omega
    ·cases h6
   ·exact ih (F++fl) (some c) h5 g hg
 induction fuel with
 | zero =>
  intro gs F Pd prev L env rows ρ T a w hPd hf hsz hok hcov hprev ZC ZD hFd jt hob hI h hs hg hst
  have bW:∀j,j<ops.size->done L j:=by
   intro j hj
   refine aa6 λhn=>?_
   have:=jh hj (by omega) (lD hn (by omega))
   omega
  refine⟨?_,fin gs F Pd L env rows ρ T a w ZC (ltF F ZD) (ltG gs F prev hok) bW h hs hst⟩
  cases hr:Region.ready .any ops L with
  |nil=>rfl
  |cons i l=>
   exfalso
   obtain⟨⟨o,ho⟩,h1,_⟩:=gT (L:=L) (ops:=ops) (i:=i) (by rw[hr];simp)
   exact(pd h1).1 (bW i (aaR.1 ho).1)
 | succ fuel ih =>
  intro gs F Pd prev L env rows ρ T a w hPd hf hsz hok hcov hprev ZC ZD hFd jt hob hI h hs hg hst
  refine⟨λhr=>?_,λi hi=>?_⟩
  ·exact fin gs F Pd L env rows ρ T a w ZC (ltF F ZD) (ltG gs F prev hok) (BP L hsz hr) h hs hst
  ·obtain ⟨⟨o', PF⟩, h1, h2⟩ := gT hi
   have pY:i<ops.size:=(aaR.1 PF).1
   obtain⟨DX,pZ⟩:=pd h1
   obtain⟨o,x,ho,hx,q1,q2,q3,q4⟩:=lp i pY
   have PK:jg (L.setIfInBounds i true) ops.size<=fuel:=by have:=jh pY pZ h1;omega
   have Xn:∀i',done (L.setIfInBounds i true) i'->∀j,v7 ops.toList i' j=true->done (L.setIfInBounds i true) j:=by
    intro i' hi' j hj
    refine(bT pZ).2 (.inl ?_)
    rcases(bT pZ).1 hi' with h3|h3
    ·exact jt i' h3 j hj
    ·subst h3;exact h2 j hj
   have vE:∀j,¬done (L.setIfInBounds i true) j->¬done L j:=λj hn qo=>hn ((bT pZ).2 (.inl qo))
   by_cases hiF:i∈F
   · -- it comes when it will
    obtain⟨y,t,hy,H9,hya,hyg⟩:=hob i hiF DX
    rw[hx]at hy
    cases hy
    obtain⟨o2,x2,t2,ho2,FG,hfa,hqo,hgn,_⟩:=uf (ZD i hiF).1
    have ho2':ops[i]?=some o2:=by simpa using ho2
    rw[ho]at ho2'
    cases ho2'
    rw[hx]at FG
    cases FG
    have hti:bC al i=some t:=by simp[bC,hx,H9]
    have yV:∀t',t'∈px x->look (zv al F L env) t'=look env t':=λt' AO=>mZ λj hj hn he=>hn (h2 j ((ZD i hiF).2 x hx t' AO j (ltF F ZD j hj) he))
    have hru' : restU (L.setIfInBounds i true) gs := by
     intro j hj qo
     rcases(bT pZ).1 qo with h5|h5
     ·exact ZC j hj h5
     ·subst h5
      exact absurd DX (by
       intro _
       exact ZC j hj |> λhh => by
        --i lies in F and among the rest
        have:Kt gs j=true:=hj
        exact absurd hiF (by
         have key : ∀ (gs : List (Nat × List Nat)) (F : List Nat) (prev : Option Nat), Zu ops.toList al prev F gs = true -> Kt gs j = true -> j ∉ F := by
          intro gs
          induction gs with
          |nil=>intro F prev _ hh;simp[Kt]at hh
          | cons g gs ihg =>
           obtain⟨c,fl⟩:=g
           intro F prev hok hh
           simp only[Zu,aan]at hok
           obtain⟨⟨⟨⟨k1,k2⟩,k3⟩,k4⟩,k5⟩:=hok
           simp only[Kt,ac1,abM]at hh
           rcases hh with(hh|hh)|hh
           ·have:c=j:=by simpa using hh
            subst this
            simp only[okC,aan]at k1
            simpa using k1.1.1
           ·have hm:j∈fl:=by simpa using hh
            have fresh:∀(fl F:List Nat),D6 ops.toList al (some c) F fl=true->j∈fl->j∉F:=by
             intro fl
             induction fl with
             |nil=>intro F _ hm;simp at hm
             |cons q fl ihf=>
              intro F hk hm
              simp only[D6,aan]at hk
              rcases aaI.1 hm with rfl|hm
              ·exact(ug hk.1).2.1
              ·exact λhF=>ihf (F++[q]) hk.2 hm (ab4 _ hF)
            exact fresh fl F k4 hm
           ·exact λhF=>ihg (F++fl) (some c) k5 hh (ab4 _ hF)
         exact key gs F prev hok this))
    have hcov':∀j,j<ops.size->j∈F\/done (L.setIfInBounds i true) j\/Kt gs j=true:=λj hj=>(hcov j hj).imp_right (λh5=>h5.imp_left (λh6=>(bT pZ).2 (.inl h6)))
    have hprev':∀c,prev=some c->done (L.setIfInBounds i true) c:=λc hc=>(bT pZ).2 (.inl (hprev c hc))
    have hob':∀j,j∈F->¬done (L.setIfInBounds i true) j->∃y t,al[j]?=some y/\y.dst=some t/\jf C.quiet env rows y.op t/\gOK env y:=λj hj hn=>hob j hj (vE j hn)
    have hsim:∀(ρ':Pl) (T':Nat->Prop) (v:Value) (w':World) (d:D),look env t=some d->eQ n ρ' T' (zv al F L env) rows a w'->VR ρ' w' T' d v->eQ n ρ' T' (zv al F (L.setIfInBounds i true) env) rows (a.put o.dst v) w':=by
     intro ρ' T' v w' d LJ ib hv
     have tI:=ib.put hv (dst:=o.dst) (BN q1)
     rw[<-q4,H9]at tI⊢
     refine tI.ext λt' d' hl=>?_
     obtain⟨h5,h6⟩:=jx hl
     simp only[put,look]
     cases Vr:(t==t')with
     |true=>
      have:t=t':=by simpa using Vr
      subst this
      rw[LJ]at h5
      simpa using h5
     | false =>
      have hne:t≠t':=by simpa using Vr
      simp only[aaK]
      rw[mZ λj hj hn he=>?_]
      ·exact h5
      ·by_cases Vp:j=i
       ·subst Vp
        rw[hti]at he
        exact hne (abd he)
       ·exact h6 j hj (λqo=>(bT pZ).1 qo|>.elim (λh7=>hn h7) (λh7=>Vp h7)) he
    have Sq:∀y∈x.op.xs,ev C.quiet (zv al F L env) y=ev C.quiet env y:=by
     intro y hy
     cases y with
     |tmp t'=>exact yV t' (ab4 _ (vD hy))
     |const _=>rfl
     |aZ _=>rfl
    cases hm:ru x.op with
    | true =>
     obtain⟨d,r0,d0,row,LJ,hhole,M⟩:=mk_of hm hfa Sq hya
     obtain⟨r,g1,g2,g3,g4⟩:=hI.hole i hiF DX x t hx H9 hm
     rw[hhole]at g1
     cases g1
     unfold wpOp
     simp only[ho]
     have SH:o.guard=none:=by
      cases SH:o.guard with
      |none=>rfl
      | some jw =>
       rw[SH]at q3
       obtain⟨j,want⟩:=jw
       simp only[oG]at q3
       split at q3
       ·split at q3
        ·rcases hgn with hgn|hgn
         ·rw[hgn]at q3;cases q3
         ·rw[hgn]at hm;cases hm
        ·cases q3
       ·cases q3
     have hwt:Region.wanted o (yielded ops a.tmps)=true:=by simp[Region.wanted,SH]
     rw[aaJ hwt]
     refine .inl (Xr (C:=C.quiet) (λ_=>rfl) hd.ctx.quiet q2 hqo hs hg M g4 g2 hst ?_)
     intro ρ' T' v w' ib hv cw hg' hρ
     refine ih gs F Pd prev _ env rows ρ' T' _ w' (λj hj hn=>hPd j hj (vE j hn)) PK (by simpa using hsz) hok hcov' hprev' hru' ZD hFd Xn hob' ⟨λj hj Kw x1 t1 rq O3 wg=>?_,λj j' hj qn Kw Nj=>hI.lR j j' hj qn (vE j Kw) (vE j' Nj)⟩ h (hsim ρ' T' v w' d LJ ib hv) hg' cw
     obtain⟨r1,p1,p2,p3,p4⟩:=hI.hole j hj (vE j Kw) x1 t1 rq O3 wg
     have Vp:j≠i:=λe=>Kw ((bT pZ).2 (.inr e))
     have hne:r1≠r0:=λe=>by
      have:=hI.lR j i hj hiF (vE j Kw) DX Vp x1 t1 x t rq O3 wg hx H9 hm
      rw[p1,hhole,e]at this
      exact this rfl
     exact⟨r1,p1,p2,p3,by rw[hρ r1 hne];exact p4⟩
    | false =>
     have hya:=Nk hm hya
     have hst1:dR C.quiet [x] env rows (λenv' aa=>env'=put x.dst ((look env t).getD default) env/\look env t=some ((look env t).getD default)/\aa=rows):=by
      obtain⟨dst,op,g⟩:=x
      simp only at H9
      subst H9
      suffices hs:dX C.quiet env rows op (λd aa=>dR C.quiet [] (put (some t) d env) aa λenv' aa=>env'=put (some t) ((look env t).getD default) env/\look env t=some ((look env t).getD default)/\aa=rows) by
       cases g with
       |none=>exact hs
       |some gw=>
        obtain⟨g,w⟩:=gw
        show bj (look env g) _
        rw[hyg g w rfl]
        exact⟨λ_=>hs,λe=>by cases w<;>cases e⟩
      have e:(λd aa=>dR C.quiet [] (put (some t) d env) aa λenv' aa=>env'=put (some t) ((look env t).getD default) env/\look env t=some ((look env t).getD default)/\aa=rows)=Bw env rows (some t):=by
       funext d r
       simp only[dR,Bw,put]
       apply propext
       constructor
       ·rintro⟨e1,e2,e3⟩
        cases e1
        exact⟨e2,e3⟩
       ·rintro⟨e1,e2⟩
        rw[e1]
        exact⟨rfl,rfl,e2⟩
      rw[e]
      exact hya
     refine yX (C:=C.quiet) hd.ctx.quiet ho q1 q2 q3 q4 hs hg (BO yV hst1) ?_
     intro env' aa ρ' T' a' w' h' ib cw
     rw[H9]at h'
     obtain⟨d,rfl,h3,h4,rfl⟩:=h'
     have LJ:look env t=some d:=by
      simp only[put,H9]at h3
      cases h3
      exact h4
     refine ih gs F Pd prev _ env aa ρ' T' a' w' (λj hj hn=>hPd j hj (vE j hn)) PK (by simpa using hsz) hok hcov' hprev' hru' ZD hFd Xn hob' ⟨λj hj Kw x1 t1 rq O3 wg=>?_,λj j' hj qn Kw Nj=>hI.lR j j' hj qn (vE j Kw) (vE j' Nj)⟩ h
      (ib.ext λt' d' hl=>?_) (hg.step hs cw) (hst.trans cw)
     ·obtain⟨r1,p1,p2,p3,p4⟩:=hI.hole j hj (vE j Kw) x1 t1 rq O3 wg
      exact⟨r1,p1,p2,p3,by rw[cw.same r1 p3];exact p4⟩
     ·obtain⟨h5,h6⟩:=jx hl
      simp only[look]
      cases Vr:(t==t')with
      |true=>
       have:t=t':=by simpa using Vr
       subst this
       rw[LJ]at h5
       simpa using h5
      | false =>
       have hne:t≠t':=by simpa using Vr
       simp only[aaK]
       rw[mZ λj hj hn he=>?_]
       ·exact h5
       ·by_cases Vp:j=i
        ·subst Vp
         rw[hti]at he
         exact hne (abd he)
        ·exact h6 j hj (λqo=>(bT pZ).1 qo|>.elim (λh7=>hn h7) (λh7=>Vp h7)) he
   · -- the next one of the text's order
    have hin:Kt gs i=true:=by
     rcases hcov i pY with h3|h3|h3
     ·exact absurd h3 hiF
     ·exact absurd h3 DX
     ·exact h3
    cases gs with
    |nil=>simp[Kt]at hin
    | cons g gs =>
     obtain⟨c,fl⟩:=g
     have hok0:=hok
     simp only[Zu,aan]at hok
     obtain⟨⟨⟨⟨k1,k2⟩,k3⟩,k4⟩,k5⟩:=hok
     have hcU:¬done L c:=ZC c (by simp[Kt])
     have hie:i=c:=by
      simp only[Kt,ac1,abM]at hin
      rcases hin with(hh|hh)|hh
      ·have:c=i:=by simpa using hh
       exact this.symm
      ·have hm:i∈fl:=by simpa using hh
       exact absurd (mw jt 2 i c h2 ((pB k4 i hm).2.1 c rfl)) hcU
      ·exact(PQ jt h2 gs (F++fl) c k5 hcU (λg hg'=>ZC g.1 (by
        simp only[Kt,ac1,abM]
        exact .inr (ab9.2 ⟨g,hg',by simp⟩))) hh).elim
     subst hie
     simp only[Hw,hx]at h
     simp only[okC,aan,hx]at k1
     obtain⟨⟨_,_⟩,k6⟩:=k1
     have Ia:∀j,j∈F->¬done L j->j∈Pe ops.toList Pd i/\∃t,bC al j=some t/\x.dst≠some t/\t∉px x:=by
      intro j hj hn
      have hna:KB ops.toList 2 i j=false:=by
       cases hb:KB ops.toList 2 i j with
       |false=>rfl
       |true=>exact absurd (mw jt 2 i j h2 hb) hn
      refine⟨by simp[Pe,hPd j hj hn,hna],?_⟩
      have:=aa4.1 k6 j hj
      rw[hna,acn]at this
      split at this
      ·rename_i t ht
       simp only[aan]at this
       exact⟨t,ht,by simpa using this.1,by simpa using this.2⟩
      ·cases this
     have yV:∀t',t'∈px x->look (zv al F L env) t'=look env t':=λt' AO=>mZ λj hj hn he=>by
      obtain⟨_,t,ht,_,hyu⟩:=Ia j hj hn
      rw[ht]at he
      cases he
      exact hyu AO
     refine yX hd.ctx ho q1 q2 q3 q4 hs hg (BO yV h) ?_
     intro env' aa ρ' T' a' w' h' ib cw
     have PM:∀j,j∈F->¬done L j->¬done (L.setIfInBounds i true) j:=λj hj hn qo=>(bT pZ).1 qo|>.elim (λh7=>hn h7) (λh7=>hiF (h7▸hj))
     have hslot:∀j,j∈F->¬done L j->∀t,bC al j=some t->x.dst≠some t:=by
      intro j hj hn t ht
      obtain⟨_,t',AO,hne,_⟩:=Ia j hj hn
      rw[ht]at AO
      cases AO
      exact hne
     obtain⟨vC,tI,hlk2,PL⟩:∃vC,eQ n ρ' T' (zv al F (L.setIfInBounds i true) vC) aa a' w'/\(∀t,x.dst≠some t->look vC t=look env t)/\dR C.quiet (atU al fl) vC aa (λenv rows=>p7 C.quiet env rows (atL al (Pe ops.toList Pd i++fl))/\zK C (Hw ops.toList al (Pe ops.toList Pd i++fl) gs) env rows K):=by
      simp only[dR,KH]at h'
      cases hxd:x.dst with
      |none=>
       rw[hxd]at h'
       obtain⟨rfl,h3⟩:=h'
       refine⟨env,ib.ext λt' d' hl=>?_,λt _=>rfl,h3⟩
       obtain⟨h5,h6⟩:=jx hl
       rw[mZ λj hj hn=>h6 j hj (PM j hj hn)]
       exact h5
      | some t =>
       rw[hxd]at h'
       obtain⟨d,rfl,h3⟩:=h'
       refine⟨(t,d)::env,ib.ext λt' d' hl=>?_,λt' AO=>?_,h3⟩
       ·obtain⟨h5,h6⟩:=jx hl
        simp only[look]at h5⊢
        cases Vr:(t==t')with
        |true=>rw[Vr]at h5;exact h5
        |false=>
         rw[Vr]at h5
         simp only[aaK]at h5⊢
         rw[mZ λj hj hn=>h6 j hj (PM j hj hn)]
         exact h5
       ·have:(t==t')=false:=by
         have:t≠t':=λe=>AO (by rw[e])
         simpa using this
        simp[look,this]
     have hI2:FInv al F (L.setIfInBounds i true) eN.length vC aa ρ':=by
      have hh:∀j,j∈F->¬done L j->∀t,bC al j=some t->lE vC t=lE env t:=by
       intro j hj hn t ht
       unfold lE
       rw[hlk2 t (hslot j hj hn t ht)]
      refine⟨λj hj Kw x1 t1 rq O3 wg=>?_,λj j' hj qn Kw Nj hne x1 t1 x2 t2 rq O3 wg FG ht2 KJ=>?_⟩
      ·obtain⟨r1,p1,p2,p3,p4⟩:=hI.hole j hj (vE j Kw) x1 t1 rq O3 wg
       exact⟨r1,by rw[hh j hj (vE j Kw) t1 (by simp[bC,rq,O3])];exact p1,p2,ab2 p3 cw.len,by rw[cw.same r1 p3];exact p4⟩
      ·rw[hh j hj (vE j Kw) t1 (by simp[bC,rq,O3]),hh j' qn (vE j' Nj) t2 (by simp[bC,FG,ht2])]
       exact hI.lR j j' hj qn (vE j Kw) (vE j' Nj) hne x1 t1 x2 t2 rq O3 wg FG ht2 KJ
     have hflU:∀j∈fl,¬done (L.setIfInBounds i true) j:=by
      intro j hj qo
      rcases(bT pZ).1 qo with h5|h5
      ·exact ZC j (by simp only[Kt,ac1,abM];exact .inl (.inr (by simpa using hj))) h5
      ·subst h5
       simp only[List.contains_eq_mem,aaq,acH,ab0]at k3
       exact k3 hj
     have Ls:eN.length<=aa.length:=aa3 hst.len cw.len
     obtain⟨env3,my,⟨hstab,Xo⟩,hI3,hs3,new,jO⟩:=Ic (C:=C.quiet) (λ_=>rfl) fl F vC aa k4 PL hflU hI2 Ls tI
     have hstep3:Step n9 T0 eN w0 ρ' T' my w':=by
      have h0:=hst.trans cw
      have zu:∀r Lc,ρ' r=some Lc->r<aa.length:=by
       intro r Lc hr
       rcases aaT r aa.length with h1|h1
       ·exact h1
       ·rw[ib.w9 r h1]at hr;cases hr
      refine⟨h0.pl,h0.tt,h0.vn,h0.size,h0.keep,λr row Lc p1 p2=>?_,h0.os,h0.tape,h0.output,by rw[jO,aap];have:=h0.len;omega,h0.same⟩
      rw[iE jO (zu r Lc p2)]at p1
      exact h0.fresh r row Lc p1 p2
     refine ih gs (F++fl) (Pe ops.toList Pd i++fl) (some i) _ env3 my ρ' T' a' w' (λj hj hn=>?_) PK (by simpa using hsz) k5 (λj hj=>?_) (λc hc=>by cases hc;exact(bT pZ).2 (.inr rfl)) (λj hj qo=>?_) (λj hj=>?_) (λj hj j' qn hne=>?_) Xn (λj hj hn=>?_) hI3 Xo hs3 (hg.step hs cw) hstep3
     ·rcases aaQ.1 hj with hj|hj
      ·exact ab4 _ (Ia j hj (vE j hn)).1
      ·exact adN _ hj
     ·rcases hcov j hj with h5|h5|h5
      ·exact .inl (ab4 _ h5)
      ·exact .inr (.inl ((bT pZ).2 (.inl h5)))
      ·simp only[Kt,ac1,abM]at h5
       rcases h5 with(h5|h5)|h5
       ·exact .inr (.inl ((bT pZ).2 (.inr (by simpa using(Eq.symm (by simpa using h5))))))
       ·exact .inl (adN _ (by simpa using h5))
       ·exact .inr (.inr h5)
     ·have hj0:Kt ((i,fl)::gs) j=true:=by simp only[Kt,ac1,abM];exact .inr hj
      rcases(bT pZ).1 qo with h5|h5
      ·exact ZC j hj0 h5
      ·subst h5
       obtain⟨g,SI,RV⟩:=ab9.1 hj
       simp only[abM]at RV
       rcases RV with RV|RV
       ·have:=aa4.1 k2 g SI
        simp only[bne,acH]at this
        rw[this]at RV
        cases RV
       · -- it would come when it will behind a later one
        have hm:j∈g.2:=by simpa using RV
        have key:∀(gs:List (Nat×List Nat)) (F:List Nat) (prev:Option Nat),Zu ops.toList al prev F gs=true->∀g∈gs,j∈g.2->KB ops.toList 2 j g.1=true:=by
         intro gs
         induction gs with
         |nil=>intro F prev _ g hg;simp at hg
         |cons g0 gs ihg=>
          obtain⟨c0,fl0⟩:=g0
          intro F prev hok g hg hm
          simp only[Zu,aan]at hok
          obtain⟨⟨⟨⟨r1,r2⟩,r3⟩,r4⟩,r5⟩:=hok
          rcases aaI.1 hg with rfl|hg
          ·exact(pB r4 j hm).2.1 c0 rfl
          ·exact ihg (F++fl0) (some c0) r5 g hg hm
        have han:=key gs (F++fl) (some j) k5 g SI hm
        exact ZC g.1 (by
         simp only[Kt,ac1,abM]
         exact .inr (ab9.2 ⟨g,SI,by simp⟩)) (mw jt 2 j g.1 h2 han)
     ·rcases aaQ.1 hj with hj|hj
      ·exact ZD j hj
      ·obtain⟨r1,_,r3⟩:=pB k4 j hj
       exact⟨r1,λx' hx' t ht j' qn=>r3 x' hx' t ht j' (by simpa using qn)⟩
     ·have uq:∀(fl F:List Nat),D6 ops.toList al (some i) F fl=true->(∀p∈F,∀q∈F,p≠q->bC al p≠bC al q)->∀p∈F++fl,∀q∈F++fl,p≠q->bC al p≠bC al q:=by
       intro fl
       induction fl with
       |nil=>intro F _ hF p hp q hq;simp at hp hq;exact hF p hp q hq
       |cons e fl ihf=>
        intro F hk hF p hp q hq
        simp only[D6,aan]at hk
        obtain⟨_,_,u3,_,_⟩:=ug hk.1
        refine ihf (F++[e]) hk.2 (λp hp q hq hne=>?_) p (by simpa using hp) q (by simpa using hq)
        rcases aaQ.1 hp with hp|hp<;>rcases aaQ.1 hq with hq|hq
        ·exact hF p hp q hq hne
        ·rw[aba.1 hq];exact u3 p hp
        ·rw[aba.1 hp];exact(u3 q hq).symm
        ·exact absurd ((aba.1 hp).trans (aba.1 hq).symm) hne
      exact uq fl F k4 hFd j hj j' qn hne
     ·have Xe:∃y,al[j]?=some y:=by
       rcases aaQ.1 hj with hj|hj
       ·obtain⟨_,y,_,_,hy,_⟩:=uf (ZD j hj).1
        exact⟨y,hy⟩
       ·obtain⟨_,y,_,_,hy,_⟩:=uf (pB k4 j hj).1
        exact⟨y,hy⟩
      obtain⟨y,hy⟩:=Xe
      have hin2:y∈atL al (Pe ops.toList Pd i++fl):=by
       refine acO.2 ⟨j,?_,hy⟩
       rcases aaQ.1 hj with hj|hj
       ·exact ab4 _ (Ia j hj (vE j hn)).1
       ·exact adN _ hj
      obtain⟨t,ht,hstb⟩:=vF hstab hin2
      exact⟨y,t,hy,ht,hstb⟩
theorem FI(hC:aI C P)(hP:P.follows .mixedOrders=true){id:Nat}{ops:Array Oper}{al:List aS}{f0:List Nat}{gs:List (Nat×List Nat)}(hc:AB P n ops.toList ops.toList=some al)(hd:W2 ops.toList al f0 gs=true)
  {env:Env}{rows:Rows}{ρ:Pl}{T:Nat->Prop}{a:Act}{w:World}{Q:gF->Env->Rows->Prop}{Q':Exit->Act->World->Prop}
  (h:dR C.quiet (atU al f0) env rows λenv rows=>p7 C.quiet env rows (atL al f0)/\zK C (Hw ops.toList al f0 gs) env rows (Q .normal))(hs:eQ n ρ T env rows a w)(hg:eS C w T)
  (hp:Post n ρ T rows w Q Q'):(Code.region id ops true).wp P Q' a w:=by
 simp only[W2,aan]at hd
 obtain⟨⟨⟨d1,d2⟩,d3⟩,d4⟩:=hd
 have hok0:Xi ops.toList al 0:=yU (by simp[Nat.ble]) d1 (by simp)
 have hD:Ng C P n ops al 0:=⟨hok0,hc,hC⟩
 have hw1:eQ n ρ T env rows a {w with drawn:=w.drawn+1}:=hs.heap rfl
 have SI:eS C {w with drawn:=w.drawn+1} T:=hg.keep (λ_ _=>rfl) (λ_ h=>h)
 have PH:∀j,¬done (Array.replicate ops.size false) j:=by
  intro j hj
  unfold done at hj
  simp[Array.getD]at hj
 have KE:eQ n ρ T (zv al [] (Array.replicate ops.size false) env) rows a {w with drawn:=w.drawn+1}:=hw1.ext λt d hl=>(jx hl).1
 obtain⟨env3,my,⟨hstab,Xo⟩,hI3,hs3,new,jO⟩:=Ic (C:=C.quiet) (L:=Array.replicate ops.size false) (b0:=rows.length) (λ_=>rfl) f0 [] env rows d3 h (λj _=>PH j) ⟨λj hj=>by simp at hj,λj j' hj=>by simp at hj⟩ (aax _) KE
 rw[aaZ]at hI3 hs3
 refine wp_region_any hP (Xs hD (n9:=ρ) (T0:=T) (eN:=rows) (w0:={w with drawn:=w.drawn+1}) (K:=Q .normal) ?_ ops.size gs f0 f0 none _ env3 my ρ T a _ (λj hj _=>hj) ?_ (by simp) d4 (λi hi=>?_) (λc hc=>by cases hc) (λi _=>PH i) (λi hi=>?_) (λi hi j hj hne=>?_) (λi hi=>absurd hi (PH i)) (λj hj _=>?_) hI3 Xo hs3 SI ?_)
 ·intro env' aa ρ' T' a' w' hk ib cw
  exact hp .normal env' aa ρ' T' a' w' hk ib ⟨cw.pl,cw.tt,cw.vn,cw.size,cw.keep,cw.fresh,cw.os,cw.tape,cw.output,cw.len,cw.same⟩
 ·unfold jg
  exact aa3 (acx _ _) (by simp)
 ·have:=aa4.1 d2 i (by simpa using hi)
  rcases ady.1 this with h1|h1
  ·exact .inl (by simpa using h1)
  ·exact .inr (.inr h1)
 ·obtain⟨r1,_,r3⟩:=pB d3 i hi
  exact⟨r1,λx' hx' t ht j' qn=>r3 x' hx' t ht j' (by simpa using qn)⟩
 ·have uq:∀(fl F:List Nat),D6 ops.toList al none F fl=true->(∀p∈F,∀q∈F,p≠q->bC al p≠bC al q)->∀p∈F++fl,∀q∈F++fl,p≠q->bC al p≠bC al q:=by
   intro fl
   induction fl with
   |nil=>intro F _ hF p hp q hq;simp at hp hq;exact hF p hp q hq
   |cons e fl ihf=>
    intro F hk hF p hp q hq
    simp only[D6,aan]at hk
    obtain⟨_,_,u3,_,_⟩:=ug hk.1
    refine ihf (F++[e]) hk.2 (λp hp q hq hne=>?_) p (by simpa using hp) q (by simpa using hq)
    rcases aaQ.1 hp with hp|hp<;>rcases aaQ.1 hq with hq|hq
    ·exact hF p hp q hq hne
    ·rw[aba.1 hq];exact u3 p hp
    ·rw[aba.1 hp];exact(u3 q hq).symm
    ·exact absurd ((aba.1 hp).trans (aba.1 hq).symm) hne
  exact uq f0 [] d3 (λp hp=>by simp at hp) i (by simpa using hi) j (by simpa using hj) hne
 ·obtain⟨_,y,_,_,hy,_⟩:=uf (pB d3 j hj).1
  obtain⟨t,ht,hstb⟩:=vF hstab (acO.2 ⟨j,hj,hy⟩)
  exact⟨y,t,hy,ht,hstb⟩
 ·have h0:=Step.refl ρ T rows {w with drawn:=w.drawn+1}
  have zu:∀r Lc,ρ r=some Lc->r<rows.length:=by
   intro r Lc hr
   rcases aaT r rows.length with h1|h1
   ·exact h1
   ·rw[hs.w9 r h1]at hr;cases hr
  refine⟨h0.pl,h0.tt,h0.vn,h0.size,h0.keep,λr row Lc p1 p2=>?_,h0.os,h0.tape,h0.output,by rw[jO,aap];omega,h0.same⟩
  rw[iE jO (zu r Lc p2)]at p1
  exact h0.fresh r row Lc p1 p2
theorem LM{ops:List Oper}{i j:Nat}{o:Oper}(ho:ops[i]?=some o)(h:j∈U9 o):v7 ops i j=true:=by
 obtain⟨e,he,rfl⟩:=acL.1 h
 obtain⟨h1,h2⟩:=List.mem_filter.1 he
 unfold v7
 rw[ho]
 exact ab9.2 ⟨e,h1,by simp[h2]⟩
theorem Xt{ops:Array Oper}{al:List aS}(hd:Ng C P n ops al 0){K:Env->Rows->Prop}{Q':Exit->Act->World->Prop}{n9:Pl}{T0:Nat->Prop}{eN:Rows}{w0:World}
  (hK:∀env' aa ρ' T' a' w',K env' aa->eQ n ρ' T' env' aa a' w'->Step n9 T0 eN w0 ρ' T' aa w'->Q' .normal a' w'):
  ∀(fuel:Nat) (L:Array Bool) (LL:List Nat) (env:Env) (rows:Rows) (ρ:Pl) (T:Nat->Prop) (a:Act) (w:World),jg L ops.size<=fuel->L.size=ops.size->(∀j,j<ops.size->(done L j↔j∈LL))->
   awN C (zO ops.toList al) K fuel LL env rows->eQ n ρ T env rows a w->eS C w T->Step n9 T0 eN w0 ρ T rows w->wpAny P .any ops Q' fuel L a w:=by
 obtain⟨hlen,lp⟩:=hd.get
 have hwl:(zO ops.toList al).length=ops.size:=by simp[zO,hlen]
 have BP : ∀ (L : Array Bool), L.size = ops.size -> Region.ready .any ops L = [] -> ∀ j, j < ops.size -> done L j := by
  intro L hsz hr j hj
  refine aa6 λhn=>?_
  have key : ∀ q, (∀ j, j < q -> done L j) \/ ∃ j, j < q /\ ¬ done L j /\ ∀ j', j' < j -> done L j' := by
   intro q
   induction q with
   |zero=>left;intro j hj;omega
   | succ q ih =>
    rcases ih with h1|⟨j,q1,q2,q3⟩
    ·by_cases hq:done L q
     ·left;intro j hj
      rcases aaT j q with h2|h2
      ·exact h1 j h2
      ·have:j=q:=by omega
       subst this;exact hq
     ·exact .inr ⟨q,by omega,hq,h1⟩
    ·exact .inr ⟨j,by omega,q2,q3⟩
  rcases key ops.size with h1|⟨j',q1,q2,q3⟩
  ·exact hn (h1 j hj)
  ·have:j'∈Region.ready .any ops L:=ua q1 (lD q2 (by omega)) (λj'' hj''=>q3 j'' (hd.ok.back j' j'' hj''))
   rw[hr]at this
   cases this
 intro fuel
 induction fuel with
 | zero =>
  intro L LL env rows ρ T a w hf hsz hL h hs hg hst
  have bW:∀j,j<ops.size->done L j:=by
   intro j hj
   refine aa6 λhn=>?_
   have:=jh hj (by omega) (lD hn (by omega))
   omega
  refine⟨?_,hK env rows ρ T a w (h λi hi=>(hL i (by omega)).1 (bW i (by omega))) hs hst⟩
  cases hr:Region.ready .any ops L with
  |nil=>rfl
  |cons i l=>
   exfalso
   obtain⟨⟨o,ho⟩,h1,_⟩:=gT (L:=L) (ops:=ops) (i:=i) (by rw[hr];simp)
   exact(pd h1).1 (bW i (aaR.1 ho).1)
 | succ fuel ih =>
  intro L LL env rows ρ T a w hf hsz hL h hs hg hst
  obtain⟨h0,h⟩:=h
  refine⟨λhr=>hK env rows ρ T a w (h0 λi hi=>(hL i (by omega)).1 (BP L hsz hr i (by omega))) hs hst,λi hi=>?_⟩
  obtain⟨⟨o',PF⟩,h1,h2⟩:=gT hi
  have pY:i<ops.size:=(aaR.1 PF).1
  obtain⟨DX,pZ⟩:=pd h1
  obtain⟨o,x,ho,hx,q1,q2,q3,q4⟩:=lp i pY
  have PK:jg (L.setIfInBounds i true) ops.size<=fuel:=by have:=jh pY pZ h1;omega
  have RX:ops.toList[i]?=some o:=by simpa using ho
  have hw:(zO ops.toList al)[i]?=some (x,U9 o):=by
   rw[zO,adl,RX,hx]
  have h':=h i x (U9 o) hw (λhm=>DX ((hL i pY).2 hm)) (λj hj=>by
   have qo:=h2 j (LM RX hj)
   have hjl:j<ops.size:=Nat.lt_trans (hd.ok.back i j (LM RX hj)) pY
   exact(hL j hjl).1 qo)
  refine yX hd.ctx ho q1 q2 q3 q4 hs hg h' λenv' aa ρ' T' a' w' h3 ib cw=>?_
  refine ih _ (i::LL) env' aa ρ' T' a' w' PK (by simpa using hsz) (λj hj=>?_) h3 ib (hg.step hs cw) (hst.trans cw)
  rw[bT pZ,hL j hj,aaI]
  exact or_comm
theorem PR(hC:aI C P)(hP:P.follows .mixedOrders=true){id:Nat}{ops:Array Oper}{al:List aS}(hc:AB P n ops.toList ops.toList=some al)(hb:Z0 ops.toList=true)
  {env:Env}{rows:Rows}{ρ:Pl}{T:Nat->Prop}{a:Act}{w:World}{Q:gF->Env->Rows->Prop}{Q':Exit->Act->World->Prop}
  (h:awN C (zO ops.toList al) (Q .normal) (zO ops.toList al).length [] env rows)(hs:eQ n ρ T env rows a w)(hg:eS C w T)
  (hp:Post n ρ T rows w Q Q'):(Code.region id ops true).wp P Q' a w:=by
 have hok0:Xi ops.toList al 0:=yU (by simp[Nat.ble]) hb (by simp)
 have hD:Ng C P n ops al 0:=⟨hok0,hc,hC⟩
 have hwl:(zO ops.toList al).length=ops.size:=by simp[zO,hD.get.1]
 have hw1:eQ n ρ T env rows a {w with drawn:=w.drawn+1}:=hs.heap rfl
 have SI:eS C {w with drawn:=w.drawn+1} T:=hg.keep (λ_ _=>rfl) (λ_ h=>h)
 have PH:∀j,¬done (Array.replicate ops.size false) j:=by
  intro j hj
  unfold done at hj
  simp[Array.getD]at hj
 rw[hwl]at h
 refine wp_region_any hP (Xt hD (n9:=ρ) (T0:=T) (eN:=rows) (w0:={w with drawn:=w.drawn+1}) (K:=Q .normal) ?_ ops.size _ [] env rows ρ T a _ ?_ (by simp) (λj hj=>⟨λh=>absurd h (PH j),λh=>by cases h⟩) h hw1 SI (Step.refl _ _ _ _))
 ·intro env' aa ρ' T' a' w' hk ib cw
  exact hp .normal env' aa ρ' T' a' w' hk ib ⟨cw.pl,cw.tt,cw.vn,cw.size,cw.keep,cw.fresh,cw.os,cw.tape,cw.output,cw.len,cw.same⟩
 ·unfold jg
  exact aa3 (acx _ _) (by simp)
end Go.Am
namespace Go.Am
variable {C:aU} {P:Program} {n:Nat} {ρ:Pl} {T:Nat->Prop} {env:Env} {rows:Rows} {a:Act} {w:World}
theorem SL (hC : aI C P) : ∀ (c : Code) (ac : aj), comp P n c = some ac -> ∀ (Q : gF -> Env -> Rows -> Prop) (Q' : Exit -> Act -> World -> Prop) (env : Env) (rows : Rows) (ρ : Pl) (T : Nat -> Prop) (a : Act) (w : World),
  aw C ac Q env rows->eQ n ρ T env rows a w->eS C w T->Post n ρ T rows w Q Q'->c.wp P Q' a w:=by
 intro c
 induction c with
 |skip=>
  intro ac hc Q Q' env rows ρ T a w h hs hg hp
  simp[comp]at hc;subst hc
  exact wp_skip (hp .normal env rows ρ T a w h hs (Step.refl _ _ _ _))
 | region id ops draw =>
  intro ac hc Q Q' env rows ρ T a w h hs hg hp
  simp only[comp]at hc
  split at hc
  ·rename_i al h1
   cases draw with
   |false=>
    simp only[abT,aaU]at hc
    cases hc
    refine wp_region ?_
    have:=Xh hC ops (Q':=Q') ops.toList 0 (by simp) al h1 env rows ρ T a w (Q .normal) h hs hg (λenv' aa ρ' T' a' w' hk ib hst=>hp .normal env' aa ρ' T' a' w' hk ib hst)
    rw[List.range_eq_range']
    simpa using this
   | true =>
    simp only[abw,aaK]at hc
    cases hd0:(hasF al&&(P.follows .mixedOrders&&W2 ops.toList al (Gp ops.toList al).1 (Gp ops.toList al).2))with
    |true=>
     rw[hd0]at hc
     simp only[aaU]at hc
     cases hc
     simp only[aan]at hd0
     exact FI hC hd0.2.1 h1 hd0.2.2 h hs hg hp
    |false=>
    rw[hd0]at hc
    simp only[aaK]at hc
    cases hdr:(P.follows .mixedOrders&&Sp ops.toList al)with
    | false =>
     rw[hdr]at hc
     simp only[aaK]at hc
     cases xu:(P.follows .mixedOrders&&W0 ops.toList al (mQ ops.toList al))with
     | false =>
      rw[xu]at hc
      simp only[aaK]at hc
      cases KD:(P.follows .mixedOrders&&W2 ops.toList al (Gp ops.toList al).1 (Gp ops.toList al).2)with
      | false =>
       rw[KD]at hc
       simp only[aaK]at hc
       cases hd4:(hasI al&&(P.follows .mixedOrders&&Z0 ops.toList))with
       |false=>rw[hd4]at hc;cases hc;exact h.elim
       |true=>
        rw[hd4]at hc
        cases hc
        simp only[aan]at hd4
        exact PR hC hd4.2.1 h1 hd4.2.2 h hs hg hp
      |true=>
       rw[KD]at hc
       simp only[aaU]at hc
       cases hc
       simp only[aan]at KD
       exact FI hC KD.1 h1 KD.2 h hs hg hp
     |true=>
      rw[xu]at hc
      simp only[aaU]at hc
      cases hc
      simp only[aan]at xu
      exact PN (C:=C.quiet) (λ_=>rfl) hC.quiet xu.1 h1 xu.2 h hs hg hp
    | true =>
     rw[hdr]at hc
     simp only[aaU]at hc
     cases hc
     simp only[aan]at hdr
     cases hm:M3 ops.toList al with
     |none=>
      have e:Hv ops.toList al= .region true al:=by unfold Hv;rw[hm]
      rw[e]at h
      exact H8 (C:=C.quiet) (λ_=>rfl) hC.quiet hdr.1 h1 hdr.2 h hs hg hp
     | some m =>
      cases jt:ZZ (al.drop m)with
      |false=>
       have e:Hv ops.toList al= .region true al:=by unfold Hv;rw[hm];simp only[jt,aaK]
       rw[e]at h
       exact H8 (C:=C.quiet) (λ_=>rfl) hC.quiet hdr.1 h1 hdr.2 h hs hg hp
      |true=>
       have e:Hv ops.toList al= .U1 (al.take m) (al.drop m):=by unfold Hv;rw[hm];simp only[jt,aaU]
       rw[e]at h
       exact PO hC hdr.1 h1 (Xp hm) h hs hg hp
  ·cases hc;exact h.elim
 |seq x y ihx ihy=>
  intro ac hc Q Q' env rows ρ T a w h hs hg hp
  obtain⟨ax,h1,hc⟩:=aF hc
  obtain⟨ay,h2,hc⟩:=aF hc
  cases hc
  refine wp_seq (ihx ax h1 _ _ env rows ρ T a w h hs hg ?_)
  intro e env' aa ρ' T' a' w' hq ib hst
  cases e with
  |normal=>exact ihy ay h2 Q Q' env' aa ρ' T' a' w' hq ib (hg.step hs hst) (λe2 vC fb Sa T2 a2 w2 Vo tI SE=>hp e2 vC fb Sa T2 a2 w2 Vo tI (hst.trans SE))
  |exit i=>exact hp (.exit i) env' aa ρ' T' a' w' hq ib hst
  |ret=>exact hp .ret env' aa ρ' T' a' w' hq ib hst
 | cond x p q ihp ihq =>
  intro ac hc Q Q' env rows ρ T a w h hs hg hp
  obtain⟨x',h1,hc⟩:=aF hc
  obtain⟨ap,h2,hc⟩:=aF hc
  obtain⟨aq,h3,hc⟩:=aF hc
  cases hc
  obtain⟨d,he,hk⟩:=au h
  split at hk
  ·rename_i t
   have hG:wQ C ρ w T:=λg d hd=>(hg g d hd).mono (by intro r L h;cases h) (λ_ _=>rfl) (λ_ h=>h)
   have hx:=fh h1 he hs hG
   refine wp_cond_split hx (λht=>?_) (λht=>?_)
   ·exact ihp ap h2 Q Q' env rows ρ T a w (hk.1 ht) hs hg hp
   ·exact ihq aq h3 Q Q' env rows ρ T a w (hk.2 ht) hs hg hp
  ·exact hk.elim
 | block id x ih =>
  intro ac hc Q Q' env rows ρ T a w h hs hg hp
  obtain⟨ax,h1,hc⟩:=aF hc
  cases hc
  refine wp_block (ih ax h1 _ _ env rows ρ T a w h hs hg ?_)
  intro e env' aa ρ' T' a' w' hq ib hst
  cases e with
  |normal=>exact hp .normal env' aa ρ' T' a' w' hq ib hst
  |exit i=>
   simp only[exitOf,Exit.inBlock]
   by_cases hi:i=id
   ·rw[aaJ hi];exact hp .normal env' aa ρ' T' a' w' (hq.1 hi) ib hst
   ·rw[aaC hi];exact hp (.exit i) env' aa ρ' T' a' w' (hq.2 hi) ib hst
  |ret=>exact hp .ret env' aa ρ' T' a' w' hq ib hst
 | loop x ih =>
  intro ac hc Q Q' env rows ρ T a w h hs hg hp
  obtain⟨ax,h1,hc⟩:=aF hc
  cases hc
  obtain⟨m,hm⟩:=h
  refine wp_loop_rounds m ?_
  induction m generalizing env rows ρ T a w with
  |zero=>exact hm.elim
  |succ m ihm=>
   refine ih ax h1 _ _ env rows ρ T a w hm hs hg ?_
   intro e env' aa ρ' T' a' w' hq ib hst
   cases e with
   |normal=>exact ihm env' aa ρ' T' a' w' ib (hg.step hs hst) (λe2 vC fb Sa T2 a2 w2 Vo tI SE=>hp e2 vC fb Sa T2 a2 w2 Vo tI (hst.trans SE)) hq
   |exit i=>exact hp (.exit i) env' aa ρ' T' a' w' hq ib hst
   |ret=>exact hp .ret env' aa ρ' T' a' w' hq ib hst
 |exit id=>
  intro ac hc Q Q' env rows ρ T a w h hs hg hp
  simp[comp]at hc;subst hc
  exact wp_exit (hp (.exit id) env rows ρ T a w h hs (Step.refl _ _ _ _))
 |ret=>
  intro ac hc Q Q' env rows ρ T a w h hs hg hp
  simp[comp]at hc;subst hc
  exact wp_ret (hp .ret env rows ρ T a w h hs (Step.refl _ _ _ _))
 | _=>intro ac hc;cases hc;intro Q Q' env rows ρ T a w h;exact h.elim
inductive aN where
 |tmp (t:Nat)
 |cell (t:Nat) (s:Sh)
 deriving Inhabited
def cRes(P:Program):ResultVar->Option aN
 | .tmp t=>some (.tmp t)
 | .cell t ty=>o2 (sh P ty) λs=>zM (mN P ty s) (some (.cell t s))
def LN(P:Program):List ResultVar->Option (List aN)
 |[]=>some []
 |r::l=>o2 (cRes P r) λa=>o2 (LN P l) λb=>some (a::b)
def FJ(env:Env)(rows:Rows):aN->Option D
 | .tmp t=>match look env t with
  |some (.cd _)=>none
  |d=>d
 | .cell t s => match look env t with
  |some (.ptr s' r p)=>bif s'==s then(match live rows r with
   |some row=>cM row.els p
   |none=>none)else none
  | _=>none
def BQ(env:Env)(rows:Rows):List aN->Option (List D)
 |[]=>some []
 | r :: l => match FJ env rows r with
  |some d=>match BQ env rows l with
   |some ds=>some (d::ds)
   |none=>none
  |none=>none
def zS:List D->D
 |[d]=>d
 |l=> .cd l
def rv:Nat->List D->Env
 | _,[]=>[]
 |i,d::l=>(i,d)::rv (i+1) l
theorem PS:∀(l:List D) (i t:Nat) (d:D),look (rv i l) t=some d->i<=t/\l[t-i]?=some d
 |[],i,t,d,h=>by simp[rv,look]at h
 | x :: l, i, t, d, h => by
  simp only[rv,look]at h
  cases hb:(i==t)with
  |true=>
   have:i=t:=by simpa using hb
   subst this
   simp[hb]at h
   subst h
   simp
  |false=>
   simp[hb]at h
   have hne:i≠t:=by simpa using hb
   obtain⟨h1,h2⟩:=PS l (i+1) t d h
   refine⟨by omega,?_⟩
   have:t-i=(t-(i+1))+1:=by omega
   rw[this]
   simpa using h2
theorem LO (hs : eQ n ρ T env rows a w) : ∀ {l : List ResultVar} {l' : List aN} {ds : List D}, LN P l = some l' -> BQ env rows l' = some ds ->
  ∃vs:List Value,(l.mapM (λr:ResultVar=>(match r with| .tmp t=>pure (a.tmps.getD t undef)| .cell x t=>do loadVar t (<-asAddr (a.tmps.getD x undef)):Sem Value))).run P w= .ok vs w/\aW (sJ ρ w T) ds vs
 |[],l',ds,h1,h2=>by
  simp[LN]at h1;subst h1
  simp[BQ]at h2;subst h2
  exact⟨[],by simp,.nil⟩
 | r :: l, l', ds, h1, h2 => by
  obtain⟨r',g1,h1⟩:=aF h1
  obtain⟨q,g2,h1⟩:=aF h1
  cases h1
  simp only[BQ]at h2
  split at h2
  ·rename_i d hd
   split at h2
   ·rename_i ds' hds
    cases h2
    obtain⟨vs,k1,k2⟩:=LO hs g2 hds
    have one : ∃ v, (match r with | .tmp t => pure (a.tmps.getD t undef) | .cell x t => do loadVar t (<- asAddr (a.tmps.getD x undef)) : Sem Value).run P w = .ok v w /\ sJ ρ w T d v := by
     cases r with
     | tmp t =>
      simp[cRes]at g1
      subst g1
      simp only[FJ]at hd
      refine⟨a.tmps.getD t undef,by simp,?_⟩
      split at hd
      ·cases hd
      ·rename_i x hx
       have:=hs.env t d hd
       cases d with
       |cd z=>exact absurd hd (by intro h;exact hx z h)
       | _=>exact this
     | cell x t =>
      obtain⟨s,g3,g1⟩:=aF g1
      obtain⟨g4,g1⟩:=cE g1
      cases g1
      simp only[FJ]at hd
      split at hd
      ·rename_i s' rr p KC
       cases Sx:(s'==s)with
       |false=>rw[Sx]at hd;simp at hd
       | true =>
        have hss':s'=s:=by simpa using Sx
        subst hss'
        simp only[Sx,aaU]at hd
        split at hd
        ·rename_i row hl
         have hv:=hs.env x _ KC
         obtain⟨b,o',cs,hx,m1,m2,m3⟩:=hs.bF.M6 (show LR ρ w T _ _ from hv) hl hd
         have hlen:=m2.len
         rw[m1.len]at hlen
         refine⟨gZ s' cs,?_,?_⟩
         ·simp only[Sem.run_bind]
          rw[hx]
          simp[asAddr,nF g3 g4 m3 hlen.symm (rf m1 m2)]
         ·have:=VR.gZ (ρ:=ρ) (T:=T) m1 m2
          unfold gZ at this⊢
          cases hag:s'.isAgg with
          |true=>exact sJ.Pk m1 hag (by simpa using m2)
          |false=>
           have hlf:=m1.qY hag
           rw[cn hlf]at m2
           have Ea:=m2.len
           match cs,Ea with
           |[c],_=>exact sJ.bE m2.head
        ·cases hd
      ·cases hd
    obtain⟨v,m1,m2⟩:=one
    refine⟨v::vs,?_,.cons m2 k2⟩
    rw[List.mapM_cons]
    simp only[Sem.run_bind,m1,k1,Result.andThen_ok,Sem.run_pure]
   ·cases h2
  ·cases h2
def aB(C:aU)(np:Nat)(mu:List aN)(ac:aj):lQ:=λds rows K=>
 ds.length=np/\aw C ac (λe env aa=>(e= .normal\/e= .ret)/\bj (BQ env aa mu) λl=>K (zS l) aa) (rv 0 ds) rows
theorem fn_start{fn:Func}{ds:List D}{rows:Rows}{ρ:Pl}{w:World}{T:Nat->Prop}{args:Array Value}{np:Nat}(hnp:np<=fn.ntmps)(hlen:ds.length=np)(hrows:lA ρ rows w T)(nD:∀r,rows.length<=r->ρ r=none)(BL:∀b,T b->b<w.heap.size)
  (hargs:aW (VR ρ w T) ds args.toList):eQ fn.ntmps ρ T (rv 0 ds) rows {tmps:=args++Array.replicate (fn.ntmps-args.size) undef,defers:=[]} w:=by
 have hal:args.size=np:=by rw[<-hlen];simpa using hargs.len.symm
 refine⟨hrows,λt d hd=>?_,by simp;omega,BL,nD,rfl⟩
 obtain⟨_,h2⟩:=PS ds 0 t d hd
 rw[acV]at h2
 obtain⟨v,hv,ZA⟩:=hargs.some h2
 have mW:args[t]?=some v:=by simpa using hv
 have hlt:t<args.size:=(aaR.1 mW).1
 have:(args++Array.replicate (fn.ntmps-args.size) undef).getD t undef=v:=by
  simp only[adZ]
  rw[Array.getElem?_append_left hlt,mW]
  rfl
 rw[this]
 exact ZA
theorem fn_end{fn:Func}{mu:List aN}(hr:LN P fn.results.toList=some mu){ρ':Pl}{T':Nat->Prop}{env':Env}{aa:Rows}{a':Act}{w':World}(ib:eQ fn.ntmps ρ' T' env' aa a' w'){l:List D}(hl:BQ env' aa mu=some l):
  ∃v,(results fn a'.tmps).run P w'= .ok v w'/\VR ρ' w' T' (zS l) v:=by
 obtain⟨vs,h1,h2⟩:=LO ib hr hl
 have hm:(fn.results.mapM (λr:ResultVar=>(match r with| .tmp t=>pure (a'.tmps.getD t undef)| .cell x t=>do loadVar t (<-asAddr (a'.tmps.getD x undef)):Sem Value))).run P w'= .ok vs.toArray w':=by
  rw[ad7]
  simp only[Sem.run_map,h1,Result.andThen_ok]
 have hlen:=h2.len
 have e0:(results fn a'.tmps).run P w'=((fn.results.mapM (λr:ResultVar=>(match r with| .tmp t=>pure (a'.tmps.getD t undef)| .cell x t=>do loadVar t (<-asAddr (a'.tmps.getD x undef)):Sem Value))).run P w').andThen
   λvs w'=>(pure (if h:vs.size=1 then vs[0]else .tuple vs):Sem Value).run P w':=by
  unfold results
  rw[Sem.run_bind]
  rfl
 rw[e0,hm]
 simp only[Result.andThen_ok,Sem.run_pure,adm]
 by_cases h1':vs.length=1
 ·have zw:l.length=1:=by omega
  obtain⟨v,rfl⟩:=List.length_eq_one_iff.1 h1'
  obtain⟨d,rfl⟩:=List.length_eq_one_iff.1 zw
  exact⟨v,by simp,VR.zP h2.head⟩
 ·refine⟨.tuple vs.toArray,by simp[h1'],?_⟩
  have:zS l= .cd l:=by
   have zw:l.length≠1:=by omega
   clear hlen h2 hl h1 hm e0
   match l,zw with
   |[],_=>rfl
   |[d],hq=>exact absurd rfl hq
   | _::_::_,_=>rfl
  rw[this]
  exact⟨vs.toArray,rfl,by simpa using h2⟩
theorem PT(hC:aI C P){f:FuncId}{fn:Func}{ac:aj}{mu:List aN}{np:Nat}(hf:P.funcs[f]?=some fn)(hb:o2 fn.body (comp P fn.ntmps)=some ac)(hr:LN P fn.results.toList=some mu)(hnp:np<=fn.ntmps):
  aQ C.aZ P f (aB C np mu ac):=by
 intro ds rows K ⟨hlen,h⟩ ρ w T args hrows nD BL hargs SD
 obtain⟨c,hbody,hcomp⟩:=aF hb
 refine calls_of_wp hf hbody ?_
 refine SL hC c ac hcomp _ _ _ rows ρ T _ w h (fn_start hnp hlen hrows nD BL hargs) SD ?_
 intro e env' aa ρ' T' a' w' ⟨he,hk⟩ ib hst
 obtain⟨l,hl,hk⟩:=au hk
 obtain⟨v,hv1,hv2⟩:=fn_end hr ib hl
 have hback:Eg K ρ T rows w (.returned v) w':=⟨v,zS l,aa,ρ',T',rfl,hk,ib.bF,ib.w9,ib.w8,hst,hv2⟩
 rcases he with rfl|rfl
 ·exact⟨ib.defers,v,hv1,hback⟩
 ·exact⟨ib.defers,v,hv1,hback⟩
end Go.Am
namespace Go.Am
variable {C:aU} {P:Program} {n:Nat} {ρ:Pl} {T:Nat->Prop} {env:Env} {rows:Rows} {a:Act} {w:World}
inductive xE (rows:Rows):D->D->Rows->Prop where
 |val (d:D):bb d=false->xE rows d d []
 |frz (d d':D):view rows 9 d=some d'->xE rows d d' []
 |frzT (l l':List D):eK (view rows 9) l=some l'->xE rows (.cd l) (.cd l') []
 |own (s:Sh) (r off len:Nat) (ex uh:Bool) (row:Row):live rows r=some row->row.sh.pure=true->(uh=true->ex=true)->xE rows (.sl s r [] off len ex) (.sl s 0 [] off len uh) [some row]
 |nil0 (s:Sh):xE rows (.raw (.slice none 0 0)) (.sl s 0 [] 0 0 false) [some ⟨s,[]⟩]
 | Nl (s : Sh) (r off len : Nat) (ex uh : Bool) (row : Row) (l : List D) : live rows r = some row -> row.sh.pure = true -> aX l = false -> (uh = true -> ex = true) ->
   xE rows (.cd (.sl s r [] off len ex::l)) (.cd (.sl s 0 [] off len uh::l)) [some row]
 | ownU (z : List D) (s : Sh) (r off len : Nat) (ex uh : Bool) (row : Row) (l : List D) : live rows r = some row -> row.sh.pure = true -> aX z = false -> aX l = false -> (uh = true -> ex = true) ->
   xE rows (.cd (z++ .sl s r [] off len ex::l)) (.cd (z++ .sl s 0 [] off len uh::l)) [some row]
 | ownA (S : Sh) (z : List D) (s : Sh) (r off len : Nat) (ex uh : Bool) (row : Row) (l : List D) : live rows r = some row -> row.sh.pure = true -> aX z = false -> aX l = false -> (uh = true -> ex = true) ->
   xE rows (.agg S (z++ .sl s r [] off len ex::l)) (.agg S (z++ .sl s 0 [] off len uh::l)) [some row]
 | own2 (z y l : List D) (s s2 : Sh) (r r2 off len Nm Nn : Nat) (ex uh ZE ex2' : Bool) (row sK : Row) : live rows r = some row -> live rows r2 = some sK -> r ≠ r2 -> row.sh.pure = true -> sK.sh.pure = true -> aX z = false -> aX y = false -> aX l = false ->
   (uh=true->ex=true)->(ex2'=true->ZE=true)->
   xE rows (.cd (z++ .sl s r [] off len ex::(y++ .sl s2 r2 [] Nm Nn ZE::l))) (.cd (z++ .sl s 0 [] off len uh::(y++ .sl s2 1 [] Nm Nn ex2'::l))) [some row,some sK]
def wj(L L2:Option Loc):Pl:=λr=>if r=0 then L else if r=1 then L2 else none
def BR(L:Option Loc):Pl:=λr=>if r=0 then L else none
theorem Step.emp{ρ':Pl}{T':Nat->Prop}{w':World}{aa:Rows}(hst:Step ρ T [] w ρ' T' aa w')(nD:∀r,ρ r=none):∀r row L,live aa r=some row->ρ' r=some L->w.heap.size<=L.b:=by
 intro r row L h1 h2
 rcases hst.fresh r row L h1 h2 with⟨r0,wP,L0,h3,_⟩|h3
 ·simp[live]at h3
 ·exact h3
theorem nC.pure{ρ':Pl}{row:Row}{L:Loc}{T':Nat->Prop}(h:nC ρ row L w T)(hp:row.sh.pure=true):nC ρ' row L w T:=by
 refine⟨h.sh,h.nZ,h.els,λhm=>?_,h.rb⟩
 obtain⟨cur,t,h1,h2,h3,h4⟩:=h.cells hm
 exact⟨cur,t,h1,h2,h3,h4.ofRaw (lB h.els hp)⟩
theorem Ek:∀{l:List D} {x:D},x∈ak l->∃d∈l,x∈d.flat
 |[],x,h=>by simp[ak]at h
 | d :: l, x, h => by
  simp only[ak,aaQ]at h
  rcases h with h|h
  ·exact⟨d,by simp,h⟩
  ·obtain⟨e,h1,h2⟩:=Ek h
   exact⟨e,by simp[h1],h2⟩
theorem view_tup{k:Nat}{d:D}{z:List D}(h:view rows k d=some (.cd z)):False:=by
 cases k with
 |zero=>simp[view]at h
 | succ k =>
  cases d with
  | dh s l e =>
   simp only[view]at h
   cases hp:s.pure with
   |true=>simp[hp]at h
   |false=>
    simp only[hp,aaK]at h
    split at h<;>cases h
  | agg s l =>
   simp only[view]at h
   cases hp:s.pure with
   |true=>simp[hp]at h
   |false=>
    simp only[hp,aaK]at h
    split at h<;>cases h
  | sl s r p off len e =>
   simp only[view]at h
   split at h
   ·rename_i l hl
    cases hb:(l.length==len)with
    |false=>simp[hb]at h
    | true =>
     simp only[hb,abw,aaK]at h
     cases hp:s.pure with
     |true=>simp[hp]at h
     |false=>
      simp only[hp,aaK]at h
      split at h<;>cases h
   ·cases h
  |mp r=>
   simp only[view]at h
   split at h<;>cases h
  | ptr s r p =>
   simp only[view]at h
   split at h
   ·split at h
    ·cases hp:s.pure with
     |true=>simp[hp]at h
     |false=>
      simp only[hp,aaK]at h
      split at h<;>cases h
    ·cases h
   ·cases h
  |cb d=>
   simp only[view]at h
   cases hp:bb d with
   |true=>simp[hp]at h
   |false=>simp only[hp,aaK]at h;cases h
  | _=>simp[view]at h
theorem Eg.No{K K':D->Rows->Prop}{e:Ending}{w':World}(nD:∀r,ρ r=none)(h:Eg K ρ T [] w e w')(hk:∀d rows,K d rows->∃d' aa,xE rows d d' aa/\K' d' aa):Eg K' ρ T [] w e w':=by
 obtain⟨v,d,aa,ρ',T',he,Gv,hrows,hd,ht,hst,hv⟩:=h.ex
 obtain⟨d',fb,hx,Ps⟩:=hk d aa Gv
 have jO:=hst.emp nD
 have ev0:∀(r:Nat) (row:Row),live ([]:Rows) r≠some row:=by intro r row h;simp[live]at h
 have hT:∀b,T b->w'.heap[b]?=w'.heap[b]?:=λ_ _=>rfl
 --nothing left
 have val:VR fB w' T' d' v->Eg (λd r=>d=d'/\r=[]) ρ T [] w e w':=by
  intro mW
  exact⟨v,d',[],fB,T',he,⟨rfl,rfl⟩,⟨λr row L h=>absurd h (ev0 r row),λr _ row _ _ _ h=>absurd h (ev0 r row)⟩,λ_ _=>rfl,ht,
   ⟨λr L hr=>by rw[nD r]at hr;(cases hr),hst.tt,hst.vn,hst.size,hst.keep,λr row L h=>absurd h (ev0 r row),hst.os,hst.tape,hst.output,aax _,λr hr=>by simp at hr⟩,mW⟩
 have frz:VR fB w' (Su ρ' T' aa) d' v->Eg (λd r=>d=d'/\r=[]) ρ T [] w e w':=by
  intro mW
  refine⟨v,d',[],fB,Su ρ' T' aa,he,⟨rfl,rfl⟩,⟨λr row L h=>absurd h (ev0 r row),λr _ row _ _ _ h=>absurd h (ev0 r row)⟩,λ_ _=>rfl,?_,
   ⟨λr L hr=>by rw[nD r]at hr;(cases hr),λb hb=> .inl (hst.tt b hb),?_,hst.size,hst.keep,λr row L h=>absurd h (ev0 r row),hst.os,hst.tape,hst.output,aax _,λr hr=>by simp at hr⟩,mW⟩
  ·rintro b (h1|⟨r,row,L,h1,h2,rfl⟩)
   ·exact ht b h1
   ·exact(hrows.row r row L h1 h2).lt
  ·rintro b (h1|⟨r,row,L,h1,h2,rfl⟩)
   ·exact hst.vn b h1
   ·exact .inr (.inl (jO r row L h1 h2))
 have own:∀(r:Nat) (row:Row),live aa r=some row->row.sh.pure=true->VR (BR (ρ' r)) w' T' d' v->Eg (λd r=>d=d'/\r=[some row]) ρ T [] w e w':=by
  intro r row hl hp mW
  have G9:∀q row',live [some row] q=some row'->q=0/\row'=row:=by
   intro q row' hq
   cases q with
   |zero=>simp[live]at hq;exact⟨rfl,hq.symm⟩
   |succ q=>simp[live]at hq
  refine⟨v,d',[some row],BR (ρ' r),T',he,⟨rfl,rfl⟩,⟨λq row' L h1 h2=>?_,λq q' Gq sK L L' h1 h2 _ _ hne=>?_⟩,λq hq=>?_,ht,
   ⟨λr L hr=>by rw[nD r]at hr;(cases hr),hst.tt,hst.vn,hst.size,hst.keep,λq row' L h1 h2=>?_,hst.os,hst.tape,hst.output,by simp,λr hr=>by simp at hr⟩,mW⟩
  ·obtain⟨rfl,rfl⟩:=G9 q row' h1
   simp only[BR,abR]at h2
   exact(hrows.row r row' L hl h2).pure (T':=T') hp
  ·exact absurd ((G9 q Gq h1).1.trans (G9 q' sK h2).1.symm) hne
  ·simp at hq
   unfold BR
   rw[aaC (by omega)]
  ·obtain⟨rfl,rfl⟩:=G9 q row' h1
   simp only[BR,abR]at h2
   exact .inr (jO r row' L hl h2)
 have sl1:∀(s:Sh) (r off len:Nat) (ex uh:Bool) (v:Value),(uh=true->ex=true)->LR ρ' w' T' (.sl s r [] off len ex) v->LR (BR (ρ' r)) w' T' (.sl s 0 [] off len uh) v:=by
  intro s r off len ex uh v hee FB
  cases FB with
  |sl _ _ _ _ _ _ L cap h1 h2 h3 h4=>exact .sl s 0 [] off len uh L cap (by simp[BR,h1]) h2 (λh=>h3 (hee h)) h4
  |Bm _ _ _ _ _ a=>exact .Bm s 0 [] off uh a
 have own2:∀(r r2:Nat) (row sK:Row),live aa r=some row->live aa r2=some sK->r≠r2->row.sh.pure=true->sK.sh.pure=true->VR (wj (ρ' r) (ρ' r2)) w' T' d' v->Eg (λd r=>d=d'/\r=[some row,some sK]) ρ T [] w e w':=by
  intro r r2 row sK hl Ea hne2 hp qL mW
  have G9:∀q row',live [some row,some sK] q=some row'->(q=0/\row'=row)\/(q=1/\row'=sK):=by
   intro q row' hq
   match q,hq with
   |0,hq=>simp[live]at hq;exact .inl ⟨rfl,hq.symm⟩
   |1,hq=>simp[live]at hq;exact .inr ⟨rfl,hq.symm⟩
   |q+2,hq=>simp[live]at hq
  have t0:wj (ρ' r) (ρ' r2) 0=ρ' r:=by simp[wj]
  have t1:wj (ρ' r) (ρ' r2) 1=ρ' r2:=by simp[wj]
  refine⟨v,d',[some row,some sK],wj (ρ' r) (ρ' r2),T',he,⟨rfl,rfl⟩,⟨λq row' L h1 h2=>?_,λq q' Gq row3 L L' h1 h2 h3 h4 hne=>?_⟩,λq hq=>?_,ht,
   ⟨λr L hr=>by rw[nD r]at hr;(cases hr),hst.tt,hst.vn,hst.size,hst.keep,λq row' L h1 h2=>?_,hst.os,hst.tape,hst.output,by simp,λr hr=>by simp at hr⟩,mW⟩
  ·rcases G9 q row' h1 with⟨rfl,rfl⟩|⟨rfl,rfl⟩
   ·rw[t0]at h2
    exact(hrows.row r row' L hl h2).pure (T':=T') hp
   ·rw[t1]at h2
    exact(hrows.row r2 row' L Ea h2).pure (T':=T') qL
  ·rcases G9 q Gq h1 with⟨rfl,rfl⟩|⟨rfl,rfl⟩<;>rcases G9 q' row3 h2 with⟨rfl,rfl⟩|⟨rfl,rfl⟩
   ·exact absurd rfl hne
   ·rw[t0]at h3;rw[t1]at h4
    exact hrows.lR r r2 _ _ L L' hl Ea h3 h4 hne2
   ·rw[t1]at h3;rw[t0]at h4
    exact hrows.lR r2 r _ _ L L' Ea hl h3 h4 (abh hne2)
   ·exact absurd rfl hne
  ·simp at hq
   unfold wj
   rw[aaC (by omega),aaC (by omega)]
  ·rcases G9 q row' h1 with⟨rfl,rfl⟩|⟨rfl,rfl⟩
   ·rw[t0]at h2
    exact .inr (jO r row' L hl h2)
   ·rw[t1]at h2
    exact .inr (jO r2 row' L Ea h2)
 have sl2:∀(s:Sh) (r r' q off len:Nat) (ex uh:Bool) (v:Value) (Sa:Pl),Sa q=ρ' r->(uh=true->ex=true)->LR ρ' w' T' (.sl s r [] off len ex) v->LR Sa w' T' (.sl s q [] off len uh) v:=by
  intro s r r' q off len ex uh v Sa hq hee FB
  cases FB with
  |sl _ _ _ _ _ _ L cap h1 h2 h3 h4=>exact .sl s q [] off len uh L cap (by rw[hq];exact h1) h2 (λh=>h3 (hee h)) h4
  |Bm _ _ _ _ _ a=>exact .Bm s q [] off uh a
 have done:Eg (λd r=>d=d'/\r=fb) ρ T [] w e w'->Eg K' ρ T [] w e w':=by
  rintro⟨v,d2,r2,Sa,T2,q1,⟨rfl,rfl⟩,q3⟩
  exact⟨v,d2,r2,Sa,T2,q1,Ps,q3⟩
 refine done ?_
 cases hx with
 |val _ h1=>exact val (hv.closed h1)
 |frz _ _ h1=>exact frz (Nc hrows h1 hv)
 | frzT l l' h1 =>
  obtain⟨vs,rfl,bW⟩:=hv
  refine frz ⟨vs,rfl,?_⟩
  obtain⟨g1,g2⟩:=lC h1
  refine⟨by rw[g1];exact bW.len,λi x y hx hy=>?_⟩
  have pY:i<l.length:=by rw[<-g1];exact dj hx
  have hxi:=aao pY
  have:=Nc hrows (g2 i _ _ hxi hx) (VR.zP (bW.at_ i _ y hxi hy))
  cases x with
  |cd z=>
   exact(view_tup (g2 i _ _ hxi hx)).elim
  | _=>exact this
 |own s r off len ex uh row h1 h2 h4=>exact own r row h1 h2 (VR.bE (sl1 s r off len ex uh v h4 hv))
 | nil0 s =>
  have mW:=hv.ofRaw
  subst mW
  refine⟨_,_,[some ⟨s,[]⟩],fB,T',he,⟨rfl,rfl⟩,⟨λ_ _ _ _ h=>(by cases h),λ_ _ _ _ _ _ _ _ h=>(by cases h)⟩,λ_ _=>rfl,ht,
   ⟨λr L hr=>by rw[nD r]at hr;(cases hr),hst.tt,hst.vn,hst.size,hst.keep,λ_ _ _ _ h=>(by cases h),hst.os,hst.tape,hst.output,by simp,λr hr=>by simp at hr⟩,VR.bE (.Bm s 0 [] 0 false none)⟩
 | Nl s r off len ex uh row l h1 h2 h3 h4 =>
  obtain⟨vs,rfl,bW⟩:=hv
  refine own r row h1 h2 ⟨vs,rfl,?_⟩
  cases hvs:vs.toList with
  |nil=>rw[hvs]at bW;have:=bW.len;simp at this
  |cons v0 vs'=>
   rw[hvs]at bW
   refine .cons (sJ.bE (sl1 s r off len ex uh v0 h4 bW.head)) ?_
   have ht:=bW.tail
   refine⟨ht.len,λi x y hx hy=>?_⟩
   exact((ht.at_ i x y hx hy).closed (fu h3 x (bQ hx))).mono (by intro r L h;cases h) (λ_ _=>rfl) (λ_ h=>h)
 | ownU z s r off len ex uh row l h1 h2 h3 h5 h4 =>
  obtain⟨vs,rfl,bW⟩:=hv
  refine own r row h1 h2 ⟨vs,rfl,?_⟩
  refine⟨by rw[<-bW.len];simp,λi x y hx hy=>?_⟩
  have same:∀x,(z++ .sl s r [] off len ex::l)[i]?=some x->bb x=false->sJ (BR (ρ' r)) w' T' x y:=λx hx hr=>
   ((bW.at_ i x y hx hy).closed hr).mono (by intro r L h;cases h) (λ_ _=>rfl) (λ_ h=>h)
  by_cases c:i<z.length
  ·rw[aaM c]at hx
   exact same x (by rw[aaM c];exact hx) (fu h3 x (bQ hx))
  ·rw[aaO (by omega)]at hx
   have hz:(z++ .sl s r [] off len ex::l)[i]?=(D.sl s r [] off len ex::l)[i-z.length]?:=aaO (by omega)
   cases hi:i-z.length with
   |zero=>
    rw[hi]at hx hz
    simp only[abG,abY]at hx hz
    subst hx
    exact sJ.bE (sl1 s r off len ex uh y h4 (bW.at_ i _ y hz hy))
   |succ m=>
    rw[hi]at hx hz
    simp only[ab1]at hx hz
    exact same x (by rw[hz];exact hx) (fu h5 x (bQ hx))
 | ownA S z s r off len ex uh row l h1 h2 h3 h5 h4 =>
  obtain⟨cs,rfl,hsh,bW⟩:=hv
  obtain⟨l0,e,hlen,fK⟩:=hsh.jX (p9 hsh).2
  cases e
  have hz:∀x∈ak z,bb x=false:=λx hx=>by
   obtain⟨d,hd,hxd⟩:=Ek hx
   obtain⟨i,hi,rfl⟩:=aa0.1 hd
   obtain⟨e,he⟩:=mV (s:=S) (i:=i) (by rw[<-hlen,aap];omega)
   exact pA (fK i e _ he (by rw[aaM hi];exact aao hi)) (fu h3 _ hd) x hxd
  have hl:∀x∈ak l,bb x=false:=λx hx=>by
   obtain⟨d,hd,hxd⟩:=Ek hx
   obtain⟨i,hi,rfl⟩:=aa0.1 hd
   obtain⟨e,he⟩:=mV (s:=S) (i:=z.length+1+i) (by rw[<-hlen,aap,aaP];omega)
   exact pA (fK _ e _ he (by rw[aaO (by omega),show z.length+1+i-z.length=i+1 by omega,ab1];exact aao hi)) (fu h5 _ hd) x hxd
  have same:∀{x y},LR ρ' w' T' x y->bb x=false->LR (BR (ρ' r)) w' T' x y:=λh hr=>(h.closed hr).mono (by intro r L h;cases h) (λ_ _=>rfl) (λ_ h=>h)
  refine own r row h1 h2 ⟨cs,rfl,.agg _ _ (p9 hsh).2 (by rw[<-hlen];simp) λi e d hi hd=>?_,?_⟩
  ·by_cases c:i<z.length
   ·rw[aaM c]at hd
    exact fK i e d hi (by rw[aaM c];exact hd)
   ·rw[aaO (by omega)]at hd
    have:=fK i e ((D.sl s r [] off len ex::l).getD (i-z.length) default) hi
    rw[aaO (by omega)]at this
    cases hm:i-z.length with
    |zero=>
     rw[hm]at hd this
     cases hd
     cases this rfl
     exact .ref _ rfl
    |succ m=>
     rw[hm]at hd this
     simp only[ab1]at hd this
     have h6:=this (by rw[hd];simp[List.getD,hd])
     simpa[List.getD,hd]using h6
  ·rw[ei]at bW⊢
   simp only[ak,D.flat]at bW⊢
   refine⟨by rw[<-bW.len];simp,λi x y hx hy=>?_⟩
   by_cases c:i<(ak z).length
   ·rw[aaM c]at hx
    exact same (bW.at_ i x y (by rw[aaM c];exact hx) hy) (hz x (bQ hx))
   ·have q:=bW.at_ i
    rw[aaO (by omega)]at hx q
    cases hm:i-(ak z).length with
    |zero=>
     rw[hm]at hx q
     cases hx
     exact sl1 s r off len ex uh y h4 (q _ y rfl hy)
    |succ m=>
     rw[hm]at hx q
     exact same (q x y hx hy) (hl x (bQ hx))
 | own2 z y l s s2 r r2 off len Nm Nn ex uh ZE ex2' row sK h1 h2 hne p1 p2 h3 h5 h6 h4 h7 =>
  obtain⟨vs,rfl,bW⟩:=hv
  refine own2 r r2 row sK h1 h2 hne p1 p2 ⟨vs,rfl,?_⟩
  have t0:wj (ρ' r) (ρ' r2) 0=ρ' r:=by simp[wj]
  have t1:wj (ρ' r) (ρ' r2) 1=ρ' r2:=by simp[wj]
  refine⟨by rw[<-bW.len];simp,λi x x' hx hy=>?_⟩
  have same:∀x,(z++ .sl s r [] off len ex::(y++ .sl s2 r2 [] Nm Nn ZE::l))[i]?=some x->bb x=false->sJ (wj (ρ' r) (ρ' r2)) w' T' x x':=λx hx hr=>
   ((bW.at_ i x x' hx hy).closed hr).mono (by intro r L h;cases h) (λ_ _=>rfl) (λ_ h=>h)
  by_cases c:i<z.length
  ·rw[aaM c]at hx
   exact same x (by rw[aaM c];exact hx) (fu h3 x (bQ hx))
  ·rw [aaO (by omega)] at hx
   have hz:(z++ .sl s r [] off len ex::(y++ .sl s2 r2 [] Nm Nn ZE::l))[i]?=(D.sl s r [] off len ex::(y++ .sl s2 r2 [] Nm Nn ZE::l))[i-z.length]?:=aaO (by omega)
   cases hi:i-z.length with
   |zero=>
    rw[hi]at hx hz
    simp only[abG,abY]at hx hz
    subst hx
    exact sJ.bE (sl2 s r 0 0 off len ex uh x' _ t0 h4 (bW.at_ i _ x' hz hy))
   | succ m =>
    rw[hi]at hx hz
    simp only[ab1]at hx hz
    by_cases c2:m<y.length
    ·rw[aaM c2]at hx hz
     exact same x (by rw[hz];exact hx) (fu h5 x (bQ hx))
    ·have hz2:(y++D.sl s2 r2 [] Nm Nn ZE::l)[m]?=(D.sl s2 r2 [] Nm Nn ZE::l)[m-y.length]?:=aaO (by omega)
     rw[aaO (by omega)]at hx
     rw[hz2]at hz
     cases hm:m-y.length with
     |zero=>
      rw[hm]at hx hz
      simp only[abG,abY]at hx hz
      subst hx
      exact sJ.bE (sl2 s2 r2 0 1 Nm Nn ZE ex2' x' _ t1 h7 (bW.at_ i _ x' hz hy))
     |succ q=>
      rw[hm]at hx hz
      simp only[ab1]at hx hz
      exact same x (by rw[hz];exact hx) (fu h6 x (bQ hx))
def mz:List (Nat×Fn)->FuncId->Option Fn
 |[],_=>none
 |(k,F)::l,f=>bif k==f then some F else mz l f
theorem Vs{G:Nat->Option D}:aI ⟨G,mz [],λ_=>none,λ_=>none⟩ P:=⟨(by intro f F h;cases h),(by intro f F h;cases h),(by intro f F h;cases h)⟩
theorem az{G:Nat->Option D}{k:Nat}{F:Fn}{l:List (Nat×Fn)}{r:FuncId->Option lQ}{q:FuncId->Option QFun}(h:aQ G P k (Fn.run F))(hl:aI ⟨G,mz l,r,q⟩ P):aI ⟨G,mz ((k,F)::l),r,q⟩ P:=by
 refine⟨?_,hl.2⟩
 intro f F' hf
 simp only[mz]at hf
 cases hb:(k==f)with
 |true=>
  rw[hb]at hf
  have:k=f:=by simpa using hb
  subst this
  cases hf
  exact h
 |false=>
  rw[hb]at hf
  exact hl.1 f F' hf
def ou:List (Nat×lQ)->FuncId->Option lQ
 |[],_=>none
 |(k,F)::l,f=>bif k==f then some F else ou l f
theorem ctx_nilr{G:Nat->Option D}:aI ⟨G,mz [],ou [],λ_=>none⟩ P:=⟨(by intro f F h;cases h),(by intro f F h;cases h),(by intro f F h;cases h)⟩
theorem aC{G:Nat->Option D}{k:Nat}{A:lQ}{t:FuncId->Option Fn}{l:List (Nat×lQ)}{q:FuncId->Option QFun}(h:aQ G P k A)(hl:aI ⟨G,t,ou l,q⟩ P):aI ⟨G,t,ou ((k,A)::l),q⟩ P:=by
 refine⟨hl.1,?_,hl.2.2⟩
 intro f F' hf
 simp only[ou]at hf
 cases hb:(k==f)with
 |true=>
  rw[hb]at hf
  have:k=f:=by simpa using hb
  subst this
  cases hf
  exact h
 |false=>
  rw[hb]at hf
  exact hl.2.1 f F' hf
end Go.Am
